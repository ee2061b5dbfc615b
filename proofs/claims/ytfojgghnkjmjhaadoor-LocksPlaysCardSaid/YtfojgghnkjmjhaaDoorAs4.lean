/- fault: Code and Trail. -/
import Derived.Test.YtfojgghnkjmjhaaDoorAs3
import Derived.Test.YtfojgghnkjmjhaaDoorOpen
import Derived.Laws.AppendOwn
namespace Go.Proofs.YtfojgghnkjmjhaaDoor
open Go.RowKit Go.My
set_option maxRecDepth 100000 in
theorem code_nil (w : World) : Calls Tryd.prog 9 #[.nilIface] w fun e w' => e = .returned (.int .i64 0) ∧ Below w.heap.size w w' := by
  have HB : Hid (∀ o, Below w.heap.size w (w.alloc o)) := fun o => (Below.refl _ w).alloc (Nat.le_refl _) o
  go_enter Tryd.func9, Tryd.ntmps9
  go_wp2_with fail
  go_ret
  exact ⟨rfl, HB.out _⟩
set_option maxRecDepth 100000 in
theorem code_of (n : Int) (st : List StepT) (w : World) (hg : TypeIs w) : Calls Tryd.prog 9 #[errOf n st] w fun e w' => e = .returned (.int .i64 n) ∧ Below w.heap.size w w' := by
  obtain ⟨W1, hW1⟩ : ∃ W1, W1 = w.alloc (.cells #[.int .i64 9] 37) := ⟨_, rfl⟩
  have hb1 : Below w.heap.size w W1 := by rw [hW1]; exact (Below.refl _ w).alloc (Nat.le_refl _) _
  have HB1 := Lib.hid hb1
  have HC := Lib.hid (asN_hit n st w.heap.size (.int .i64 9) W1 (hg.below hg.lt hb1) (by rw [hW1]; exact heap_alloc_new w _))
  obtain ⟨T, v, hE⟩ := errOf_form n st
  rw [hE] at HC ⊢
  clear hE hb1 hg
  subst hW1
  go_enter Tryd.func9, Tryd.ntmps9
  go_wp2_with fail
  refine HC.out.mono ?_
  rintro e w' ⟨rfl, hw, hh⟩
  have hc : w'.cell? ⟨w.heap.size, 0, none⟩ = some (.int .i64 n) := by rw [cell_of_row _ _ _ _ _ _ hh]; rfl
  have hl := lt_of_heap hh
  have HE : Hid (Below w.heap.size w w') := HB1.out.trans (hw.below HB1.out.size fun g hg => by
    obtain rfl : g = w.heap.size := by simpa using hg
    exact Nat.le_refl _)
  clear hw hh
  go_wp2_with fail
  go_ret
  exact ⟨rfl, HE.out⟩
def stepL (s : StepT) : List Value := [.string s.1, .int .i64 s.2]
theorem stepL_len (s : StepT) : (stepL s).length = 2 := rfl
theorem step_info : (Tryd.prog.info? 39).map (fun i => (i.zero, i.size, i.bytes)) = some (some (.agg #[.string ByteArray.empty, .int .i64 0]), 2, 24) := by kernel_rfl
/-- What Trail leaves: the steps, in a row of its own. -/
def TrailLeft (w : World) (st : List StepT) (e : Ending) (w' : World) : Prop := ∃ v, e = .returned v ∧ w'.ownsRow w.heap.size 39 2 v st.length (st.flatMap stepL) ∧ Below w.heap.size w w'
theorem two_cells (w : World) (s : StepT) (t : TypeId) (j : Nat) (u : Value) (h : (stepL s)[j]? = some u) : (w.alloc (.cells #[.string s.1, .int .i64 s.2] t)).cell? ((⟨w.heap.size, 0, none⟩ : Addr).add j) = some u := by
  rw [Addr.add_lit, Nat.zero_add, cell_of_row _ _ _ _ _ _ (heap_alloc_new w _)]
  simpa [stepL] using h
set_option maxRecDepth 100000 in
theorem trail_nil (w : World) : Calls Tryd.prog 11 #[.nilIface] w (TrailLeft w []) := by
  have HB : Hid (∀ o, Below w.heap.size w (w.alloc o)) := fun o => (Below.refl _ w).alloc (Nat.le_refl _) o
  have HC : Hid (∀ v W, Calls Tryd.prog 26 #[.nilIface, v] W fun e w' => e = .returned (.bool false) ∧ W = w') := fun v W => as_nil v W
  go_enter Tryd.func11, Tryd.ntmps11
  go_wp2_with fail
  refine wp_loop_rounds 1 ?_
  rw [rounds_succ]
  go_wp2_with (go_at_call 26; refine (HC.out _ _).mono ?_; rintro e w' ⟨rfl, rfl⟩)
  go_ret
  exact ⟨_, rfl, World.ownsRow_nil _ _ _ _, HB.out _⟩
set_option maxRecDepth 100000 in
set_option maxHeartbeats 3200000 in
theorem trail_of (n : Int) (st : List StepT) (w : World) (hg : TypeIs w) (hst : (st.length : Int) ≤ 70368744177664 / 24) : Calls Tryd.prog 11 #[errOf n st] w (TrailLeft w st) := by
  obtain ⟨i0, hi, hz0, hz1, hz2⟩ := info_parts step_info
  have HG := Lib.hid hg
  have HI := Lib.hid hi
  have HZ0 := Lib.hid hz0
  have HZ1 := Lib.hid hz1
  have HZ2 := Lib.hid hz2
  obtain ⟨W1, hW1⟩ : ∃ W1, W1 = w.alloc (.cells #[.string ⟨#[]⟩, .int .i64 0, .nilIface] 65) := ⟨_, rfl⟩
  have HB1 : Hid (Below w.heap.size w W1 ∧ W1.heap[w.heap.size]? = some (.cells #[.string ⟨#[]⟩, .int .i64 0, .nilIface] 65 (0, 0))) := by show _ ∧ _; rw [hW1]; exact ⟨(Below.refl _ w).alloc (Nat.le_refl _) _, heap_alloc_new w _⟩
  have P0 : Hid (st = [] ++ st ∧ (∃ o0 o1 o2, W1.heap[w.heap.size]? = some (.cells #[o0, o1, o2] 65 (0, 0))) ∧ W1.ownsRow w.heap.size 39 2 (.slice none 0 0) ([] : List StepT).length (([] : List StepT).flatMap stepL) ∧ Below w.heap.size w W1) := ⟨rfl, ⟨_, _, _, HB1.out.2⟩, World.ownsRow_nil _ _ _ _, HB1.out.1⟩
  clear hg hi hz0 hz1 hz2
  go_enter Tryd.func11, Tryd.ntmps11
  go_wp2_with fail
  rw [← hW1]
  clear hW1
  go_loopw [0, 3, 4] (fun x o p wr => ∃ (dn rs : List StepT) (b : Nat), x = errOf n rs ∧ p = .pointer (some ⟨b, 0, none⟩) ∧ w.heap.size ≤ b ∧ Hid (st = dn ++ rs ∧ (∃ o0 o1 o2, wr.heap[b]? = some (.cells #[o0, o1, o2] 65 (0, 0))) ∧ wr.ownsRow w.heap.size 39 2 o dn.length (dn.flatMap stepL) ∧ Below w.heap.size w wr)) (fun x _ _ _ => SizeOf.sizeOf x)
  case atStart => exact ⟨[], st, w.heap.size, rfl, rfl, Nat.le_refl _, P0⟩
  case round =>
    clear P0
    obtain ⟨dn, rs, b, rfl, rfl, hb, HR⟩ := hrel
    obtain ⟨hsplit, ⟨o0, o1, o2, hcell⟩, hrow, hbw⟩ := HR.out
    have hgr := HG.out.below HG.out.lt hbw
    cases rs with
    | nil =>
      have HC := Lib.hid (asW_miss n b wr hgr)
      obtain ⟨T, v, hE⟩ := errOf_form n []
      rw [hE] at HC ⊢
      have HS : Hid (st = dn) := by show _ = _; rw [hsplit, List.append_nil]
      clear hE hsplit hcell hrow hbw hgr
      go_wp2_with fail
      refine HC.out.mono ?_
      rintro e w2 ⟨rfl, hb2⟩
      have HE : Hid (TrailLeft w st (.returned u3) w2) := by
        show TrailLeft _ _ _ _
        rw [HS.out]
        exact ⟨_, rfl, row_below HR.out.2.2.1 hb2, HR.out.2.2.2.trans (hb2.mono HR.out.2.2.2.size)⟩
      clear hb2
      go_wp2_with fail
      go_ret
      exact HE.out
    | cons s rs1 =>
      have HC := Lib.hid (asW_hit s n rs1 b o0 o1 o2 wr hgr hcell)
      have HSZ : Hid (SizeOf.sizeOf (errOf n rs1) < SizeOf.sizeOf (errOf n (s :: rs1))) := by show _ < _; rw [errOf]; simp; omega
      obtain ⟨T, v, hE⟩ := errOf_form n (s :: rs1)
      obtain ⟨T1, v1, hE1⟩ := errOf_form n rs1
      have HE1 := Lib.hid hE1
      rw [hE, hE1] at HSZ
      rw [hE] at HC ⊢
      rw [hE1] at HC
      have hdl : dn.length < st.length := by rw [hsplit]; simp
      have hdl2 : (dn.length : Int) ≤ 70368744177664 / 24 := by omega
      have hgb : ∀ g, u3.ownBlock = some g → g ≠ b := fun g hg he => by
        subst he
        obtain ⟨_, cur, h⟩ := row_block hrow hg
        rw [hcell] at h
        cases h
      have HGB := Lib.hid hgb
      have HCELL := Lib.hid hcell
      clear hE hE1 hsplit hcell hrow hbw hgr hgb
      go_wp2_with fail
      refine HC.out.mono ?_
      rintro e w2 ⟨rfl, hw2, hh2⟩
      have c0 : w2.cell? ⟨b, 0, none⟩ = some (.string s.1) := by rw [cell_of_row _ _ _ _ _ _ hh2]; rfl
      have c1 : w2.cell? ⟨b, 1, none⟩ = some (.int .i64 s.2) := by rw [cell_of_row _ _ _ _ _ _ hh2]; rfl
      have c2 : w2.cell? ⟨b, 2, none⟩ = some (.iface T1 v1) := by rw [cell_of_row _ _ _ _ _ _ hh2]; rfl
      have hl := lt_of_heap hh2
      have HR2 : Hid (w2.ownsRow w.heap.size 39 2 u3 dn.length (dn.flatMap stepL) ∧ Below w.heap.size w w2) := ⟨row_wrote HR.out.2.2.1 hw2 fun g hg hm => HGB.out g hg (by simpa using hm), HR.out.2.2.2.trans (hw2.below HR.out.2.2.2.size fun g hg => by
        obtain rfl : g = b := by simpa using hg
        exact hb)⟩
      have HH2 := Lib.hid hh2
      clear hw2 hh2
      have h1c : ∀ u ∈ stepL s, u.oneCell' = true := by
        intro u hu
        simp only [stepL, List.mem_cons, List.not_mem_nil, or_false] at hu
        rcases hu with rfl | rfl <;> rfl
      have H1C := Lib.hid h1c
      clear h1c
      go_wp2_with (at_builtin; refine wpList_append_own _ rfl _ _ 44 rfl w.heap.size 39 i0 _ 2 24 Tryd.underlying44 HI.out HZ0.out HZ1.out HZ2.out rfl (by decide) _ _ _ rfl (HR2.out.1.alloc _) ⟨w2.heap.size, 0, none⟩ 1 1 (stepL s) rfl rfl (two_cells _ _ _) H1C.out (by unfold maxLen; omega) (by omega) (by have := HR2.out.2.size; simp; omega) ?_)
      intro v' w3 hown hgrow _
      have hw3 : Wrote u3.ownBlock.toList (w2.alloc (.cells #[.string s.1, .int .i64 s.2] 39)) w3 := Wrote.of_grown hgrow
      have hal : Below w2.heap.size w2 (w2.alloc (.cells #[.string s.1, .int .i64 s.2] 39)) := (Below.refl _ w2).alloc (Nat.le_refl _) _
      have hh3 : w3.heap[b]? = some (.cells #[.string s.1, .int .i64 s.2, .iface T1 v1] 65 (0, 0)) := by
        refine hw3.heap ((hal.block _ hl).trans HH2.out) ?_
        intro hm
        exact HGB.out b (by simpa using hm) rfl
      have c0 : w3.cell? ⟨b, 0, none⟩ = some (.string s.1) := by rw [cell_of_row _ _ _ _ _ _ hh3]; rfl
      have c1 : w3.cell? ⟨b, 1, none⟩ = some (.int .i64 s.2) := by rw [cell_of_row _ _ _ _ _ _ hh3]; rfl
      have c2 : w3.cell? ⟨b, 2, none⟩ = some (.iface T1 v1) := by rw [cell_of_row _ _ _ _ _ _ hh3]; rfl
      have hl := lt_of_heap hh3
      have HB3 : Hid (Below w.heap.size w w3 ∧ w3.ownsRow w.heap.size 39 2 v' (dn ++ [s]).length ((dn ++ [s]).flatMap stepL)) := by
        refine ⟨?_, by rw [List.length_append, List.flatMap_append]; simpa using hown⟩
        have hb := HR2.out.2.trans (hal.mono HR2.out.2.size)
        exact hb.trans (hw3.below hb.size fun g hg' => by
          simp only [Option.mem_toList] at hg'
          exact (row_block HR2.out.1 hg').1)
      have HNX : Hid (∀ o, Below w3.heap.size w3 (w3.alloc o)) := fun o => (Below.refl _ w3).alloc (Nat.le_refl _) o
      have HNW : Hid (∃ o0 o1 o2, (w3.alloc (.cells #[.string s.1, .int .i64 s.2, .iface T1 v1] 65)).heap[w3.heap.size]? = some (.cells #[o0, o1, o2] 65 (0, 0))) := ⟨_, _, _, heap_alloc_new w3 _⟩
      have HSP : Hid (st = (dn ++ [s]) ++ rs1) := by show _ = _; rw [HR.out.1]; simp
      clear hown hgrow hw3 hal hh3
      go_wp2_with fail
      exact ⟨⟨dn ++ [s], rs1, w3.heap.size, HE1.out.symm, rfl, HB3.out.1.size, HSP.out, HNW.out, row_below HB3.out.2 (HNX.out _), HB3.out.1.trans ((HNX.out _).mono HB3.out.1.size)⟩, HSZ.out⟩
end Go.Proofs.YtfojgghnkjmjhaaDoor
