/- Txn: the transaction of bytes. -/
import Derived.Test.YtaifmfnmgnmgbaaGreatDoorTxSome
import Derived.Test.YtaifmfnmgnmgbaaGreatDoorTxNew
import Derived.Test.YtaifmfnmgnmgbaaGreatDoorTxCheck
import Derived.Deep.DeepCutAuto
import Derived.Deep.CutBlock
namespace Go.Proofs.YtaifmfnmgnmgbaaGreatDoor.Txn
open Go.RowKit Go.My

def zeroT : Value := .agg #[.int .i64 0, .int .i64 0, .slice none 0 0, .slice none 0 0]
def txO (c n : Int) (v4 v5 : Value) : Obj := .cells #[.int .i64 c, .int .i64 n, v4, v5] 25 (0, 0)
structure GtSt (w W : World) (q0 q4 q6 rb : Nat) (c n : Int) (v4 v5 : Value) (s : St) : Prop where
  st : StAt W rb s
  b0 : W.heap[q0]? = some (txO 0 0 (.slice none 0 0) (.slice none 0 0))
  b4 : W.heap[q4]? = some (.cells #[.pointer (some ⟨rb, 0, none⟩)] 80 (0, 0))
  b6 : W.heap[q6]? = some (txO c n v4 v5)
  lt : w.heap.size ≤ q0 ∧ q0 < rb ∧ rb < q4 ∧ q4 < q6
  below : Below w.heap.size w W
section
variable {w W W' : World} {q0 q4 q6 rb : Nat} {c n : Int} {v4 v5 v : Value} {s s' : St}
theorem GtSt.next (h : GtSt w W q0 q4 q6 rb c n v4 v5 s) (hs : StAt W' rb s') (hw : Wrote [rb] W W') : GtSt w W' q0 q4 q6 rb c n v4 v5 s' := by
  have hl := h.lt
  exact ⟨hs, hw.heap h.b0 (by simp; omega), hw.heap h.b4 (by simp; omega), hw.heap h.b6 (by simp; omega), hl, h.below.trans (hw.below h.below.size fun k hk => by simp at hk; omega)⟩
theorem GtSt.low (h : GtSt w W q0 q4 q6 rb c n v4 v5 s) (hb : Below W.heap.size W W') : GtSt w W' q0 q4 q6 rb c n v4 v5 s := h.next (h.st.below hb) ((Wrote.of_below hb))
theorem GtSt.set2 (h : GtSt w W q0 q4 q6 rb c n v4 v5 s) (v : Value) : GtSt w (W.setCell ⟨q6, 2, none⟩ v) q0 q4 q6 rb c n v v5 s := by
  have hl := h.lt
  have hw : Wrote [q6] W (W.setCell ⟨q6, 2, none⟩ v) := (Wrote.refl _ _).setCell (.inl (by simp)) _
  exact ⟨h.st.wrote hw (by simp; omega), hw.heap h.b0 (by simp; omega), hw.heap h.b4 (by simp; omega), heap_setCell_same _ q6 2 _ _ v h.b6, hl, h.below.trans (hw.below h.below.size fun k hk => by simp at hk; omega)⟩
theorem GtSt.set3 (h : GtSt w W q0 q4 q6 rb c n v4 v5 s) (v : Value) : GtSt w (W.setCell ⟨q6, 3, none⟩ v) q0 q4 q6 rb c n v4 v s := by
  have hl := h.lt
  have hw : Wrote [q6] W (W.setCell ⟨q6, 3, none⟩ v) := (Wrote.refl _ _).setCell (.inl (by simp)) _
  exact ⟨h.st.wrote hw (by simp; omega), hw.heap h.b0 (by simp; omega), hw.heap h.b4 (by simp; omega), heap_setCell_same _ q6 3 _ _ v h.b6, hl, h.below.trans (hw.below h.below.size fun k hk => by simp at hk; omega)⟩
theorem GtSt.c4 (h : GtSt w W q0 q4 q6 rb c n v4 v5 s) : W.cell? ⟨q4, 0, none⟩ = some (.pointer (some ⟨rb, 0, none⟩)) := by rw [cell_of_row _ _ _ _ _ _ h.b4]; rfl
theorem GtSt.c6 (h : GtSt w W q0 q4 q6 rb c n v4 v5 s) : W.cell? ⟨q6, 0, none⟩ = some (.int .i64 c) ∧ W.cell? ⟨q6, 1, none⟩ = some (.int .i64 n) ∧ W.cell? ⟨q6, 2, none⟩ = some v4 ∧ W.cell? ⟨q6, 3, none⟩ = some v5 := by
  have hb := h.b6
  unfold txO at hb
  exact ⟨by rw [cell_of_row _ _ _ _ _ _ hb]; rfl, by rw [cell_of_row _ _ _ _ _ _ hb]; rfl, by rw [cell_of_row _ _ _ _ _ _ hb]; rfl, by rw [cell_of_row _ _ _ _ _ _ hb]; rfl⟩
theorem GtSt.c0 (h : GtSt w W q0 q4 q6 rb c n v4 v5 s) : W.cell? ⟨q0, 0, none⟩ = some (.int .i64 0) ∧ W.cell? ⟨q0, 1, none⟩ = some (.int .i64 0) ∧ W.cell? ⟨q0, 2, none⟩ = some (.slice none 0 0) ∧ W.cell? ⟨q0, 3, none⟩ = some (.slice none 0 0) := by
  have hb := h.b0
  unfold txO at hb
  exact ⟨by rw [cell_of_row _ _ _ _ _ _ hb]; rfl, by rw [cell_of_row _ _ _ _ _ _ hb]; rfl, by rw [cell_of_row _ _ _ _ _ _ hb]; rfl, by rw [cell_of_row _ _ _ _ _ _ hb]; rfl⟩
theorem GtSt.f6 (h : GtSt w W q0 q4 q6 rb c n v4 v5 s) (k : Nat) : W.frozen? ⟨q6, k, none⟩ = false := by unfold World.frozen?; rw [h.b6]; simp [txO]
theorem GtSt.f0 (h : GtSt w W q0 q4 q6 rb c n v4 v5 s) (k : Nat) : W.frozen? ⟨q0, k, none⟩ = false := by unfold World.frozen?; rw [h.b0]; simp [txO]
end
/-- what Get tells -/
def GetL (w : World) (l : List UInt8) (e : Ending) (w' : World) : Prop :=
  Below w.heap.size w w' ∧ ((∃ t ra rc wa wc, stTx (some l) = (t, some []) ∧ rightT t = true ∧ e = .returned (.tuple #[txV t ra rc wa wc, .nilIface]) ∧ TxAt w' t ra wa) ∨
    ((∀ t, stTx (some l) = (t, some []) → rightT t = false) ∧ ∃ T v, e = .returned (.tuple #[zeroT, .iface T v])))
set_option maxRecDepth 100000 in
theorem wrap_if (T : TypeId) (z : Value) (s : ByteArray) (n : Int) (w : World) : Calls Tryz.prog 68 #[.iface T z, .string s, .int .i64 n] w fun r w' => r = .returned (.iface 163 (.agg #[.string s, .int .i64 n, .iface T z])) ∧ w' = w := by
  go_enter Tryz.func68, Tryz.ntmps68
  go_wp2
  go_ret
  exact ⟨rfl, rfl⟩
set_option maxRecDepth 100000 in
theorem wrap_no (s : ByteArray) (n : Int) (w : World) : Calls Tryz.prog 68 #[.nilIface, .string s, .int .i64 n] w fun r w' => r = .returned .nilIface ∧ w' = w := by
  go_enter Tryz.func68, Tryz.ntmps68
  go_wp2
  go_ret
  exact ⟨rfl, rfl⟩
set_option maxRecDepth 100000 in
theorem twrap_if (T : TypeId) (z : Value) (w : World) : Calls Tryz.prog 30 #[.iface T z] w fun r w' => ∃ T' v, r = .returned (.iface T' v) ∧ w' = w := by
  have HW := Lib.hid (wrap_if T z ⟨#[116, 120, 110]⟩ 0 w)
  go_enter Tryz.func30, Tryz.ntmps30
  go_wp2_with (go_at_call 68; refine HW.out.mono ?_; rintro e w' ⟨rfl, rfl⟩)
  go_ret
  exact ⟨_, _, rfl, rfl⟩
set_option maxRecDepth 100000 in
theorem twrap_no (w : World) : Calls Tryz.prog 30 #[.nilIface] w fun r w' => r = .returned .nilIface ∧ w' = w := by
  have HW := Lib.hid (wrap_no ⟨#[116, 120, 110]⟩ 0 w)
  go_enter Tryz.func30, Tryz.ntmps30
  go_wp2_with (go_at_call 68; refine HW.out.mono ?_; rintro e w' ⟨rfl, rfl⟩)
  go_ret
  exact ⟨rfl, rfl⟩
set_option maxRecDepth 100000 in
set_option maxHeartbeats 6400000 in
theorem get_any (a : Option Addr) (cp : Nat) (l : List UInt8) (w : World) (h : LiesAt w a 1 uvL l) (hl : l.length ≤ 100000) (hnil : a = none → cp = 0) :
    Calls Tryz.prog 12 #[.slice a l.length cp] w (GetL w l) := by
  obtain ⟨W0, hW0⟩ : ∃ W0 : World, W0 = w.alloc (.cells #[.int .i64 0, .int .i64 0, .slice none 0 0, .slice none 0 0] 25) := ⟨_, rfl⟩
  obtain ⟨q0, hq0⟩ : ∃ q0, q0 = w.heap.size := ⟨_, rfl⟩
  have hb0 : Below w.heap.size w W0 := by rw [hW0]; exact bl_alloc _ _
  have hx0 : W0.heap[q0]? = some (txO 0 0 (.slice none 0 0) (.slice none 0 0)) := by rw [hW0, hq0]; exact heap_alloc_new w _
  have HW0 : Hid (w.alloc (.cells #[.int .i64 0, .int .i64 0, .slice none 0 0, .slice none 0 0] 25) = W0 ∧ w.heap.size = q0) := ⟨hW0.symm, hq0.symm⟩
  have HX0 : Hid (W0.heap[q0]? = some (txO 0 0 (.slice none 0 0) (.slice none 0 0)) ∧ Below w.heap.size w W0) := ⟨hx0, hb0⟩
  have HN := Lib.hid (new_any a cp l W0 (h.below hb0) hl hnil)
  obtain ⟨ln, hln⟩ : ∃ ln, ln = l.length := ⟨_, rfl⟩
  rw [← hln] at HN ⊢
  clear h hl hnil hW0 hq0 hb0 hx0 hln
  go_enter Tryz.func12, Tryz.ntmps12
  go_upto_region 1 with fail
  rw [HW0.out.1, HW0.out.2]
  go_wp2_with fail
  refine HN.out.mono ?_
  rintro e w1 ⟨rb, rfl, hs1, hrb, hb1⟩
  have hlt0 := lt_of_heap HX0.out.1
  have H1 : Hid (StAt w1 rb (some l) ∧ w1.heap[q0]? = some (txO 0 0 (.slice none 0 0) (.slice none 0 0)) ∧ Below w.heap.size w w1 ∧ q0 < rb ∧ rb < w1.heap.size) := ⟨hs1, (hb1.block _ hlt0).trans HX0.out.1, HX0.out.2.trans (hb1.mono HX0.out.2.size), by omega, hs1.lt⟩
  clear hs1 hrb hb1 hlt0
  obtain ⟨W1, hW1⟩ : ∃ W1 : World, W1 = w1.alloc (.cells #[.pointer (some ⟨rb, 0, none⟩)] 80) := ⟨_, rfl⟩
  obtain ⟨q4, hq4⟩ : ∃ q4, q4 = w1.heap.size := ⟨_, rfl⟩
  have hb1 : Below w1.heap.size w1 W1 := by rw [hW1]; exact bl_alloc _ _
  have hx4 : W1.heap[q4]? = some (.cells #[.pointer (some ⟨rb, 0, none⟩)] 80 (0, 0)) := by rw [hW1, hq4]; exact heap_alloc_new w1 _
  have HW1 : Hid (w1.alloc (.cells #[.pointer (some ⟨rb, 0, none⟩)] 80) = W1 ∧ w1.heap.size = q4) := ⟨hW1.symm, hq4.symm⟩
  have c4 : W1.cell? ⟨q4, 0, none⟩ = some (.pointer (some ⟨rb, 0, none⟩)) := by rw [cell_of_row _ _ _ _ _ _ hx4]; rfl
  have H2 : Hid (StAt W1 rb (some l) ∧ W1.heap[q0]? = some (txO 0 0 (.slice none 0 0) (.slice none 0 0)) ∧ W1.heap[q4]? = some (.cells #[.pointer (some ⟨rb, 0, none⟩)] 80 (0, 0)) ∧ Below w.heap.size w W1 ∧ (w.heap.size ≤ q0 ∧ q0 < rb ∧ rb < q4)) :=
    ⟨H1.out.1.below hb1, (hb1.block _ (lt_of_heap H1.out.2.1)).trans H1.out.2.1, hx4, H1.out.2.2.1.trans (hb1.mono H1.out.2.2.1.size), Nat.le_of_eq HW0.out.2, H1.out.2.2.2.1, by rw [hq4]; exact H1.out.2.2.2.2⟩
  clear hW1 hq4 hb1 hx4
  go_upto_region 2 with fail
  rw [HW1.out.1, HW1.out.2]
  go_wp2_with fail
  refine (num_any rb (some l) W1 H2.out.1).mono ?_
  rintro e w2 ⟨rfl, hs, hw⟩
  have HLT := Lib.hid H2.out.2.2.2.2
  have H3 : Hid (StAt w2 rb (stNum (some l)).2 ∧ w2.heap[q0]? = some (txO 0 0 (.slice none 0 0) (.slice none 0 0)) ∧ w2.heap[q4]? = some (.cells #[.pointer (some ⟨rb, 0, none⟩)] 80 (0, 0)) ∧ Below w.heap.size w w2) := by
    have hl := HLT.out
    exact ⟨hs, hw.heap H2.out.2.1 (by simp; omega), hw.heap H2.out.2.2.1 (by simp; omega), H2.out.2.2.2.1.trans (hw.below H2.out.2.2.2.1.size fun k hk => by simp at hk; omega)⟩
  clear hs hw c4
  obtain ⟨cz, hcz⟩ : ∃ cz, cz = (stNum (some l)).1 := ⟨_, rfl⟩
  have HCZ := Lib.hid hcz
  rw [← hcz]
  clear hcz
  have c4 : w2.cell? ⟨q4, 0, none⟩ = some (.pointer (some ⟨rb, 0, none⟩)) := by rw [cell_of_row _ _ _ _ _ _ H3.out.2.2.1]; rfl
  go_wp2_with fail
  refine (num_any rb _ w2 H3.out.1).mono ?_
  rintro e w3 ⟨rfl, hs, hw⟩
  have H4 : Hid (StAt w3 rb (stNum (stNum (some l)).2).2 ∧ w3.heap[q0]? = some (txO 0 0 (.slice none 0 0) (.slice none 0 0)) ∧ w3.heap[q4]? = some (.cells #[.pointer (some ⟨rb, 0, none⟩)] 80 (0, 0)) ∧ Below w.heap.size w w3) := by
    have hl := HLT.out
    exact ⟨hs, hw.heap H3.out.2.1 (by simp; omega), hw.heap H3.out.2.2.1 (by simp; omega), H3.out.2.2.2.trans (hw.below H3.out.2.2.2.size fun k hk => by simp at hk; omega)⟩
  clear hs hw c4
  obtain ⟨nz, hnz⟩ : ∃ nz, nz = (stNum (stNum (some l)).2).1 := ⟨_, rfl⟩
  have HNZ := Lib.hid hnz
  rw [← hnz]
  clear hnz
  obtain ⟨W3, hW3⟩ : ∃ W3 : World, W3 = w3.alloc (.cells #[.int .i64 cz, .int .i64 nz, .slice none 0 0, .slice none 0 0] 25) := ⟨_, rfl⟩
  obtain ⟨q6, hq6⟩ : ∃ q6, q6 = w3.heap.size := ⟨_, rfl⟩
  have hb3 : Below w3.heap.size w3 W3 := by rw [hW3]; exact bl_alloc _ _
  have hx6 : W3.heap[q6]? = some (txO cz nz (.slice none 0 0) (.slice none 0 0)) := by rw [hW3, hq6]; exact heap_alloc_new w3 _
  have HW3 : Hid (w3.alloc (.cells #[.int .i64 cz, .int .i64 nz, .slice none 0 0, .slice none 0 0] 25) = W3 ∧ w3.heap.size = q6) := ⟨hW3.symm, hq6.symm⟩
  have G3 : Hid (GtSt w W3 q0 q4 q6 rb cz nz (.slice none 0 0) (.slice none 0 0) (stNum (stNum (some l)).2).2) := by
    have hl := HLT.out
    exact ⟨H4.out.1.below hb3, (hb3.block _ (lt_of_heap H4.out.2.1)).trans H4.out.2.1, (hb3.block _ (lt_of_heap H4.out.2.2.1)).trans H4.out.2.2.1, hx6, ⟨hl.1, hl.2.1, hl.2.2, by rw [hq6]; exact lt_of_heap H4.out.2.2.1⟩, H4.out.2.2.2.trans (hb3.mono H4.out.2.2.2.size)⟩
  clear hW3 hq6 hb3 hx6
  go_upto_region 4 with fail
  rw [HW3.out.1, HW3.out.2]
  have c4 := G3.out.c4
  have f2 := G3.out.f6 2
  obtain ⟨s2, hs2⟩ : ∃ s2, s2 = (stNum (stNum (some l)).2).2 := ⟨_, rfl⟩
  have HS2 := Lib.hid hs2
  rw [← hs2] at G3
  clear hs2
  have HSR := Lib.hid (some_rd rb q4 s2 W3 G3.out.st c4 (by have := G3.out.lt; omega))
  go_wp2_with fail
  refine HSR.out.mono ?_
  rintro e w4 ⟨v4, rfl, hrow, hs, hw, h8⟩
  have G4 := Lib.hid (G3.out.next hs hw)
  obtain ⟨ra, rc, rfl⟩ := row_slice hrow
  have HROW : Hid (LiesAt w4 ra 2 rdL (stSome stRd s2).1 ∧ (∀ g o, ra = some ⟨g, o, none⟩ → (stSome stRd s2).1 ≠ [] → q6 < g) ∧ (stSome stRd s2).1.length ≤ 8) := by
    refine ⟨row_liesAt hrow rd_len rfl, fun g o e hne => ?_, h8⟩
    have hg := row_pos hrow (by cases hz : (stSome stRd s2).1 with | nil => exact absurd hz hne | cons => simp)
    obtain ⟨g', e', h1, _⟩ := hg
    rw [e] at e'
    cases e'
    have := lt_of_heap G3.out.b6
    omega
  clear hrow hs hw h8 c4 f2 HSR
  obtain ⟨lr, hlr⟩ : ∃ lr, lr = (stSome stRd s2).1 := ⟨_, rfl⟩
  obtain ⟨s3, hs3⟩ : ∃ s3, s3 = (stSome stRd s2).2 := ⟨_, rfl⟩
  have HLR := Lib.hid (And.intro hlr hs3)
  rw [← hlr] at HROW ⊢
  rw [← hs3] at G4
  clear hlr hs3
  have m2 := G4.out.c6.2.2.1
  have f2 := G4.out.f6 2
  have G5 : Hid (GtSt w (w4.setCell ⟨q6, 2, none⟩ (.slice ra lr.length rc)) q0 q4 q6 rb cz nz (.slice ra lr.length rc) (.slice none 0 0) s3) := G4.out.set2 _
  have HR5 : Hid (LiesAt (w4.setCell ⟨q6, 2, none⟩ (.slice ra lr.length rc)) ra 2 rdL lr) := HROW.out.1.wrote (S := [q6]) ((Wrote.refl _ _).setCell (.inl (by simp)) _) fun g o e hne => by have := HROW.out.2.1 g o e hne; simp; omega
  obtain ⟨W5, hW5⟩ : ∃ W5, W5 = w4.setCell ⟨q6, 2, none⟩ (.slice ra lr.length rc) := ⟨_, rfl⟩
  have HW5 : Hid (w4.setCell ⟨q6, 2, none⟩ (.slice ra lr.length rc) = W5) := hW5.symm
  rw [← hW5] at G5 HR5
  obtain ⟨rn, hrn⟩ : ∃ rn, rn = lr.length := ⟨_, rfl⟩
  have HRN := Lib.hid hrn
  rw [← hrn] at HW5 G5 ⊢
  clear hW5 hrn
  go_upto_region 5 with fail
  rw [HW5.out]
  clear m2 f2
  have c4 := G5.out.c4
  have HSW := Lib.hid (some_wr rb q4 s3 W5 G5.out.st c4 (by have := G5.out.lt; omega))
  go_wp2_with fail
  refine HSW.out.mono ?_
  rintro e w6 ⟨v5, rfl, hrow, hs, hw, h8⟩
  have G6 := Lib.hid (G5.out.next hs hw)
  obtain ⟨wa, wc, rfl⟩ := row_slice hrow
  have HROW2 : Hid (LiesAt w6 wa 2 wrL (stSome stWr s3).1 ∧ (∀ g o, wa = some ⟨g, o, none⟩ → (stSome stWr s3).1 ≠ [] → q6 < g) ∧ (stSome stWr s3).1.length ≤ 8) := by
    refine ⟨row_liesAt hrow wr_len rfl, fun g o e hne => ?_, h8⟩
    have hg := row_pos hrow (by cases hz : (stSome stWr s3).1 with | nil => exact absurd hz hne | cons => simp)
    obtain ⟨g', e', h1, _⟩ := hg
    rw [e] at e'
    cases e'
    have := lt_of_heap G5.out.b6
    omega
  have HR6 : Hid (LiesAt w6 ra 2 rdL lr) := HR5.out.wrote hw fun g o e hne => by have := HROW.out.2.1 g o e hne; have := G5.out.lt; simp; omega
  clear hrow hs hw h8 c4 HSW
  obtain ⟨lw, hlw⟩ : ∃ lw, lw = (stSome stWr s3).1 := ⟨_, rfl⟩
  obtain ⟨s4, hs4⟩ : ∃ s4, s4 = (stSome stWr s3).2 := ⟨_, rfl⟩
  have HLW := Lib.hid (And.intro hlw hs4)
  rw [← hlw] at HROW2 ⊢
  rw [← hs4] at G6
  clear hlw hs4
  have m3 := G6.out.c6.2.2.2
  have f3 := G6.out.f6 3
  have G7 : Hid (GtSt w (w6.setCell ⟨q6, 3, none⟩ (.slice wa lw.length wc)) q0 q4 q6 rb cz nz (.slice ra rn rc) (.slice wa lw.length wc) s4) := G6.out.set3 _
  have hw7 : Wrote [q6] w6 (w6.setCell ⟨q6, 3, none⟩ (.slice wa lw.length wc)) := (Wrote.refl _ _).setCell (.inl (by simp)) _
  have HT7 : Hid (TxAt (w6.setCell ⟨q6, 3, none⟩ (.slice wa lw.length wc)) ⟨cz, nz, lr, lw⟩ ra wa) :=
    ⟨HR6.out.wrote hw7 fun g o e hne => by have := HROW.out.2.1 g o e hne; simp; omega, HROW2.out.1.wrote hw7 fun g o e hne => by have := HROW2.out.2.1 g o e hne; simp; omega, by have := HROW.out.2.2; show lr.length ≤ _; omega, by have := HROW2.out.2.2; show lw.length ≤ _; omega⟩
  obtain ⟨W7, hW7⟩ : ∃ W7, W7 = w6.setCell ⟨q6, 3, none⟩ (.slice wa lw.length wc) := ⟨_, rfl⟩
  have HW7 : Hid (w6.setCell ⟨q6, 3, none⟩ (.slice wa lw.length wc) = W7) := hW7.symm
  rw [← hW7] at G7 HT7
  have HTX : Hid (stTx (some l) = (⟨cz, nz, lr, lw⟩, s4)) := by
    show _ = _
    unfold stTx
    rw [← HCZ.out, ← HNZ.out, ← HS2.out, ← HLR.out.1, ← HLR.out.2, ← HLW.out.1, ← HLW.out.2]
  have HV7 : Hid (txV ⟨cz, nz, lr, lw⟩ ra rc wa wc = .agg #[.int .i64 cz, .int .i64 nz, .slice ra rn rc, .slice wa lw.length wc]) := by
    show _ = _
    unfold txV
    rw [← HRN.out]
  obtain ⟨wn, hwn⟩ : ∃ wn, wn = lw.length := ⟨_, rfl⟩
  rw [← hwn] at HW7 G7 HV7 ⊢
  clear hW7 hwn hw7
  go_upto_region 6 with fail
  rw [HW7.out]
  clear m3 f3
  have c4 := G7.out.c4
  have HEN := Lib.hid (end_any rb s4 W7 G7.out.st)
  go_wp2_with fail
  refine HEN.out.mono ?_
  rintro e w8 ⟨hb8, ⟨hs4, rfl⟩ | ⟨hs4, Te, ve, rfl⟩⟩
  · have G8 := Lib.hid (G7.out.low hb8)
    have HT8 := Lib.hid (HT7.out.below hb8)
    have HS4 := Lib.hid hs4
    clear hb8 hs4 c4 HEN
    obtain ⟨m0, m1, m2, m3⟩ := G8.out.c6
    have HCK := check_any ⟨cz, nz, lr, lw⟩ ra rc wa wc w8 HT8.out
    rw [HV7.out] at HCK
    have HCC := Lib.hid HCK
    have HWN := Lib.hid (twrap_no w8)
    clear HCK
    go_wp2_with (go_at_call 30; refine HWN.out.mono ?_; rintro e w' ⟨rfl, rfl⟩)
    refine HCC.out.mono ?_
    rintro e w9 ⟨rfl, hb9⟩
    have G9 := Lib.hid (G8.out.low hb9)
    have HT9 := Lib.hid (HT8.out.below hb9)
    clear hb9 m0 m1 m2 m3 HCC
    cases hr : rightT ⟨cz, nz, lr, lw⟩ with
    | true =>
      have HRT := Lib.hid hr
      have HE1 : errOfT true = .nilIface := rfl
      rw [HE1]
      obtain ⟨m0, m1, m2, m3⟩ := G9.out.c6
      obtain ⟨n0, n1, n2, n3⟩ := G9.out.c0
      have f6 := G9.out.f6
      have f0 := G9.out.f0
      clear hr HE1
      go_wp2_with fail
      have HQ := G9.out.lt
      have hwf : Wrote [q0] w9 ((((w9.setCell ⟨q0, 0, none⟩ (.int .i64 cz)).setCell ⟨q0, 1, none⟩ (.int .i64 nz)).setCell ⟨q0, 2, none⟩ (.slice ra rn rc)).setCell ⟨q0, 3, none⟩ (.slice wa wn wc)) := (((((Wrote.refl _ _).setCell (.inl (by simp)) _).setCell (.inl (by simp)) _).setCell (.inl (by simp)) _).setCell (.inl (by simp)) _)
      refine bodyPost_ret (v := .tuple #[.agg #[.int .i64 cz, .int .i64 nz, .slice ra rn rc, .slice wa wn wc], .nilIface]) (by simp [results, Tryz.results12, go_sem, n0, n1, n2, n3]) rfl ⟨?_, .inl ⟨⟨cz, nz, lr, lw⟩, ra, rc, wa, wc, ?_, HRT.out, ?_, ?_⟩⟩
      · exact G9.out.below.trans (hwf.below G9.out.below.size fun k hk => by simp at hk; omega)
      · rw [HTX.out, HS4.out]
      · rw [HV7.out]
      · exact ⟨HT9.out.r.wrote hwf (fun g o e hne => by have := HROW.out.2.1 g o e hne; simp; omega), HT9.out.w.wrote hwf (fun g o e hne => by have := HROW2.out.2.1 g o e hne; simp; omega), HT9.out.rl, HT9.out.wl⟩
    | false =>
      have HRT := Lib.hid hr
      have HE1 : errOfT false = .iface 163 (.agg #[.string ⟨#[116, 120, 110]⟩, .int .i64 0, .iface 70 (.int .i64 101)]) := rfl
      rw [HE1]
      obtain ⟨m0, m1, m2, m3⟩ := G9.out.c6
      obtain ⟨n0, n1, n2, n3⟩ := G9.out.c0
      have f6 := G9.out.f6
      have f0 := G9.out.f0
      clear hr HE1
      go_wp2_with fail
      have HQ := G9.out.lt
      refine bodyPost_ret (v := .tuple #[.agg #[.int .i64 0, .int .i64 0, .slice none 0 0, .slice none 0 0], .iface 163 (.agg #[.string ⟨#[116, 120, 110]⟩, .int .i64 0, .iface 70 (.int .i64 101)])]) (by simp [results, Tryz.results12, go_sem, n0, n1, n2, n3]) rfl ⟨?_, .inr ⟨?_, _, _, rfl⟩⟩
      · exact G9.out.below.trans (Wrote.below (S := [q0]) (((((Wrote.refl _ _).setCell (.inl (by simp)) _).setCell (.inl (by simp)) _).setCell (.inl (by simp)) _).setCell (.inl (by simp)) _) G9.out.below.size fun k hk => by simp at hk; omega)
      · intro t ht
        rw [HTX.out] at ht
        cases ht
        exact HRT.out
  · have G8 := Lib.hid (G7.out.low hb8)
    have HS4 := Lib.hid hs4
    have HWI := Lib.hid (twrap_if Te ve w8)
    obtain ⟨n0, n1, n2, n3⟩ := G8.out.c0
    have f0 := G8.out.f0
    clear hb8 hs4 c4 HEN
    go_wp2_with (go_at_call 30; refine HWI.out.mono ?_; rintro e w' ⟨T', v', rfl, rfl⟩)
    have HQ := G8.out.lt
    refine bodyPost_ret (v := .tuple #[.agg #[.int .i64 0, .int .i64 0, .slice none 0 0, .slice none 0 0], .iface T' v']) (by simp [results, Tryz.results12, go_sem, n0, n1, n2, n3]) rfl ⟨?_, .inr ⟨?_, _, _, rfl⟩⟩
    · exact G8.out.below.trans (Wrote.below (S := [q0]) (((((Wrote.refl _ _).setCell (.inl (by simp)) _).setCell (.inl (by simp)) _).setCell (.inl (by simp)) _).setCell (.inl (by simp)) _) G8.out.below.size fun k hk => by simp at hk; omega)
    · intro t ht
      rw [HTX.out] at ht
      cases ht
      exact absurd rfl HS4.out
end Go.Proofs.YtaifmfnmgnmgbaaGreatDoor.Txn
