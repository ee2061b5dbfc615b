/- Txn: reading a transaction's rows. -/
import Derived.Test.YtaifmfnmgnmgbaaGreatDoorTxRd
import Derived.Laws.BytesArg
import Derived.Laws.IdiomStrings
import Derived.Maps.AppendAt
import Derived.Test.YtaifmfnmgnmgbaaGreatDoorStA
namespace Go.Proofs.YtaifmfnmgnmgbaaGreatDoor.Txn
open Go.RowKit Go.My
open Go.Proofs.YtaifmfnmgnmgbaaGreatDoor.Merkle (uv ofL)

theorem conv_uv {w : World} {a : Option Addr} {c : Nat} {k : ByteArray} (h : LiesAt w a 1 uvL k.data.toList) : (convert 26 9 (.slice a k.size c)).run Tryz.prog w = .ok (.string k) w := by
  cases a with
  | none =>
    have hk : k.data.toList = [] := by
      cases hl : k.data.toList with
      | nil => rfl
      | cons x l =>
        obtain ⟨g, o, e, _⟩ := h 0 x (by rw [hl]; rfl)
        cases e
    have hk2 : k = ByteArray.empty := by
      cases k with | mk d => cases d with | mk l => simp at hk; subst hk; rfl
    have := run_convert_bytes_nil (P := Tryz.prog) w 26 5 Tryz.underlying26 Tryz.underlying5 k.size c 9 Tryz.underlying9
    rw [this, hk2]
  | some b =>
    have hsz : k.size = k.data.toList.length := Array.length_toList.symm
    have hb := run_convert_bytes_back (P := Tryz.prog) w 26 9 5 b c k.data.toList Tryz.underlying26 Tryz.underlying5 Tryz.underlying9 (fun j hj => by
      obtain ⟨g, o, e, hg, hc⟩ := h j _ (List.getElem?_eq_getElem hj)
      cases e
      have := hc 0 _ rfl
      rw [Nat.mul_one, Nat.add_zero] at this
      rw [Addr.add_lit, this]
      rfl)
    rw [← hsz] at hb
    rw [hb]
def rdA (x : Rd) : Array Value := #[.string x.key, .int .i64 x.ver]
def wrA (x : Wr) : Array Value := #[.string x.key, .string x.val]
/-- what reading one row leaves -/
def OneLeft (w : World) (rb : Nat) (x : Array Value) (s : St) (e : Ending) (w' : World) : Prop := e = .returned (.agg x) ∧ StAt w' rb s ∧ Wrote [rb] w w'
theorem StAt.wrote {S : List Nat} {w w' : World} {rb : Nat} {s : St} (h : StAt w rb s) (hw : Wrote S w w') (hS : ∀ k ∈ S, rb < k) : StAt w' rb s := by
  have hn : rb ∉ S := fun hm => Nat.lt_irrefl _ (hS rb hm)
  cases s with
  | none =>
    obtain ⟨v, z, T, ev, hb⟩ := h
    exact ⟨v, z, T, ev, hw.heap hb hn⟩
  | some l =>
    obtain ⟨a, cap, rd, h⟩ := h
    exact ⟨a, cap, rd, hw.heap h.blk hn, h.lies.wrote hw (fun g o e hz hm => by have := hS g hm; have := h.ne g o e hz; omega), h.room, h.ne, h.small⟩
set_option maxRecDepth 100000 in
set_option maxHeartbeats 3200000 in
theorem get_rd (rb p : Nat) (s : St) (w : World) (h : StAt w rb s) (hp : w.cell? ⟨p, 0, none⟩ = some (.pointer (some ⟨rb, 0, none⟩))) (hpr : p ≠ rb) :
    Calls Tryz.prog 36 #[.pointer (some ⟨p, 0, none⟩)] w (OneLeft w rb (rdA (stRd s).1) (stRd s).2) := by
  have HP : Hid (∀ W, Wrote [rb] w W → W.cell? ⟨p, 0, none⟩ = some (.pointer (some ⟨rb, 0, none⟩))) := fun W hW => (hW.cell (p := ⟨p, 0, none⟩) (World.block_lt_of_cell? w ⟨p, 0, none⟩ hp) (by simpa using hpr)).trans hp
  obtain ⟨W0, hW0⟩ : ∃ W0 : World, W0 = w.alloc (.cells #[.string ⟨#[]⟩, .int .i64 0] 53) := ⟨_, rfl⟩
  obtain ⟨q0, hq0⟩ : ∃ q0, q0 = w.heap.size := ⟨_, rfl⟩
  have hb0 : Below w.heap.size w W0 := by rw [hW0]; exact bl_alloc _ _
  have hx0 : W0.heap[q0]? = some (.cells #[.string ⟨#[]⟩, .int .i64 0] 53 (0, 0)) := by rw [hW0, hq0]; exact heap_alloc_new w _
  have HW0 : Hid (w.alloc (.cells #[.string ⟨#[]⟩, .int .i64 0] 53) = W0 ∧ w.heap.size = q0) := ⟨hW0.symm, hq0.symm⟩
  have HX0 : Hid (W0.heap[q0]? = some (.cells #[.string ⟨#[]⟩, .int .i64 0] 53 (0, 0)) ∧ Wrote [rb] w W0 ∧ rb < q0) := ⟨hx0, Wrote.of_below hb0, by rw [hq0]; exact h.lt⟩
  have hp0 := HP.out W0 HX0.out.2.1
  have HT := Lib.hid (rtext_any rb s W0 (h.below hb0))
  clear h hp hb0 hx0 hW0 hq0
  go_enter Tryz.func36, Tryz.ntmps36
  go_upto_region 1 with fail
  rw [HW0.out.1, HW0.out.2]
  go_wp2_with fail
  refine HT.out.mono ?_
  rintro e w1 ⟨a1, c1, rfl, hl, hs, hw⟩
  obtain ⟨k, hk⟩ : ∃ k, k = (stText s).1 := ⟨_, rfl⟩
  have HK := Lib.hid hk
  rw [← hk] at hl ⊢
  have hcv := conv_uv (c := c1) hl
  have hx1 : w1.heap[q0]? = _ := hw.heap HX0.out.1 (by have := HX0.out.2.2; simp; omega)
  have H1 : Hid (StAt w1 rb (stText s).2 ∧ Wrote [rb] w w1 ∧ w1.heap[q0]? = some (.cells #[.string ⟨#[]⟩, .int .i64 0] 53 (0, 0))) := ⟨hs, HX0.out.2.1.trans hw, hx1⟩
  clear hl hs hw hk hx1 hp0
  obtain ⟨W1, hW1⟩ : ∃ W1 : World, W1 = w1.alloc (.cells #[.string k, .int .i64 0] 53) := ⟨_, rfl⟩
  obtain ⟨q1, hq1⟩ : ∃ q1, q1 = w1.heap.size := ⟨_, rfl⟩
  have hb1 : Below w1.heap.size w1 W1 := by rw [hW1]; exact bl_alloc _ _
  have hx1 : W1.heap[q1]? = some (.cells #[.string k, .int .i64 0] 53 (0, 0)) := by rw [hW1, hq1]; exact heap_alloc_new w1 _
  have HW1 : Hid (w1.alloc (.cells #[.string k, .int .i64 0] 53) = W1 ∧ w1.heap.size = q1) := ⟨hW1.symm, hq1.symm⟩
  have HX1 : Hid (W1.heap[q1]? = some (.cells #[.string k, .int .i64 0] 53 (0, 0)) ∧ Wrote [rb] w W1 ∧ W1.heap[q0]? = some (.cells #[.string ⟨#[]⟩, .int .i64 0] 53 (0, 0)) ∧ q0 < q1) := ⟨hx1, H1.out.2.1.trans (Wrote.of_below hb1), (hb1.block _ (lt_of_heap H1.out.2.2)).trans H1.out.2.2, by rw [hq1]; exact lt_of_heap H1.out.2.2⟩
  have hp1 := HP.out W1 HX1.out.2.1
  have HN := Lib.hid (num_any rb (stText s).2 W1 (H1.out.1.below hb1))
  clear hb1 hx1 hW1 hq1
  go_upto_region 2 with fail
  rw [HW1.out.1, HW1.out.2]
  clear hcv
  go_wp2_with fail
  refine HN.out.mono ?_
  rintro e w2 ⟨rfl, hs, hw⟩
  obtain ⟨v, hv⟩ : ∃ v, v = (stNum (stText s).2).1 := ⟨_, rfl⟩
  have HVV := Lib.hid hv
  rw [← hv]
  have hx2 : w2.heap[q1]? = _ := hw.heap HX1.out.1 (by have := HX1.out.2.2.2; have := HX0.out.2.2; simp; omega)
  have hy2 : w2.heap[q0]? = _ := hw.heap HX1.out.2.2.1 (by have := HX0.out.2.2; simp; omega)
  have H2 : Hid (StAt w2 rb (stNum (stText s).2).2 ∧ Wrote [rb] w w2 ∧ w2.heap[q1]? = some (.cells #[.string k, .int .i64 0] 53 (0, 0)) ∧ w2.heap[q0]? = some (.cells #[.string ⟨#[]⟩, .int .i64 0] 53 (0, 0))) := ⟨hs, HX1.out.2.1.trans hw, hx2, hy2⟩
  clear hs hw hv hp1
  have c0 : w2.cell? ⟨q1, 0, none⟩ = some (.string k) := by rw [cell_of_row _ _ _ _ _ _ hx2]; rfl
  have c1 : w2.cell? ⟨q1, 1, none⟩ = some (.int .i64 0) := by rw [cell_of_row _ _ _ _ _ _ hx2]; rfl
  have d0 : w2.cell? ⟨q0, 0, none⟩ = some (.string ⟨#[]⟩) := by rw [cell_of_row _ _ _ _ _ _ hy2]; rfl
  have d1 : w2.cell? ⟨q0, 1, none⟩ = some (.int .i64 0) := by rw [cell_of_row _ _ _ _ _ _ hy2]; rfl
  have fc : ∀ j, w2.frozen? ⟨q1, j, none⟩ = false := fun j => by unfold World.frozen?; rw [hx2]; simp
  have fd : ∀ j, w2.frozen? ⟨q0, j, none⟩ = false := fun j => by unfold World.frozen?; rw [hy2]; simp
  have hne : q1 ≠ q0 := by have := HX1.out.2.2.2; omega
  have hne2 : q0 ≠ q1 := by have := HX1.out.2.2.2; omega
  clear hx2 hy2
  go_wp2_with fail
  refine bodyPost_ret (v := .agg #[.string k, .int .i64 v]) (by simp [results, Tryz.results36, go_sem, d0, d1]) rfl ⟨by rw [HK.out, HVV.out]; rfl, ?_, ?_⟩
  · have hlt := HX0.out.2.2
    have hlt2 := HX1.out.2.2.2
    exact StAt.wrote (S := [q1, q0]) H2.out.1 (((((Wrote.refl _ _).setCell (.inl (by simp)) _).setCell (.inl (by simp)) _).setCell (.inl (by simp)) _)) (by simp; omega)
  · refine ((H2.out.2.1.mono (T := [rb, q1, q0]) (by simp)).trans ((((Wrote.refl _ _).setCell (.inl (by simp)) _).setCell (.inl (by simp)) _).setCell (.inl (by simp)) _)).of_new fun g hg => ?_
    have h1 := HX0.out.2.2
    have h2 := HX1.out.2.2.2
    have h3 : w.heap.size = q0 := HW0.out.2
    simp only [List.mem_cons, List.not_mem_nil, or_false] at hg
    rcases hg with rfl | rfl | rfl
    · exact .inl (by simp)
    · exact .inr (by omega)
    · exact .inr (by omega)
set_option maxRecDepth 100000 in
set_option maxHeartbeats 3200000 in
theorem get_wr (rb p : Nat) (s : St) (w : World) (h : StAt w rb s) (hp : w.cell? ⟨p, 0, none⟩ = some (.pointer (some ⟨rb, 0, none⟩))) (hpr : p ≠ rb) :
    Calls Tryz.prog 39 #[.pointer (some ⟨p, 0, none⟩)] w (OneLeft w rb (wrA (stWr s).1) (stWr s).2) := by
  have HP : Hid (∀ W, Wrote [rb] w W → W.cell? ⟨p, 0, none⟩ = some (.pointer (some ⟨rb, 0, none⟩))) := fun W hW => (hW.cell (p := ⟨p, 0, none⟩) (World.block_lt_of_cell? w ⟨p, 0, none⟩ hp) (by simpa using hpr)).trans hp
  obtain ⟨W0, hW0⟩ : ∃ W0 : World, W0 = w.alloc (.cells #[.string ⟨#[]⟩, .string ⟨#[]⟩] 48) := ⟨_, rfl⟩
  obtain ⟨q0, hq0⟩ : ∃ q0, q0 = w.heap.size := ⟨_, rfl⟩
  have hb0 : Below w.heap.size w W0 := by rw [hW0]; exact bl_alloc _ _
  have hx0 : W0.heap[q0]? = some (.cells #[.string ⟨#[]⟩, .string ⟨#[]⟩] 48 (0, 0)) := by rw [hW0, hq0]; exact heap_alloc_new w _
  have HW0 : Hid (w.alloc (.cells #[.string ⟨#[]⟩, .string ⟨#[]⟩] 48) = W0 ∧ w.heap.size = q0) := ⟨hW0.symm, hq0.symm⟩
  have HX0 : Hid (W0.heap[q0]? = some (.cells #[.string ⟨#[]⟩, .string ⟨#[]⟩] 48 (0, 0)) ∧ Wrote [rb] w W0 ∧ rb < q0) := ⟨hx0, Wrote.of_below hb0, by rw [hq0]; exact h.lt⟩
  have hp0 := HP.out W0 HX0.out.2.1
  have HT := Lib.hid (rtext_any rb s W0 (h.below hb0))
  clear h hp hb0 hx0 hW0 hq0
  go_enter Tryz.func39, Tryz.ntmps39
  go_upto_region 1 with fail
  rw [HW0.out.1, HW0.out.2]
  go_wp2_with fail
  refine HT.out.mono ?_
  rintro e w1 ⟨a1, c1, rfl, hl, hs, hw⟩
  obtain ⟨k, hk⟩ : ∃ k, k = (stText s).1 := ⟨_, rfl⟩
  have HK := Lib.hid hk
  rw [← hk] at hl ⊢
  have hcv := conv_uv (c := c1) hl
  have hx1 : w1.heap[q0]? = _ := hw.heap HX0.out.1 (by have := HX0.out.2.2; simp; omega)
  have H1 : Hid (StAt w1 rb (stText s).2 ∧ Wrote [rb] w w1 ∧ w1.heap[q0]? = some (.cells #[.string ⟨#[]⟩, .string ⟨#[]⟩] 48 (0, 0))) := ⟨hs, HX0.out.2.1.trans hw, hx1⟩
  clear hl hs hw hk hx1 hp0
  obtain ⟨W1, hW1⟩ : ∃ W1 : World, W1 = w1.alloc (.cells #[.string k, .string ⟨#[]⟩] 48) := ⟨_, rfl⟩
  obtain ⟨q1, hq1⟩ : ∃ q1, q1 = w1.heap.size := ⟨_, rfl⟩
  have hb1 : Below w1.heap.size w1 W1 := by rw [hW1]; exact bl_alloc _ _
  have hx1 : W1.heap[q1]? = some (.cells #[.string k, .string ⟨#[]⟩] 48 (0, 0)) := by rw [hW1, hq1]; exact heap_alloc_new w1 _
  have HW1 : Hid (w1.alloc (.cells #[.string k, .string ⟨#[]⟩] 48) = W1 ∧ w1.heap.size = q1) := ⟨hW1.symm, hq1.symm⟩
  have HX1 : Hid (W1.heap[q1]? = some (.cells #[.string k, .string ⟨#[]⟩] 48 (0, 0)) ∧ Wrote [rb] w W1 ∧ W1.heap[q0]? = some (.cells #[.string ⟨#[]⟩, .string ⟨#[]⟩] 48 (0, 0)) ∧ q0 < q1) := ⟨hx1, H1.out.2.1.trans (Wrote.of_below hb1), (hb1.block _ (lt_of_heap H1.out.2.2)).trans H1.out.2.2, by rw [hq1]; exact lt_of_heap H1.out.2.2⟩
  have hp1 := HP.out W1 HX1.out.2.1
  have HN := Lib.hid (rtext_any rb (stText s).2 W1 (H1.out.1.below hb1))
  clear hb1 hx1 hW1 hq1
  go_upto_region 2 with fail
  rw [HW1.out.1, HW1.out.2]
  clear hcv
  go_wp2_with fail
  refine HN.out.mono ?_
  rintro e w2 ⟨a2, c2, rfl, hl, hs, hw⟩
  obtain ⟨v, hv⟩ : ∃ v, v = (stText (stText s).2).1 := ⟨_, rfl⟩
  have HVV := Lib.hid hv
  rw [← hv] at hl ⊢
  have hcv := conv_uv (c := c2) hl
  have hx2 : w2.heap[q1]? = _ := hw.heap HX1.out.1 (by have := HX1.out.2.2.2; have := HX0.out.2.2; simp; omega)
  have hy2 : w2.heap[q0]? = _ := hw.heap HX1.out.2.2.1 (by have := HX0.out.2.2; simp; omega)
  have H2 : Hid (StAt w2 rb (stText (stText s).2).2 ∧ Wrote [rb] w w2 ∧ w2.heap[q1]? = some (.cells #[.string k, .string ⟨#[]⟩] 48 (0, 0)) ∧ w2.heap[q0]? = some (.cells #[.string ⟨#[]⟩, .string ⟨#[]⟩] 48 (0, 0))) := ⟨hs, HX1.out.2.1.trans hw, hx2, hy2⟩
  clear hl hs hw hv hp1
  have c0 : w2.cell? ⟨q1, 0, none⟩ = some (.string k) := by rw [cell_of_row _ _ _ _ _ _ hx2]; rfl
  have c1 : w2.cell? ⟨q1, 1, none⟩ = some (.string ⟨#[]⟩) := by rw [cell_of_row _ _ _ _ _ _ hx2]; rfl
  have d0 : w2.cell? ⟨q0, 0, none⟩ = some (.string ⟨#[]⟩) := by rw [cell_of_row _ _ _ _ _ _ hy2]; rfl
  have d1 : w2.cell? ⟨q0, 1, none⟩ = some (.string ⟨#[]⟩) := by rw [cell_of_row _ _ _ _ _ _ hy2]; rfl
  have fc : ∀ j, w2.frozen? ⟨q1, j, none⟩ = false := fun j => by unfold World.frozen?; rw [hx2]; simp
  have fd : ∀ j, w2.frozen? ⟨q0, j, none⟩ = false := fun j => by unfold World.frozen?; rw [hy2]; simp
  have hne : q1 ≠ q0 := by have := HX1.out.2.2.2; omega
  have hne2 : q0 ≠ q1 := by have := HX1.out.2.2.2; omega
  clear hx2 hy2
  go_wp2_with fail
  refine bodyPost_ret (v := .agg #[.string k, .string v]) (by simp [results, Tryz.results39, go_sem, d0, d1]) rfl ⟨by rw [HK.out, HVV.out]; rfl, ?_, ?_⟩
  · have hlt := HX0.out.2.2
    have hlt2 := HX1.out.2.2.2
    exact StAt.wrote (S := [q1, q0]) H2.out.1 (((((Wrote.refl _ _).setCell (.inl (by simp)) _).setCell (.inl (by simp)) _).setCell (.inl (by simp)) _)) (by simp; omega)
  · refine ((H2.out.2.1.mono (T := [rb, q1, q0]) (by simp)).trans ((((Wrote.refl _ _).setCell (.inl (by simp)) _).setCell (.inl (by simp)) _).setCell (.inl (by simp)) _)).of_new fun g hg => ?_
    have h1 := HX0.out.2.2
    have h2 := HX1.out.2.2.2
    have h3 : w.heap.size = q0 := HW0.out.2
    simp only [List.mem_cons, List.not_mem_nil, or_false] at hg
    rcases hg with rfl | rfl | rfl
    · exact .inl (by simp)
    · exact .inr (by omega)
    · exact .inr (by omega)
end Go.Proofs.YtaifmfnmgnmgbaaGreatDoor.Txn
