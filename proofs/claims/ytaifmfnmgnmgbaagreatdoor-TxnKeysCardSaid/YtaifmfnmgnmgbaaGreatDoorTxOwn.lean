/- Txn: those whose keys are among some. -/
import Derived.Test.YtaifmfnmgnmgbaaGreatDoorTxHas
import Derived.Test.YtaifmfnmgnmgbaaGreatDoorTxRkey
import Derived.Test.YtaifmfnmgnmgbaaGreatDoorTxSome
import Derived.Test.YtaifmfnmgnmgbaaGreatDoorBase
import Derived.Test.YtaifmfnmgnmgbaaGreatDoorOf
import Derived.Lib.SliceRun
import Derived.Laws.IdiomCopy
import Derived.Maps.AppendAt
import Derived.Lib.BufferMore
import Derived.Deep.DeepCutAuto
import Derived.Deep.CutBlock
import Derived.Lib.LazyBuf
import Derived.BigQuiet
import Derived.Deep.QuietTactic
namespace Go.Proofs.YtaifmfnmgnmgbaaGreatDoor.Txn
open Go.RowKit Go.My

theorem run_clear2 {P : Program} (w : World) (t e ty : TypeId) (z z0 z1 : Value) (ht : P.underlying t = some (.slice e)) (hv : ∀ w, (zeroValue e).run P w = .ok z w) (hz : z.cells = #[z0, z1]) (h0 : z0.oneCell' = true) (h1 : z1.oneCell' = true) (b o n c : Nat) (hn : 0 < n)
    (hc : ∀ j, j < n * 2 → (w.cell? ⟨b, o + j, none⟩).isSome = true) (hf : ∀ j, j < n * 2 → w.frozen? ⟨b, o + j, none⟩ = false) :
    (Builtin.clear_ #[t] ty #[.slice (some ⟨b, o, none⟩) n c]).run P w = .ok (.tuple #[]) (w.setCells b o (Builtin.zeroCells #[z0, z1] n).toList) ∧ (Builtin.zeroCells #[z0, z1] n).toList.length = n * 2 := by
  have hlen : (Builtin.zeroCells #[z0, z1] n).toList.length = n * 2 := by simp [Builtin.zeroCells]
  have hone : ∀ v ∈ (Builtin.zeroCells #[z0, z1] n).toList, v.oneCell' = true := by
    intro v hv'
    simp only [Builtin.zeroCells, Array.toList_map, List.mem_map] at hv'
    obtain ⟨i, _, rfl⟩ := hv'
    show ((#[z0, z1] : Array Value)[i % 2]!).oneCell' = true
    rcases Nat.mod_two_eq_zero_or_one i with h | h
    · rw [h]; exact h0
    · rw [h]; exact h1
  have hst := run_storeCells_cells (P := P) b o (Builtin.zeroCells #[z0, z1] n).toList 0 w (by simpa [hlen] using hc) (by simpa [hlen] using hf) hone
  simp only [Nat.add_zero] at hst
  obtain ⟨m, rfl⟩ : ∃ m, n = m + 1 := ⟨n - 1, by omega⟩
  exact ⟨by simp [Builtin.clear_, run_underlying ht, hv, hz, hst], hlen⟩
theorem rd_fl : ∀ L : List Rd, (L.flatMap rdL).length = L.length * 2
  | [] => rfl
  | x :: L => by rw [List.flatMap_cons, List.length_append, rd_fl L, List.length_cons, rd_len]; omega
theorem cells_at_rd {w : World} {b : Addr} {l : List Rd} (h : LiesAt w (some b) 2 rdL l) : ∀ j u, (l.flatMap rdL)[j]? = some u → w.cell? (b.add j) = some u := by
  intro j u hj
  have hjl := (List.getElem?_eq_some_iff.1 hj).1
  rw [rd_fl] at hjl
  obtain ⟨x, hx⟩ : ∃ x, l[j / 2]? = some x := ⟨_, List.getElem?_eq_getElem (by omega)⟩
  obtain ⟨g, o, e, hg, hc⟩ := h (j / 2) x hx
  cases e
  have h1 := flat_get rdL 2 rd_len l (j / 2) (j % 2) x hx (by omega)
  rw [show j / 2 * 2 + j % 2 = j by omega, hj] at h1
  have := hc (j % 2) u h1.symm
  rw [show o + j / 2 * 2 + j % 2 = o + j by omega] at this
  rw [Addr.add_lit]
  exact this
/-- elements of the call's own, in a block that is written -/
structure DlRd (W : World) (g cap : Nat) (M : List Rd) : Prop where
  ex : ∃ cur : Array Value, W.heap[g]? = some (.cells cur 53 (0, 0)) ∧ cur.size = cap * 2 ∧ M.length ≤ cap ∧ ∀ (i : Nat) x, M[i]? = some x → cur[i * 2]? = some (.string x.key) ∧ cur[i * 2 + 1]? = some (.int .i64 x.ver)
section
variable {W W' : World} {g cap : Nat} {M : List Rd}
theorem DlRd.lt (h : DlRd W g cap M) : g < W.heap.size := by obtain ⟨cur, hb, _⟩ := h.ex; exact lt_of_heap hb
theorem DlRd.keep (h : DlRd W g cap M) (hk : W'.heap[g]? = W.heap[g]?) : DlRd W' g cap M := by
  obtain ⟨cur, hb, h2⟩ := h.ex
  exact ⟨cur, hk.trans hb, h2⟩
theorem DlRd.below (h : DlRd W g cap M) (hb : Below W.heap.size W W') : DlRd W' g cap M := h.keep (hb.block _ h.lt)
theorem DlRd.cells (h : DlRd W g cap M) {i : Nat} {x : Rd} (hx : M[i]? = some x) : W.cell? ⟨g, i * 2, none⟩ = some (.string x.key) ∧ W.cell? ⟨g, i * 2 + 1, none⟩ = some (.int .i64 x.ver) := by
  obtain ⟨cur, hb, _, _, hc⟩ := h.ex
  obtain ⟨h0, h1⟩ := hc i x hx
  exact ⟨by rw [cell_of_row _ _ _ _ _ _ hb, h0], by rw [cell_of_row _ _ _ _ _ _ hb, h1]⟩
theorem DlRd.fz (h : DlRd W g cap M) (k : Nat) : W.frozen? ⟨g, k, none⟩ = false := by
  obtain ⟨cur, hb, _⟩ := h.ex
  unfold World.frozen?
  rw [hb]
  simp
theorem DlRd.lies (h : DlRd W g cap M) : LiesAt W (some ⟨g, 0, none⟩) 2 rdL M := by
  intro i x hx
  obtain ⟨h0, h1⟩ := h.cells hx
  refine ⟨g, 0, rfl, h.lt, fun j v hj => ?_⟩
  rw [Nat.zero_add]
  match j, hj with
  | 0, hj => simp [rdL] at hj; subst hj; exact h0
  | 1, hj => simp [rdL] at hj; subst hj; exact h1
  | n + 2, hj => simp [rdL] at hj
theorem DlRd.set (h : DlRd W g cap M) {i : Nat} (hi : i < M.length) (x : Rd) : DlRd ((W.setCell ⟨g, i * 2, none⟩ (.string x.key)).setCell ⟨g, i * 2 + 1, none⟩ (.int .i64 x.ver)) g cap (M.set i x) := by
  obtain ⟨cur, hb, hsz, hle, hc⟩ := h.ex
  have h1 := heap_setCell_same _ g (i * 2) _ _ (.string x.key) hb
  have h2 := heap_setCell_same _ g (i * 2 + 1) _ _ (.int .i64 x.ver) h1
  refine ⟨_, h2, by simp [hsz], by rw [List.length_set]; exact hle, fun j y hy => ?_⟩
  rw [List.getElem?_set] at hy
  by_cases hij : i = j
  · subst hij
    rw [if_pos rfl, if_pos hi] at hy
    cases hy
    constructor
    · rw [Array.getElem?_setIfInBounds_ne (by omega), Array.getElem?_setIfInBounds_self_of_lt (by omega)]
    · rw [Array.getElem?_setIfInBounds_self_of_lt (by simp; omega)]
  · rw [if_neg hij] at hy
    obtain ⟨c0, c1⟩ := hc j y hy
    constructor
    · rw [Array.getElem?_setIfInBounds_ne (by omega), Array.getElem?_setIfInBounds_ne (by omega)]; exact c0
    · rw [Array.getElem?_setIfInBounds_ne (by omega), Array.getElem?_setIfInBounds_ne (by omega)]; exact c1
end
theorem DlRd_row {w : World} {base g n cap : Nat} {l : List Rd} (h : w.ownsRow base 53 2 (.slice (some ⟨g, 0, none⟩) n cap) n (l.flatMap rdL)) (hn : n = l.length) : DlRd w g cap l := by
  rcases h with ⟨hl, ⟨e, _⟩ | ⟨g', cp, cur, e, hb, hh, h4, h5, h6, h7⟩⟩
  · cases e
  · cases e
    refine ⟨cur, hh, h6, by omega, fun i x hx => ?_⟩
    have hi := (List.getElem?_eq_some_iff.1 hx).1
    have q : ∀ j, j < 2 → cur[i * 2 + j]? = (rdL x)[j]? := fun j hj => by
      rw [← flat_get rdL 2 rd_len l i j x hx hj, ← h7, List.getElem?_take, if_pos (by omega)]
      simp
    exact ⟨q 0 (by omega), q 1 (by omega)⟩
/-- what Clone leaves -/
def ClRd (w : World) (l : List Rd) (e : Ending) (w' : World) : Prop :=
  Below w.heap.size w w' ∧ ((l = [] ∧ e = .returned (.slice none 0 0)) ∨ ∃ g cap, e = .returned (.slice (some ⟨g, 0, none⟩) l.length cap) ∧ DlRd w' g cap l ∧ w.heap.size ≤ g ∧ cap ≤ maxLen)
set_option maxRecDepth 100000 in
theorem clone_nil_rd (w : World) : Calls Tryz.prog 81 #[.slice none 0 0] w fun e w' => e = .returned (.slice none 0 0) ∧ w' = w := by
  have hs : (binOp .eql 22 (.slice none 0 0) (.slice none 0 0)).run Tryz.prog w = .ok (.bool true) w := Lib.run_eql_slice_nil_nil w 0 0 Tryz.underlying22
  go_enter Tryz.func81, Tryz.ntmps81
  go_wp2_with fail
  go_ret
  exact ⟨rfl, rfl⟩
set_option maxRecDepth 100000 in
set_option maxHeartbeats 1600000 in
theorem clone_rd (a : Option Addr) (c : Nat) (l : List Rd) (w : World) (h : LiesAt w a 2 rdL l) (hl : l.length ≤ 100000) (hnil : a = none → c = 0) :
    Calls Tryz.prog 81 #[.slice a l.length c] w (ClRd w l) := by
  obtain ⟨i0, hi0, hz0, hz1, hz2⟩ := info_parts rd_info
  have HI := Lib.hid hi0
  have HZ := Lib.hid hz0
  have HS := Lib.hid hz1
  have HY := Lib.hid hz2
  have HL := Lib.hid h
  obtain ⟨n, hn⟩ : ∃ n, n = l.length := ⟨_, rfl⟩
  have HN := Lib.hid hn
  have HNL : Hid (n ≤ 100000) := by rw [hn]; exact hl
  rw [← hn]
  cases a with
  | none =>
    have hz : l = [] := by
      cases l with
      | nil => rfl
      | cons x l =>
        obtain ⟨g, o, e, _⟩ := h 0 x rfl
        cases e
    obtain rfl := hnil rfl
    subst hz
    obtain rfl : n = 0 := HN.out
    refine (clone_nil_rd w).mono ?_
    rintro e w' ⟨rfl, rfl⟩
    exact ⟨Below.refl _ _, .inl ⟨rfl, rfl⟩⟩
  | some b =>
    have HOE : Hid (∀ W : World, w.heap.size ≤ W.heap.size → (W.alloc (.cells #[] 53)).ownsRow w.heap.size 53 2 (.slice (some ⟨W.heap.size, 0, none⟩) 0 0) 0 []) := fun W hW => ⟨by simp, .inr ⟨W.heap.size, 0, #[], rfl, hW, heap_alloc_new W _, Nat.le_refl _, by unfold maxLen; omega, by simp, by simp⟩⟩
    have hs : (binOp .eql 22 (.slice (some b) n c) (.slice none 0 0)).run Tryz.prog w = .ok (.bool false) w := Lib.run_eql_slice_nil w 22 53 (some b) n c 0 0 Tryz.underlying22
    have hone : ∀ u ∈ l.flatMap rdL, u.oneCell' = true := fun u hu => by
      obtain ⟨x, _, hx⟩ := List.mem_flatMap.1 hu
      exact rd_one x u hx
    have hfl : (l.flatMap rdL).length = n * 2 := by rw [hn]; exact rd_fl l
    have HONE := Lib.hid (And.intro hone hfl)
    clear h hi0 hz0 hz1 hz2 hn hl hnil hone hfl
    go_enter Tryz.func81, Tryz.ntmps81
    go_wp2_with (at_builtin; refine wpList_append_own_at _ rfl _ _ 22 rfl w.heap.size 53 i0 (.agg #[.string ⟨#[]⟩, .int .i64 0]) 2 24 Tryz.underlying22 HI.out HZ.out HS.out HY.out rfl (by decide) _ _ _ rfl (HOE.out w (Nat.le_refl _)) b n c (l.flatMap rdL) rfl HONE.out.2 ?c2 HONE.out.1 ?c4 ?c5 ?c6 ?c7)
    case c2 => exact cells_at_rd (HL.out.below (bl_alloc _ _))
    case c4 => have := HNL.out; unfold maxLen; omega
    case c5 => have := HNL.out; omega
    case c6 => simp
    case c7 =>
      intro v1 w2 hown hgrow _ _
      obtain ⟨va, vc, rfl⟩ := row_slice hown
      have HOW : Hid (w2.ownsRow w.heap.size 53 2 (.slice va n vc) n (l.flatMap rdL)) := hown
      have hg2 : Wrote [w.heap.size] (w.alloc (.cells #[] 53)) w2 := by
        have := Wrote.of_grown hgrow
        simpa [Value.ownBlock] using this
      have HGR : Hid (Below w.heap.size w w2) := (((Wrote.refl [w.heap.size] w).alloc _).trans hg2).below (Nat.le_refl _) fun k hk => by simp at hk; omega
      clear hown hgrow hg2
      go_wp2_with fail
      go_ret
      rcases HOW.out with ⟨hl2, ⟨e, h0⟩ | ⟨g, cp, cur, e, hb, hh, h4, h5, h6, h7⟩⟩
      · cases e
        have hz : l = [] := List.length_eq_zero_iff.1 (by have := HN.out; omega)
        exact ⟨HGR.out, .inl ⟨hz, by rw [h0]; rfl⟩⟩
      · cases e
        exact ⟨HGR.out, .inr ⟨g, vc, by rw [HN.out]; rfl, DlRd_row HOW.out HN.out, hb, h5⟩⟩
set_option maxRecDepth 100000 in
set_option maxHeartbeats 1600000 in
theorem del_rd (k : ByteArray) (v : Int) (kb fb : Nat) (a : Option Addr) (c : Nat) (K : List ByteArray) (w : World) (hk : w.cell? ⟨kb, 0, none⟩ = some (.slice a K.length c)) (hf : w.cell? ⟨fb, 0, none⟩ = some (.func (.func 46) #[] #[])) (hK : LiesAt w a 1 strL K) (hl : K.length ≤ 100000) :
    Calls Tryz.prog 82 #[.agg #[.string k, .int .i64 v], .pointer (some ⟨kb, 0, none⟩), .pointer (some ⟨fb, 0, none⟩)] w (BoolL w (!hasB K k)) := by
  obtain ⟨W, hW⟩ : ∃ W : World, W = w.alloc (.cells #[.string k, .int .i64 v] 53) := ⟨_, rfl⟩
  obtain ⟨q, hq⟩ : ∃ q, q = w.heap.size := ⟨_, rfl⟩
  have hb : Below w.heap.size w W := by rw [hW]; exact bl_alloc _ _
  have hbx : W.heap[q]? = some (.cells #[.string k, .int .i64 v] 53 (0, 0)) := by rw [hW, hq]; exact heap_alloc_new w _
  have HW : Hid (w.alloc (.cells #[.string k, .int .i64 v] 53) = W ∧ w.heap.size = q) := ⟨hW.symm, hq.symm⟩
  have hkl := World.block_lt_of_cell? w ⟨kb, 0, none⟩ hk
  have hfl := World.block_lt_of_cell? w ⟨fb, 0, none⟩ hf
  have e0 : ∀ X : Later W, X.1.cell? ⟨q, 0, none⟩ = some (.string k) := fun X => by rw [X.cell (lt_of_heap hbx), cell_of_row _ _ _ _ _ _ hbx]; rfl
  have e1 : ∀ X : Later W, X.1.cell? ⟨q, 1, none⟩ = some (.int .i64 v) := fun X => by rw [X.cell (lt_of_heap hbx), cell_of_row _ _ _ _ _ _ hbx]; rfl
  have e2 : ∀ X : Later W, X.1.cell? ⟨kb, 0, none⟩ = some (.slice a K.length c) := fun X => by rw [X.cell (Nat.lt_of_lt_of_le hkl hb.size)]; exact (hb.cell (p := ⟨kb, 0, none⟩) hkl).trans hk
  have e3 : ∀ X : Later W, X.1.cell? ⟨fb, 0, none⟩ = some (.func (.func 46) #[] #[]) := fun X => by rw [X.cell (Nat.lt_of_lt_of_le hfl hb.size)]; exact (hb.cell (p := ⟨fb, 0, none⟩) hfl).trans hf
  have HB := Lib.hid hb
  have HK1 : Hid (∀ X : World, Calls Tryz.prog 46 #[.agg #[.string k, .int .i64 v]] X (KeyL X k)) := fun X => read_key k v X
  obtain ⟨r, hr⟩ : ∃ r, r = hasB K k := ⟨_, rfl⟩
  have HC : Hid (∀ X : Later W, Calls Tryz.prog 83 #[.slice a K.length c, .string k] X.1 fun e w' => e = .returned (.bool r) ∧ X.1 = w') := fun X => by
    rw [hr]
    exact (contains_str a c K k X.1 ((hK.below hb).below X.2) hl).mono fun e w' h => ⟨h.1, h.2.symm⟩
  rw [← hr]
  generalize K.length = n at *
  clear hW hq hb hbx hkl hfl hk hf hK hl hr
  go_enter Tryz.func82, Tryz.ntmps82
  go_upto_region 1 with fail
  rw [HW.out.1, HW.out.2]
  have here := Later.here W
  refine wp_region_later (by kernel_rfl) (by kernel_rfl) ?_
  iterate 7 (with_reducible refine wpQuiet_step (fun K hK => ?_); go_simp; first | (refine hK _ ?_; clear hK K) | (apply Exists.intro; refine ⟨fun X => ?_, hK _ ?_⟩; (first | (go_at_call 46; with_reducible exact later_call (HK1.out _)) | (go_at_call 83; with_reducible exact later_same (HC.out _))); clear hK K))
  with_reducible refine wpQuiet_nil ?_
  intro X
  go_wp2_with fail
  go_ret
  exact ⟨rfl, bl_trans HB.out X.2⟩
/-- what IndexFunc tells -/
def IxRd (w : World) (K : List ByteArray) (l : List Rd) (e : Ending) (w' : World) : Prop :=
  Below w.heap.size w w' ∧ ((∃ (j : Nat) (x : Rd), e = .returned (.int .i64 j) ∧ l[j]? = some x ∧ hasB K x.key = false ∧ ∀ (i : Nat) y, i < j → l[i]? = some y → hasB K y.key = true) ∨
    (e = .returned (.int .i64 (-1)) ∧ ∀ (i : Nat) y, l[i]? = some y → hasB K y.key = true))
set_option maxRecDepth 100000 in
set_option maxHeartbeats 1600000 in
theorem indexf_rd (kb fb : Nat) (a : Option Addr) (c : Nat) (K : List ByteArray) (l : List Rd) (w : World) (h : LiesAt w a 2 rdL l) (hl : l.length ≤ 100000)
    (HD : ∀ X, Below w.heap.size w X → ∀ x : Rd, Calls Tryz.prog 82 #[.agg #[.string x.key, .int .i64 x.ver], .pointer (some ⟨kb, 0, none⟩), .pointer (some ⟨fb, 0, none⟩)] X (BoolL X (!hasB K x.key))) :
    Calls Tryz.prog 115 #[.slice a l.length c, .func (.func 82) #[] #[.pointer (some ⟨kb, 0, none⟩), .pointer (some ⟨fb, 0, none⟩)]] w (IxRd w K l) := by
  have HL := Lib.hid h
  have HDD := Lib.hid HD
  obtain ⟨n, hn⟩ : ∃ n, n = l.length := ⟨_, rfl⟩
  have HN := Lib.hid hn
  rw [← hn] at hl ⊢
  have hn9 : (n : Int) ≤ 100000 := by omega
  have P0 : Hid (Below w.heap.size w w ∧ ∀ (i : Nat) y, i < 0 → l[i]? = some y → hasB K y.key = true) := ⟨Below.refl _ _, fun i y hi => by omega⟩
  clear h hn hl HD
  go_enter Tryz.func115, Tryz.ntmps115
  go_wp2_with fail
  go_loopw [8] (fun i W => ∃ j : Nat, j ≤ n ∧ i = .int .i64 j ∧ Hid (Below w.heap.size w W ∧ ∀ (i : Nat) y, i < j → l[i]? = some y → hasB K y.key = true)) (fun i _ => n - (intOf i).toNat)
  case atStart => exact ⟨0, by omega, rfl, P0⟩
  case round =>
    clear P0
    obtain ⟨j, hj, rfl, HJ⟩ := hrel
    by_cases hlt : j < n
    · obtain ⟨⟨xk, xv⟩, hx⟩ : ∃ x, l[j]? = some x := ⟨_, List.getElem?_eq_getElem (by rw [← HN.out]; exact hlt)⟩
      obtain ⟨g, o, rfl, lg, hcl⟩ := (HL.out.below HJ.out.1) j _ hx
      have k0 := hcl 0 _ rfl
      have k1 := hcl 1 _ rfl
      simp only [Nat.add_zero] at k0 k1
      have HX := Lib.hid hx
      have hj0 : (0 : Int) ≤ (j : Int) := by omega
      have hj1 : (j : Int) < (n : Int) := by omega
      have HC := Lib.hid (HDD.out wr HJ.out.1 ⟨xk, xv⟩)
      obtain ⟨r, hr⟩ : ∃ r, r = hasB K xk := ⟨_, rfl⟩
      have HRR := Lib.hid hr
      simp only at HC
      rw [← hr] at HC
      clear hx hcl lg hr
      go_wp2_with fail
      refine HC.out.mono ?_
      rintro e w2 ⟨rfl, hb⟩
      have HB2 := Lib.hid (HJ.out.1.trans (hb.mono HJ.out.1.size))
      clear hb HC
      cases r with
      | true =>
        have HNX : Hid (Below w.heap.size w w2 ∧ ∀ (i : Nat) y, i < j + 1 → l[i]? = some y → hasB K y.key = true) := ⟨HB2.out, fun i y hi hy => by
          rcases Nat.lt_or_ge i j with h | h
          · exact HJ.out.2 i y h hy
          · obtain rfl : i = j := by omega
            rw [HX.out] at hy
            cases hy
            exact HRR.out.symm⟩
        go_wp2_with fail
        exact ⟨⟨j + 1, by omega, by simp, HNX⟩, by simp [intOf]; omega⟩
      | false =>
        go_wp2_with fail
        go_ret
        exact ⟨HB2.out, .inl ⟨j, _, rfl, HX.out, HRR.out.symm, HJ.out.2⟩⟩
    · obtain rfl : j = n := by omega
      go_wp2_with fail
      go_ret
      exact ⟨HJ.out.1, .inr ⟨rfl, fun i y hy => HJ.out.2 i y (by rw [HN.out]; exact (List.getElem?_eq_some_iff.1 hy).1) hy⟩⟩
def pRRd (K : List ByteArray) (x : Rd) : Bool := hasB K x.key
/-- what DeleteFunc leaves -/
def DeRd (w0 : World) (K : List ByteArray) (l : List Rd) (e : Ending) (w' : World) : Prop :=
  ∃ a c, e = .returned (.slice a (l.filter (pRRd K)).length c) ∧ LiesAt w' a 2 rdL (l.filter (pRRd K)) ∧ Below w0.heap.size w0 w'
/-- the round of DeleteFunc -/
structure DrRd (w0 wr : World) (g cap n : Nat) (K : List ByteArray) (l : List Rd) (i j : Nat) : Prop where
  ex : ∃ M, DlRd wr g cap M ∧ M.length = n ∧ M.take i = (l.take j).filter (pRRd K) ∧ M.drop j = l.drop j
  below : Below w0.heap.size w0 wr
theorem DrRd.skip {w0 wr W : World} {g cap n : Nat} {K : List ByteArray} {l : List Rd} {i j : Nat} {x : Rd} (h : DrRd w0 wr g cap n K l i j) (hx : l[j]? = some x) (hp : pRRd K x = false) (hb : Below wr.heap.size wr W) : DrRd w0 W g cap n K l i (j + 1) := by
  obtain ⟨M, h1, h2, h3, h4⟩ := h.ex
  refine ⟨⟨M, h1.below hb, h2, ?_, ?_⟩, h.below.trans (hb.mono h.below.size)⟩
  · rw [h3, List.take_add_one, hx, List.filter_append]
    simp [hp]
  · rw [← List.drop_drop, ← List.drop_drop, h4]
theorem DrRd.put {w0 wr W : World} {g cap n : Nat} {K : List ByteArray} {l : List Rd} {i j : Nat} {x : Rd} (h : DrRd w0 wr g cap n K l i j) (hx : l[j]? = some x) (hp : pRRd K x = true) (hb : Below wr.heap.size wr W) (hij : i < j) (hjn : j < n) (hg : w0.heap.size ≤ g) :
    DrRd w0 ((W.setCell ⟨g, i * 2, none⟩ (.string x.key)).setCell ⟨g, i * 2 + 1, none⟩ (.int .i64 x.ver)) g cap n K l (i + 1) (j + 1) := by
  obtain ⟨M, h1, h2, h3, h4⟩ := h.ex
  have h5 := (h1.below hb).set (i := i) (by omega) x
  refine ⟨⟨_, h5, by rw [List.length_set]; exact h2, ?_, ?_⟩, ?_⟩
  · rw [List.take_add_one (l := l), hx, List.filter_append, ← h3]
    apply List.ext_getElem?
    intro k
    rw [List.getElem?_take, List.getElem?_set, List.getElem?_append, List.getElem?_take, List.length_take, Nat.min_eq_left (by omega)]
    rcases Nat.lt_trichotomy k i with hk | hk | hk
    · rw [if_pos (by omega), if_neg (by omega), if_pos hk, if_pos hk]
    · subst hk
      rw [if_pos (by omega), if_pos rfl, if_pos (by omega), if_neg (by omega)]
      simp [hp]
    · rw [if_neg (by omega), if_neg (by omega)]
      simp [hp]
      omega
  · have e1 : M.drop (j + 1) = l.drop (j + 1) := by rw [← List.drop_drop, ← List.drop_drop, h4]
    rw [← e1]
    apply List.ext_getElem?
    intro k
    rw [List.getElem?_drop, List.getElem?_drop, List.getElem?_set, if_neg (by omega)]
  · exact (h.below.trans (hb.mono h.below.size)).trans (Wrote.below (S := [g]) (((Wrote.refl _ _).setCell (.inl (by simp)) _).setCell (.inl (by simp)) _) (Nat.le_trans h.below.size hb.size) fun k hk => by simp at hk; omega)
theorem rd_zero (w : World) : (zeroValue 53).run Tryz.prog w = .ok (.agg #[.string ⟨#[]⟩, .int .i64 0]) w := by kernel_rfl
set_option maxRecDepth 100000 in
set_option maxHeartbeats 6400000 in
theorem delf_rd (kb fb g cap : Nat) (K : List ByteArray) (l : List Rd) (w0 w : World) (h : DlRd w g cap l) (hb : Below w0.heap.size w0 w) (hg : w0.heap.size ≤ g) (hl : l.length ≤ 100000) (hcap : cap ≤ maxLen)
    (HD : ∀ X, Below w0.heap.size w0 X → ∀ x : Rd, Calls Tryz.prog 82 #[.agg #[.string x.key, .int .i64 x.ver], .pointer (some ⟨kb, 0, none⟩), .pointer (some ⟨fb, 0, none⟩)] X (BoolL X (!hasB K x.key))) :
    Calls Tryz.prog 80 #[.slice (some ⟨g, 0, none⟩) l.length cap, .func (.func 82) #[] #[.pointer (some ⟨kb, 0, none⟩), .pointer (some ⟨fb, 0, none⟩)]] w (DeRd w0 K l) := by
  have HX := Lib.hid (indexf_rd kb fb (some ⟨g, 0, none⟩) cap K l w h.lies hl (fun X hX x => HD X (hb.trans (hX.mono hb.size)) x))
  have HH : Hid (DlRd w g cap l ∧ Below w0.heap.size w0 w ∧ w0.heap.size ≤ g) := ⟨h, hb, hg⟩
  have HDD := Lib.hid HD
  have hle : l.length ≤ cap := by obtain ⟨_, _, _, h4, _⟩ := h.ex; exact h4
  obtain ⟨n, hn⟩ : ∃ n, n = l.length := ⟨_, rfl⟩
  have HN := Lib.hid hn
  rw [← hn] at hl hle HX ⊢
  have hn9 : (n : Int) ≤ 100000 := by omega
  have hnc : (n : Int) ≤ (cap : Int) := by omega
  unfold maxLen at hcap
  have hc9 : (cap : Int) ≤ 9223372036854775807 := by omega
  clear h hb hg hn HD
  go_enter Tryz.func80, Tryz.ntmps80
  go_wp2_with fail
  refine HX.out.mono ?_
  rintro e w1 ⟨hb1, ⟨j0, x0, rfl, hx0, hp0, hall⟩ | ⟨rfl, hall⟩⟩
  · have hj0 : j0 < n := by rw [HN.out]; exact (List.getElem?_eq_some_iff.1 hx0).1
    have P0 : Hid (DrRd w0 w1 g cap n K l j0 (j0 + 1)) := by
      refine ⟨⟨l, HH.out.1.below hb1, HN.out.symm, ?_, rfl⟩, HH.out.2.1.trans (hb1.mono HH.out.2.1.size)⟩
      rw [List.take_add_one, hx0, List.filter_append]
      have e1 : (l.take j0).filter (pRRd K) = l.take j0 := by
        apply List.filter_eq_self.2
        intro y hy
        obtain ⟨i, hi⟩ := List.getElem?_of_mem hy
        rw [List.getElem?_take] at hi
        split at hi
        · rename_i hlt
          exact hall i y hlt hi
        · cases hi
      rw [e1]
      simp [pRRd, hp0]
    have i1 : ((j0 : Int) == -1) = false := by simp
    have i2 : IntKind.i64.wrap ((j0 : Int) + 1) = (j0 : Int) + 1 := IntWalk.i64_in _ (by omega)
    clear hb1 hx0 hp0 hall HX
    go_wp2_with fail
    go_loopw [5, 6] (fun u v wr => ∃ i j : Nat, i < j ∧ j ≤ n ∧ u = .int .i64 i ∧ v = .int .i64 j ∧ Hid (DrRd w0 wr g cap n K l i j)) (fun _ v _ => n - (intOf v).toNat)
    case atStart => exact ⟨j0, j0 + 1, by omega, by omega, rfl, by simp, P0⟩
    case round =>
      clear P0 i2
      obtain ⟨i, j, hij, hj, rfl, rfl, HJ⟩ := hrel
      by_cases hlt : j < n
      · obtain ⟨M, h1, h2, h3, h4⟩ := HJ.out.ex
        obtain ⟨⟨xk, xv⟩, hx⟩ : ∃ x, l[j]? = some x := ⟨_, List.getElem?_eq_getElem (by rw [← HN.out]; exact hlt)⟩
        have hM : M[j]? = some ⟨xk, xv⟩ := by
          have := congrArg (fun q => q[0]?) h4
          simp only [List.getElem?_drop, Nat.add_zero] at this
          rw [this, hx]
        obtain ⟨k0, k1⟩ := h1.cells hM
        have HXJ := Lib.hid hx
        have HM1 := Lib.hid h1
        have j0' : (0 : Int) ≤ (j : Int) := by omega
        have j1' : (j : Int) < (n : Int) := by omega
        have j2' : (0 : Int) ≤ (i : Int) := by omega
        have j3' : (i : Int) < (n : Int) := by omega
        obtain ⟨W, hW⟩ : ∃ W : World, W = wr.alloc (.cells #[.string xk, .int .i64 xv] 53) := ⟨_, rfl⟩
        obtain ⟨bq, hbq⟩ : ∃ bq, bq = wr.heap.size := ⟨_, rfl⟩
        have hb : Below wr.heap.size wr W := by rw [hW]; exact bl_alloc _ _
        have hbx : W.heap[bq]? = some (.cells #[.string xk, .int .i64 xv] 53 (0, 0)) := by rw [hW, hbq]; exact heap_alloc_new wr _
        have HW : Hid (wr.alloc (.cells #[.string xk, .int .i64 xv] 53) = W ∧ wr.heap.size = bq) := ⟨hW.symm, hbq.symm⟩
        have HBX : Hid (W.heap[bq]? = some (.cells #[.string xk, .int .i64 xv] 53 (0, 0)) ∧ Below wr.heap.size wr W) := ⟨hbx, hb⟩
        have e0 : W.cell? ⟨bq, 0, none⟩ = some (.string xk) := by rw [cell_of_row _ _ _ _ _ _ hbx]; rfl
        have e1 : W.cell? ⟨bq, 1, none⟩ = some (.int .i64 xv) := by rw [cell_of_row _ _ _ _ _ _ hbx]; rfl
        have HC := HDD.out W (HJ.out.below.trans (hb.mono HJ.out.below.size)) ⟨xk, xv⟩
        simp only at HC
        obtain ⟨r, hr⟩ : ∃ r, r = hasB K xk := ⟨_, rfl⟩
        have HRR := Lib.hid hr
        rw [← hr] at HC
        have HCC := Lib.hid HC
        clear h1 h2 h3 h4 hx hM hW hbq hb hbx hr HC
        go_upto_region 8 with fail
        rw [HW.out.1, HW.out.2]
        clear k0 k1
        go_wp2_with fail
        refine HCC.out.mono ?_
        rintro e w2 ⟨rfl, hb2⟩
        have hbx2 := (hb2.block _ (lt_of_heap HBX.out.1)).trans HBX.out.1
        have c0 : w2.cell? ⟨bq, 0, none⟩ = some (.string xk) := by rw [cell_of_row _ _ _ _ _ _ hbx2]; rfl
        have c1 : w2.cell? ⟨bq, 1, none⟩ = some (.int .i64 xv) := by rw [cell_of_row _ _ _ _ _ _ hbx2]; rfl
        have HB2 : Hid (Below wr.heap.size wr w2) := bl_trans HBX.out.2 hb2
        have hf := (HM1.out.below HB2.out).fz
        have hcs : ∀ i', i' < n → (w2.cell? ⟨g, i' * 2, none⟩).isSome = true ∧ (w2.cell? ⟨g, i' * 2 + 1, none⟩).isSome = true := fun i' hi' => by
          obtain ⟨M', m1, m2, _⟩ := HJ.out.ex
          obtain ⟨y, hy⟩ : ∃ y, M'[i']? = some y := ⟨_, List.getElem?_eq_getElem (by omega)⟩
          obtain ⟨a1, a2⟩ := (m1.below HB2.out).cells hy
          rw [a1, a2]
          exact ⟨rfl, rfl⟩
        obtain ⟨y0, y1⟩ := hcs i (by omega)
        obtain ⟨v0, hv0⟩ := Option.isSome_iff_exists.1 y0
        obtain ⟨v1, hv1⟩ := Option.isSome_iff_exists.1 y1
        clear hb2 hbx2 e0 e1 hcs y0 y1 HCC
        cases r with
        | true =>
          have HNX : Hid (DrRd w0 ((w2.setCell ⟨g, i * 2, none⟩ (.string xk)).setCell ⟨g, i * 2 + 1, none⟩ (.int .i64 xv)) g cap n K l (i + 1) (j + 1)) := HJ.out.put HXJ.out (show hasB K xk = true from HRR.out.symm) HB2.out hij hlt HH.out.2.2
          go_wp2_with fail
          exact ⟨⟨i + 1, j + 1, by omega, by omega, by simp, by simp, HNX⟩, by simp [intOf]; omega⟩
        | false =>
          have HNX : Hid (DrRd w0 w2 g cap n K l i (j + 1)) := HJ.out.skip HXJ.out (show hasB K xk = false from HRR.out.symm) HB2.out
          go_wp2_with fail
          exact ⟨⟨i, j + 1, by omega, by omega, rfl, by simp, HNX⟩, by simp [intOf]; omega⟩
      · obtain rfl : j = n := by omega
        obtain ⟨M, h1, h2, h3, h4⟩ := HJ.out.ex
        have hfin : M.take i = l.filter (pRRd K) := by rw [h3, List.take_of_length_le (by rw [HN.out]; exact Nat.le_refl _)]
        have hcl := run_clear2 (P := Tryz.prog) wr 22 53
        have hci : ¬ cap = i := by omega
        have q1 : (i : Int) ≤ (j : Int) := by omega
        have q2 : (i : Int) ≤ (cap : Int) := by omega
        have q3 : (0 : Int) ≤ (i : Int) := by omega
        obtain ⟨Z, hZ, hZl⟩ : ∃ Z : List Value, (∀ ty, (Builtin.clear_ #[22] ty #[.slice (some ⟨g, i * 2, none⟩) (j - i) (cap - i)]).run Tryz.prog wr = .ok (.tuple #[]) (wr.setCells g (i * 2) Z)) ∧ Z.length = (j - i) * 2 := by
          have hcell : ∀ k, k < (j - i) * 2 → (wr.cell? ⟨g, i * 2 + k, none⟩).isSome = true := fun k hk => by
            obtain ⟨y, hy⟩ : ∃ y, M[i + k / 2]? = some y := ⟨_, List.getElem?_eq_getElem (by omega)⟩
            obtain ⟨a1, a2⟩ := h1.cells hy
            rcases Nat.mod_two_eq_zero_or_one k with hm | hm
            · rw [show i * 2 + k = (i + k / 2) * 2 by omega, a1]; rfl
            · rw [show i * 2 + k = (i + k / 2) * 2 + 1 by omega, a2]; rfl
          have hh := fun ty => run_clear2 (P := Tryz.prog) wr 22 53 ty (.agg #[.string ⟨#[]⟩, .int .i64 0]) (.string ⟨#[]⟩) (.int .i64 0) Tryz.underlying22 rd_zero rfl rfl rfl g (i * 2) (j - i) (cap - i) (by omega) hcell (fun k _ => h1.fz _)
          exact ⟨_, fun ty => (hh ty).1, (hh 0).2⟩
        have HFIN : Hid (LiesAt (wr.setCells g (i * 2) Z) (some ⟨g, 0, none⟩) 2 rdL (l.filter (pRRd K)) ∧ i = (l.filter (pRRd K)).length ∧ Below w0.heap.size w0 (wr.setCells g (i * 2) Z)) := by
          refine ⟨?_, ?_, Go.below_setCells HH.out.2.2 Z (i * 2) wr HJ.out.below⟩
          · rw [← hfin]
            intro k x hk
            have hki : k < i := by
              have := (List.getElem?_eq_some_iff.1 hk).1
              rw [List.length_take] at this
              omega
            rw [List.getElem?_take, if_pos hki] at hk
            obtain ⟨g', o', e, hg', hc'⟩ := h1.lies k x hk
            cases e
            refine ⟨g, 0, rfl, Nat.lt_of_lt_of_le hg' (Go.below_setCells (Nat.zero_le g) Z (i * 2) wr (Below.refl 0 wr)).size, fun jj v hv => ?_⟩
            have hjj : jj < 2 := by have := (List.getElem?_eq_some_iff.1 hv).1; rw [rd_len] at this; exact this
            rw [World.cell?_setCells_out g Z (i * 2) wr _ (fun _ _ => .inl (by show 0 + k * 2 + jj < i * 2; omega))]
            exact hc' jj v hv
          · rw [← hfin, List.length_take]
            omega
        clear h1 h2 h3 h4 hfin hZl hcl HJ
        go_wp2_with fail
        go_ret
        exact ⟨some ⟨g, 0, none⟩, cap, by rw [← HFIN.out.2.1]; rfl, HFIN.out.1, HFIN.out.2.2⟩
  · have HE : Hid (l.filter (pRRd K) = l) := by
      show _ = _
      apply List.filter_eq_self.2
      intro y hy
      obtain ⟨i, hi⟩ := List.getElem?_of_mem hy
      exact hall i y hi
    have HB1 := Lib.hid hb1
    clear hall hb1 HX
    go_wp2_with fail
    go_ret
    exact ⟨some ⟨g, 0, none⟩, cap, by rw [HE.out, ← HN.out]; rfl, by rw [HE.out]; exact (HH.out.1.below HB1.out).lies, HH.out.2.1.trans (HB1.out.mono HH.out.2.1.size)⟩
set_option maxRecDepth 100000 in
set_option maxHeartbeats 1600000 in
theorem delf_nil_rd (kb fb : Nat) (K : List ByteArray) (w0 w : World) (hb : Below w0.heap.size w0 w)
    (HD : ∀ X, Below w0.heap.size w0 X → ∀ x : Rd, Calls Tryz.prog 82 #[.agg #[.string x.key, .int .i64 x.ver], .pointer (some ⟨kb, 0, none⟩), .pointer (some ⟨fb, 0, none⟩)] X (BoolL X (!hasB K x.key))) :
    Calls Tryz.prog 80 #[.slice none 0 0, .func (.func 82) #[] #[.pointer (some ⟨kb, 0, none⟩), .pointer (some ⟨fb, 0, none⟩)]] w (DeRd w0 K []) := by
  have HX := Lib.hid (indexf_rd kb fb none 0 K [] w (LiesAt.nil _ _ _ _) (by simp) (fun X hX x => HD X (hb.trans (hX.mono hb.size)) x))
  have HB := Lib.hid hb
  clear hb HD
  simp only [List.length_nil] at HX
  go_enter Tryz.func80, Tryz.ntmps80
  go_wp2_with fail
  refine HX.out.mono ?_
  rintro e w1 ⟨hb1, ⟨j0, x0, rfl, hx0, hp0, hall⟩ | ⟨rfl, hall⟩⟩
  · simp at hx0
  · have HB1 := Lib.hid hb1
    clear hall hb1 HX
    go_wp2_with fail
    go_ret
    exact ⟨none, 0, rfl, LiesAt.nil _ _ _ _, HB.out.trans (HB1.out.mono HB.out.size)⟩
/-- what own leaves -/
def OwRd (w : World) (K : List ByteArray) (l : List Rd) (e : Ending) (w' : World) : Prop :=
  ∃ a c, e = .returned (.slice a (l.filter (pRRd K)).length c) ∧ LiesAt w' a 2 rdL (l.filter (pRRd K)) ∧ Below w.heap.size w w'
set_option maxRecDepth 100000 in
set_option maxHeartbeats 1600000 in
theorem own_rd (a : Option Addr) (c : Nat) (l : List Rd) (ka : Option Addr) (kc : Nat) (K : List ByteArray) (w : World) (h : LiesAt w a 2 rdL l) (hl : l.length ≤ 100000) (hnil : a = none → c = 0) (hK : LiesAt w ka 1 strL K) (hk9 : K.length ≤ 100000) :
    Calls Tryz.prog 45 #[.slice a l.length c, .func (.func 46) #[] #[], .slice ka K.length kc] w (OwRd w K l) := by
  obtain ⟨W, hW⟩ : ∃ W : World, W = (w.alloc (.cells #[.func (.func 46) #[] #[]] 96)).alloc (.cells #[.slice ka K.length kc] 43) := ⟨_, rfl⟩
  obtain ⟨fb, hfb⟩ : ∃ p, p = w.heap.size := ⟨_, rfl⟩
  have hb : Below w.heap.size w W := by rw [hW]; exact ((Below.refl _ _).alloc (Nat.le_refl _) _).alloc (by simp) _
  have hp1 : W.heap[fb]? = some (.cells #[.func (.func 46) #[] #[]] 96 (0, 0)) := by
    rw [hW, hfb, heap_alloc_old _ _ (by simp)]
    exact heap_alloc_new w _
  have hp2 : W.heap[fb + 1]? = some (.cells #[.slice ka K.length kc] 43 (0, 0)) := by
    have := heap_alloc_new (w.alloc (.cells #[.func (.func 46) #[] #[]] 96)) (.cells #[.slice ka K.length kc] 43)
    rw [hW, hfb]
    simpa using this
  have HD : Hid (∀ X, Below W.heap.size W X → ∀ x : Rd, Calls Tryz.prog 82 #[.agg #[.string x.key, .int .i64 x.ver], .pointer (some ⟨fb + 1, 0, none⟩), .pointer (some ⟨fb, 0, none⟩)] X (BoolL X (!hasB K x.key))) := fun X hX x =>
    del_rd x.key x.ver (fb + 1) fb ka kc K X (by rw [cell_of_row _ _ _ _ _ _ ((hX.block _ (lt_of_heap hp2)).trans hp2)]; rfl) (by rw [cell_of_row _ _ _ _ _ _ ((hX.block _ (lt_of_heap hp1)).trans hp1)]; rfl) ((hK.below hb).below hX) hk9
  have HW : Hid ((w.alloc (.cells #[.func (.func 46) #[] #[]] 96)).alloc (.cells #[.slice ka K.length kc] 43) = W ∧ w.heap.size = fb) := ⟨hW.symm, hfb.symm⟩
  have HC := Lib.hid (clone_rd a c l W (h.below hb) hl hnil)
  have HB := Lib.hid hb
  have HLL : Hid (l.length ≤ 100000) := hl
  obtain ⟨n, hn⟩ : ∃ n, n = l.length := ⟨_, rfl⟩
  have HN := Lib.hid hn
  rw [← hn] at HC ⊢
  generalize K.length = kn at *
  clear h hl hnil hK hk9 hW hfb hb hp1 hp2 hn
  go_enter Tryz.func45, Tryz.ntmps45
  go_upto_region 1 with fail
  rw [HW.out.1, HW.out.2]
  go_wp2_with fail
  refine HC.out.mono ?_
  rintro e w1 ⟨hb1, ⟨hz, rfl⟩ | ⟨g, cap, rfl, hdl, hg, hcap⟩⟩
  · subst hz
    have HDN := Lib.hid (delf_nil_rd (fb + 1) fb K W w1 hb1 HD.out)
    clear hb1 HC
    go_wp2_with fail
    refine HDN.out.mono ?_
    rintro e w2 ⟨a2, c2, rfl, hl2, hb2⟩
    have HF := Lib.hid (And.intro hl2 hb2)
    clear hl2 hb2
    go_wp2_with fail
    go_ret
    exact ⟨a2, c2, rfl, HF.out.1, bl_trans HB.out HF.out.2⟩
  · have HDN := delf_rd (fb + 1) fb g cap K l W w1 hdl hb1 hg HLL.out hcap HD.out
    rw [← HN.out] at HDN ⊢
    have HDD := Lib.hid HDN
    clear hb1 HC hdl hg hcap HDN
    go_wp2_with fail
    refine HDD.out.mono ?_
    rintro e w2 ⟨a2, c2, rfl, hl2, hb2⟩
    have HF := Lib.hid (And.intro hl2 hb2)
    obtain ⟨fn, hfn⟩ : ∃ fn, fn = (l.filter (pRRd K)).length := ⟨_, rfl⟩
    have HFN := Lib.hid hfn
    rw [← hfn]
    clear hl2 hb2 hfn
    go_wp2_with fail
    go_ret
    exact ⟨a2, c2, by rw [HFN.out]; rfl, HF.out.1, bl_trans HB.out HF.out.2⟩
theorem wr_fl : ∀ L : List Wr, (L.flatMap wrL).length = L.length * 2
  | [] => rfl
  | x :: L => by rw [List.flatMap_cons, List.length_append, wr_fl L, List.length_cons, wr_len]; omega
theorem cells_at_wr {w : World} {b : Addr} {l : List Wr} (h : LiesAt w (some b) 2 wrL l) : ∀ j u, (l.flatMap wrL)[j]? = some u → w.cell? (b.add j) = some u := by
  intro j u hj
  have hjl := (List.getElem?_eq_some_iff.1 hj).1
  rw [wr_fl] at hjl
  obtain ⟨x, hx⟩ : ∃ x, l[j / 2]? = some x := ⟨_, List.getElem?_eq_getElem (by omega)⟩
  obtain ⟨g, o, e, hg, hc⟩ := h (j / 2) x hx
  cases e
  have h1 := flat_get wrL 2 wr_len l (j / 2) (j % 2) x hx (by omega)
  rw [show j / 2 * 2 + j % 2 = j by omega, hj] at h1
  have := hc (j % 2) u h1.symm
  rw [show o + j / 2 * 2 + j % 2 = o + j by omega] at this
  rw [Addr.add_lit]
  exact this
/-- elements of the call's own, in a block that is written -/
structure DlWr (W : World) (g cap : Nat) (M : List Wr) : Prop where
  ex : ∃ cur : Array Value, W.heap[g]? = some (.cells cur 48 (0, 0)) ∧ cur.size = cap * 2 ∧ M.length ≤ cap ∧ ∀ (i : Nat) x, M[i]? = some x → cur[i * 2]? = some (.string x.key) ∧ cur[i * 2 + 1]? = some (.string x.val)
section
variable {W W' : World} {g cap : Nat} {M : List Wr}
theorem DlWr.lt (h : DlWr W g cap M) : g < W.heap.size := by obtain ⟨cur, hb, _⟩ := h.ex; exact lt_of_heap hb
theorem DlWr.keep (h : DlWr W g cap M) (hk : W'.heap[g]? = W.heap[g]?) : DlWr W' g cap M := by
  obtain ⟨cur, hb, h2⟩ := h.ex
  exact ⟨cur, hk.trans hb, h2⟩
theorem DlWr.below (h : DlWr W g cap M) (hb : Below W.heap.size W W') : DlWr W' g cap M := h.keep (hb.block _ h.lt)
theorem DlWr.cells (h : DlWr W g cap M) {i : Nat} {x : Wr} (hx : M[i]? = some x) : W.cell? ⟨g, i * 2, none⟩ = some (.string x.key) ∧ W.cell? ⟨g, i * 2 + 1, none⟩ = some (.string x.val) := by
  obtain ⟨cur, hb, _, _, hc⟩ := h.ex
  obtain ⟨h0, h1⟩ := hc i x hx
  exact ⟨by rw [cell_of_row _ _ _ _ _ _ hb, h0], by rw [cell_of_row _ _ _ _ _ _ hb, h1]⟩
theorem DlWr.fz (h : DlWr W g cap M) (k : Nat) : W.frozen? ⟨g, k, none⟩ = false := by
  obtain ⟨cur, hb, _⟩ := h.ex
  unfold World.frozen?
  rw [hb]
  simp
theorem DlWr.lies (h : DlWr W g cap M) : LiesAt W (some ⟨g, 0, none⟩) 2 wrL M := by
  intro i x hx
  obtain ⟨h0, h1⟩ := h.cells hx
  refine ⟨g, 0, rfl, h.lt, fun j v hj => ?_⟩
  rw [Nat.zero_add]
  match j, hj with
  | 0, hj => simp [wrL] at hj; subst hj; exact h0
  | 1, hj => simp [wrL] at hj; subst hj; exact h1
  | n + 2, hj => simp [wrL] at hj
theorem DlWr.set (h : DlWr W g cap M) {i : Nat} (hi : i < M.length) (x : Wr) : DlWr ((W.setCell ⟨g, i * 2, none⟩ (.string x.key)).setCell ⟨g, i * 2 + 1, none⟩ (.string x.val)) g cap (M.set i x) := by
  obtain ⟨cur, hb, hsz, hle, hc⟩ := h.ex
  have h1 := heap_setCell_same _ g (i * 2) _ _ (.string x.key) hb
  have h2 := heap_setCell_same _ g (i * 2 + 1) _ _ (.string x.val) h1
  refine ⟨_, h2, by simp [hsz], by rw [List.length_set]; exact hle, fun j y hy => ?_⟩
  rw [List.getElem?_set] at hy
  by_cases hij : i = j
  · subst hij
    rw [if_pos rfl, if_pos hi] at hy
    cases hy
    constructor
    · rw [Array.getElem?_setIfInBounds_ne (by omega), Array.getElem?_setIfInBounds_self_of_lt (by omega)]
    · rw [Array.getElem?_setIfInBounds_self_of_lt (by simp; omega)]
  · rw [if_neg hij] at hy
    obtain ⟨c0, c1⟩ := hc j y hy
    constructor
    · rw [Array.getElem?_setIfInBounds_ne (by omega), Array.getElem?_setIfInBounds_ne (by omega)]; exact c0
    · rw [Array.getElem?_setIfInBounds_ne (by omega), Array.getElem?_setIfInBounds_ne (by omega)]; exact c1
end
theorem DlWr_row {w : World} {base g n cap : Nat} {l : List Wr} (h : w.ownsRow base 48 2 (.slice (some ⟨g, 0, none⟩) n cap) n (l.flatMap wrL)) (hn : n = l.length) : DlWr w g cap l := by
  rcases h with ⟨hl, ⟨e, _⟩ | ⟨g', cp, cur, e, hb, hh, h4, h5, h6, h7⟩⟩
  · cases e
  · cases e
    refine ⟨cur, hh, h6, by omega, fun i x hx => ?_⟩
    have hi := (List.getElem?_eq_some_iff.1 hx).1
    have q : ∀ j, j < 2 → cur[i * 2 + j]? = (wrL x)[j]? := fun j hj => by
      rw [← flat_get wrL 2 wr_len l i j x hx hj, ← h7, List.getElem?_take, if_pos (by omega)]
      simp
    exact ⟨q 0 (by omega), q 1 (by omega)⟩
/-- what Clone leaves -/
def ClWr (w : World) (l : List Wr) (e : Ending) (w' : World) : Prop :=
  Below w.heap.size w w' ∧ ((l = [] ∧ e = .returned (.slice none 0 0)) ∨ ∃ g cap, e = .returned (.slice (some ⟨g, 0, none⟩) l.length cap) ∧ DlWr w' g cap l ∧ w.heap.size ≤ g ∧ cap ≤ maxLen)
set_option maxRecDepth 100000 in
theorem clone_nil_wr (w : World) : Calls Tryz.prog 85 #[.slice none 0 0] w fun e w' => e = .returned (.slice none 0 0) ∧ w' = w := by
  have hs : (binOp .eql 23 (.slice none 0 0) (.slice none 0 0)).run Tryz.prog w = .ok (.bool true) w := Lib.run_eql_slice_nil_nil w 0 0 Tryz.underlying23
  go_enter Tryz.func85, Tryz.ntmps85
  go_wp2_with fail
  go_ret
  exact ⟨rfl, rfl⟩
set_option maxRecDepth 100000 in
set_option maxHeartbeats 1600000 in
theorem clone_wr (a : Option Addr) (c : Nat) (l : List Wr) (w : World) (h : LiesAt w a 2 wrL l) (hl : l.length ≤ 100000) (hnil : a = none → c = 0) :
    Calls Tryz.prog 85 #[.slice a l.length c] w (ClWr w l) := by
  obtain ⟨i0, hi0, hz0, hz1, hz2⟩ := info_parts wr_info
  have HI := Lib.hid hi0
  have HZ := Lib.hid hz0
  have HS := Lib.hid hz1
  have HY := Lib.hid hz2
  have HL := Lib.hid h
  obtain ⟨n, hn⟩ : ∃ n, n = l.length := ⟨_, rfl⟩
  have HN := Lib.hid hn
  have HNL : Hid (n ≤ 100000) := by rw [hn]; exact hl
  rw [← hn]
  cases a with
  | none =>
    have hz : l = [] := by
      cases l with
      | nil => rfl
      | cons x l =>
        obtain ⟨g, o, e, _⟩ := h 0 x rfl
        cases e
    obtain rfl := hnil rfl
    subst hz
    obtain rfl : n = 0 := HN.out
    refine (clone_nil_wr w).mono ?_
    rintro e w' ⟨rfl, rfl⟩
    exact ⟨Below.refl _ _, .inl ⟨rfl, rfl⟩⟩
  | some b =>
    have HOE : Hid (∀ W : World, w.heap.size ≤ W.heap.size → (W.alloc (.cells #[] 48)).ownsRow w.heap.size 48 2 (.slice (some ⟨W.heap.size, 0, none⟩) 0 0) 0 []) := fun W hW => ⟨by simp, .inr ⟨W.heap.size, 0, #[], rfl, hW, heap_alloc_new W _, Nat.le_refl _, by unfold maxLen; omega, by simp, by simp⟩⟩
    have hs : (binOp .eql 23 (.slice (some b) n c) (.slice none 0 0)).run Tryz.prog w = .ok (.bool false) w := Lib.run_eql_slice_nil w 23 48 (some b) n c 0 0 Tryz.underlying23
    have hone : ∀ u ∈ l.flatMap wrL, u.oneCell' = true := fun u hu => by
      obtain ⟨x, _, hx⟩ := List.mem_flatMap.1 hu
      exact wr_one x u hx
    have hfl : (l.flatMap wrL).length = n * 2 := by rw [hn]; exact wr_fl l
    have HONE := Lib.hid (And.intro hone hfl)
    clear h hi0 hz0 hz1 hz2 hn hl hnil hone hfl
    go_enter Tryz.func85, Tryz.ntmps85
    go_wp2_with (at_builtin; refine wpList_append_own_at _ rfl _ _ 23 rfl w.heap.size 48 i0 (.agg #[.string ⟨#[]⟩, .string ⟨#[]⟩]) 2 32 Tryz.underlying23 HI.out HZ.out HS.out HY.out rfl (by decide) _ _ _ rfl (HOE.out w (Nat.le_refl _)) b n c (l.flatMap wrL) rfl HONE.out.2 ?c2 HONE.out.1 ?c4 ?c5 ?c6 ?c7)
    case c2 => exact cells_at_wr (HL.out.below (bl_alloc _ _))
    case c4 => have := HNL.out; unfold maxLen; omega
    case c5 => have := HNL.out; omega
    case c6 => simp
    case c7 =>
      intro v1 w2 hown hgrow _ _
      obtain ⟨va, vc, rfl⟩ := row_slice hown
      have HOW : Hid (w2.ownsRow w.heap.size 48 2 (.slice va n vc) n (l.flatMap wrL)) := hown
      have hg2 : Wrote [w.heap.size] (w.alloc (.cells #[] 48)) w2 := by
        have := Wrote.of_grown hgrow
        simpa [Value.ownBlock] using this
      have HGR : Hid (Below w.heap.size w w2) := (((Wrote.refl [w.heap.size] w).alloc _).trans hg2).below (Nat.le_refl _) fun k hk => by simp at hk; omega
      clear hown hgrow hg2
      go_wp2_with fail
      go_ret
      rcases HOW.out with ⟨hl2, ⟨e, h0⟩ | ⟨g, cp, cur, e, hb, hh, h4, h5, h6, h7⟩⟩
      · cases e
        have hz : l = [] := List.length_eq_zero_iff.1 (by have := HN.out; omega)
        exact ⟨HGR.out, .inl ⟨hz, by rw [h0]; rfl⟩⟩
      · cases e
        exact ⟨HGR.out, .inr ⟨g, vc, by rw [HN.out]; rfl, DlWr_row HOW.out HN.out, hb, h5⟩⟩
set_option maxRecDepth 100000 in
set_option maxHeartbeats 1600000 in
theorem del_wr (k : ByteArray) (v : ByteArray) (kb fb : Nat) (a : Option Addr) (c : Nat) (K : List ByteArray) (w : World) (hk : w.cell? ⟨kb, 0, none⟩ = some (.slice a K.length c)) (hf : w.cell? ⟨fb, 0, none⟩ = some (.func (.func 48) #[] #[])) (hK : LiesAt w a 1 strL K) (hl : K.length ≤ 100000) :
    Calls Tryz.prog 86 #[.agg #[.string k, .string v], .pointer (some ⟨kb, 0, none⟩), .pointer (some ⟨fb, 0, none⟩)] w (BoolL w (!hasB K k)) := by
  obtain ⟨W, hW⟩ : ∃ W : World, W = w.alloc (.cells #[.string k, .string v] 48) := ⟨_, rfl⟩
  obtain ⟨q, hq⟩ : ∃ q, q = w.heap.size := ⟨_, rfl⟩
  have hb : Below w.heap.size w W := by rw [hW]; exact bl_alloc _ _
  have hbx : W.heap[q]? = some (.cells #[.string k, .string v] 48 (0, 0)) := by rw [hW, hq]; exact heap_alloc_new w _
  have HW : Hid (w.alloc (.cells #[.string k, .string v] 48) = W ∧ w.heap.size = q) := ⟨hW.symm, hq.symm⟩
  have hkl := World.block_lt_of_cell? w ⟨kb, 0, none⟩ hk
  have hfl := World.block_lt_of_cell? w ⟨fb, 0, none⟩ hf
  have e0 : ∀ X : Later W, X.1.cell? ⟨q, 0, none⟩ = some (.string k) := fun X => by rw [X.cell (lt_of_heap hbx), cell_of_row _ _ _ _ _ _ hbx]; rfl
  have e1 : ∀ X : Later W, X.1.cell? ⟨q, 1, none⟩ = some (.string v) := fun X => by rw [X.cell (lt_of_heap hbx), cell_of_row _ _ _ _ _ _ hbx]; rfl
  have e2 : ∀ X : Later W, X.1.cell? ⟨kb, 0, none⟩ = some (.slice a K.length c) := fun X => by rw [X.cell (Nat.lt_of_lt_of_le hkl hb.size)]; exact (hb.cell (p := ⟨kb, 0, none⟩) hkl).trans hk
  have e3 : ∀ X : Later W, X.1.cell? ⟨fb, 0, none⟩ = some (.func (.func 48) #[] #[]) := fun X => by rw [X.cell (Nat.lt_of_lt_of_le hfl hb.size)]; exact (hb.cell (p := ⟨fb, 0, none⟩) hfl).trans hf
  have HB := Lib.hid hb
  have HK1 : Hid (∀ X : World, Calls Tryz.prog 48 #[.agg #[.string k, .string v]] X (KeyL X k)) := fun X => written_key k v X
  obtain ⟨r, hr⟩ : ∃ r, r = hasB K k := ⟨_, rfl⟩
  have HC : Hid (∀ X : Later W, Calls Tryz.prog 83 #[.slice a K.length c, .string k] X.1 fun e w' => e = .returned (.bool r) ∧ X.1 = w') := fun X => by
    rw [hr]
    exact (contains_str a c K k X.1 ((hK.below hb).below X.2) hl).mono fun e w' h => ⟨h.1, h.2.symm⟩
  rw [← hr]
  generalize K.length = n at *
  clear hW hq hb hbx hkl hfl hk hf hK hl hr
  go_enter Tryz.func86, Tryz.ntmps86
  go_upto_region 1 with fail
  rw [HW.out.1, HW.out.2]
  have here := Later.here W
  refine wp_region_later (by kernel_rfl) (by kernel_rfl) ?_
  iterate 7 (with_reducible refine wpQuiet_step (fun K hK => ?_); go_simp; first | (refine hK _ ?_; clear hK K) | (apply Exists.intro; refine ⟨fun X => ?_, hK _ ?_⟩; (first | (go_at_call 48; with_reducible exact later_call (HK1.out _)) | (go_at_call 83; with_reducible exact later_same (HC.out _))); clear hK K))
  with_reducible refine wpQuiet_nil ?_
  intro X
  go_wp2_with fail
  go_ret
  exact ⟨rfl, bl_trans HB.out X.2⟩
/-- what IndexFunc tells -/
def IxWr (w : World) (K : List ByteArray) (l : List Wr) (e : Ending) (w' : World) : Prop :=
  Below w.heap.size w w' ∧ ((∃ (j : Nat) (x : Wr), e = .returned (.int .i64 j) ∧ l[j]? = some x ∧ hasB K x.key = false ∧ ∀ (i : Nat) y, i < j → l[i]? = some y → hasB K y.key = true) ∨
    (e = .returned (.int .i64 (-1)) ∧ ∀ (i : Nat) y, l[i]? = some y → hasB K y.key = true))
set_option maxRecDepth 100000 in
set_option maxHeartbeats 1600000 in
theorem indexf_wr (kb fb : Nat) (a : Option Addr) (c : Nat) (K : List ByteArray) (l : List Wr) (w : World) (h : LiesAt w a 2 wrL l) (hl : l.length ≤ 100000)
    (HD : ∀ X, Below w.heap.size w X → ∀ x : Wr, Calls Tryz.prog 86 #[.agg #[.string x.key, .string x.val], .pointer (some ⟨kb, 0, none⟩), .pointer (some ⟨fb, 0, none⟩)] X (BoolL X (!hasB K x.key))) :
    Calls Tryz.prog 117 #[.slice a l.length c, .func (.func 86) #[] #[.pointer (some ⟨kb, 0, none⟩), .pointer (some ⟨fb, 0, none⟩)]] w (IxWr w K l) := by
  have HL := Lib.hid h
  have HDD := Lib.hid HD
  obtain ⟨n, hn⟩ : ∃ n, n = l.length := ⟨_, rfl⟩
  have HN := Lib.hid hn
  rw [← hn] at hl ⊢
  have hn9 : (n : Int) ≤ 100000 := by omega
  have P0 : Hid (Below w.heap.size w w ∧ ∀ (i : Nat) y, i < 0 → l[i]? = some y → hasB K y.key = true) := ⟨Below.refl _ _, fun i y hi => by omega⟩
  clear h hn hl HD
  go_enter Tryz.func117, Tryz.ntmps117
  go_wp2_with fail
  go_loopw [8] (fun i W => ∃ j : Nat, j ≤ n ∧ i = .int .i64 j ∧ Hid (Below w.heap.size w W ∧ ∀ (i : Nat) y, i < j → l[i]? = some y → hasB K y.key = true)) (fun i _ => n - (intOf i).toNat)
  case atStart => exact ⟨0, by omega, rfl, P0⟩
  case round =>
    clear P0
    obtain ⟨j, hj, rfl, HJ⟩ := hrel
    by_cases hlt : j < n
    · obtain ⟨⟨xk, xv⟩, hx⟩ : ∃ x, l[j]? = some x := ⟨_, List.getElem?_eq_getElem (by rw [← HN.out]; exact hlt)⟩
      obtain ⟨g, o, rfl, lg, hcl⟩ := (HL.out.below HJ.out.1) j _ hx
      have k0 := hcl 0 _ rfl
      have k1 := hcl 1 _ rfl
      simp only [Nat.add_zero] at k0 k1
      have HX := Lib.hid hx
      have hj0 : (0 : Int) ≤ (j : Int) := by omega
      have hj1 : (j : Int) < (n : Int) := by omega
      have HC := Lib.hid (HDD.out wr HJ.out.1 ⟨xk, xv⟩)
      obtain ⟨r, hr⟩ : ∃ r, r = hasB K xk := ⟨_, rfl⟩
      have HRR := Lib.hid hr
      simp only at HC
      rw [← hr] at HC
      clear hx hcl lg hr
      go_wp2_with fail
      refine HC.out.mono ?_
      rintro e w2 ⟨rfl, hb⟩
      have HB2 := Lib.hid (HJ.out.1.trans (hb.mono HJ.out.1.size))
      clear hb HC
      cases r with
      | true =>
        have HNX : Hid (Below w.heap.size w w2 ∧ ∀ (i : Nat) y, i < j + 1 → l[i]? = some y → hasB K y.key = true) := ⟨HB2.out, fun i y hi hy => by
          rcases Nat.lt_or_ge i j with h | h
          · exact HJ.out.2 i y h hy
          · obtain rfl : i = j := by omega
            rw [HX.out] at hy
            cases hy
            exact HRR.out.symm⟩
        go_wp2_with fail
        exact ⟨⟨j + 1, by omega, by simp, HNX⟩, by simp [intOf]; omega⟩
      | false =>
        go_wp2_with fail
        go_ret
        exact ⟨HB2.out, .inl ⟨j, _, rfl, HX.out, HRR.out.symm, HJ.out.2⟩⟩
    · obtain rfl : j = n := by omega
      go_wp2_with fail
      go_ret
      exact ⟨HJ.out.1, .inr ⟨rfl, fun i y hy => HJ.out.2 i y (by rw [HN.out]; exact (List.getElem?_eq_some_iff.1 hy).1) hy⟩⟩
def pRWr (K : List ByteArray) (x : Wr) : Bool := hasB K x.key
/-- what DeleteFunc leaves -/
def DeWr (w0 : World) (K : List ByteArray) (l : List Wr) (e : Ending) (w' : World) : Prop :=
  ∃ a c, e = .returned (.slice a (l.filter (pRWr K)).length c) ∧ LiesAt w' a 2 wrL (l.filter (pRWr K)) ∧ Below w0.heap.size w0 w'
/-- the round of DeleteFunc -/
structure DrWr (w0 wr : World) (g cap n : Nat) (K : List ByteArray) (l : List Wr) (i j : Nat) : Prop where
  ex : ∃ M, DlWr wr g cap M ∧ M.length = n ∧ M.take i = (l.take j).filter (pRWr K) ∧ M.drop j = l.drop j
  below : Below w0.heap.size w0 wr
theorem DrWr.skip {w0 wr W : World} {g cap n : Nat} {K : List ByteArray} {l : List Wr} {i j : Nat} {x : Wr} (h : DrWr w0 wr g cap n K l i j) (hx : l[j]? = some x) (hp : pRWr K x = false) (hb : Below wr.heap.size wr W) : DrWr w0 W g cap n K l i (j + 1) := by
  obtain ⟨M, h1, h2, h3, h4⟩ := h.ex
  refine ⟨⟨M, h1.below hb, h2, ?_, ?_⟩, h.below.trans (hb.mono h.below.size)⟩
  · rw [h3, List.take_add_one, hx, List.filter_append]
    simp [hp]
  · rw [← List.drop_drop, ← List.drop_drop, h4]
theorem DrWr.put {w0 wr W : World} {g cap n : Nat} {K : List ByteArray} {l : List Wr} {i j : Nat} {x : Wr} (h : DrWr w0 wr g cap n K l i j) (hx : l[j]? = some x) (hp : pRWr K x = true) (hb : Below wr.heap.size wr W) (hij : i < j) (hjn : j < n) (hg : w0.heap.size ≤ g) :
    DrWr w0 ((W.setCell ⟨g, i * 2, none⟩ (.string x.key)).setCell ⟨g, i * 2 + 1, none⟩ (.string x.val)) g cap n K l (i + 1) (j + 1) := by
  obtain ⟨M, h1, h2, h3, h4⟩ := h.ex
  have h5 := (h1.below hb).set (i := i) (by omega) x
  refine ⟨⟨_, h5, by rw [List.length_set]; exact h2, ?_, ?_⟩, ?_⟩
  · rw [List.take_add_one (l := l), hx, List.filter_append, ← h3]
    apply List.ext_getElem?
    intro k
    rw [List.getElem?_take, List.getElem?_set, List.getElem?_append, List.getElem?_take, List.length_take, Nat.min_eq_left (by omega)]
    rcases Nat.lt_trichotomy k i with hk | hk | hk
    · rw [if_pos (by omega), if_neg (by omega), if_pos hk, if_pos hk]
    · subst hk
      rw [if_pos (by omega), if_pos rfl, if_pos (by omega), if_neg (by omega)]
      simp [hp]
    · rw [if_neg (by omega), if_neg (by omega)]
      simp [hp]
      omega
  · have e1 : M.drop (j + 1) = l.drop (j + 1) := by rw [← List.drop_drop, ← List.drop_drop, h4]
    rw [← e1]
    apply List.ext_getElem?
    intro k
    rw [List.getElem?_drop, List.getElem?_drop, List.getElem?_set, if_neg (by omega)]
  · exact (h.below.trans (hb.mono h.below.size)).trans (Wrote.below (S := [g]) (((Wrote.refl _ _).setCell (.inl (by simp)) _).setCell (.inl (by simp)) _) (Nat.le_trans h.below.size hb.size) fun k hk => by simp at hk; omega)
theorem wr_zero (w : World) : (zeroValue 48).run Tryz.prog w = .ok (.agg #[.string ⟨#[]⟩, .string ⟨#[]⟩]) w := by kernel_rfl
set_option maxRecDepth 100000 in
set_option maxHeartbeats 6400000 in
theorem delf_wr (kb fb g cap : Nat) (K : List ByteArray) (l : List Wr) (w0 w : World) (h : DlWr w g cap l) (hb : Below w0.heap.size w0 w) (hg : w0.heap.size ≤ g) (hl : l.length ≤ 100000) (hcap : cap ≤ maxLen)
    (HD : ∀ X, Below w0.heap.size w0 X → ∀ x : Wr, Calls Tryz.prog 86 #[.agg #[.string x.key, .string x.val], .pointer (some ⟨kb, 0, none⟩), .pointer (some ⟨fb, 0, none⟩)] X (BoolL X (!hasB K x.key))) :
    Calls Tryz.prog 84 #[.slice (some ⟨g, 0, none⟩) l.length cap, .func (.func 86) #[] #[.pointer (some ⟨kb, 0, none⟩), .pointer (some ⟨fb, 0, none⟩)]] w (DeWr w0 K l) := by
  have HX := Lib.hid (indexf_wr kb fb (some ⟨g, 0, none⟩) cap K l w h.lies hl (fun X hX x => HD X (hb.trans (hX.mono hb.size)) x))
  have HH : Hid (DlWr w g cap l ∧ Below w0.heap.size w0 w ∧ w0.heap.size ≤ g) := ⟨h, hb, hg⟩
  have HDD := Lib.hid HD
  have hle : l.length ≤ cap := by obtain ⟨_, _, _, h4, _⟩ := h.ex; exact h4
  obtain ⟨n, hn⟩ : ∃ n, n = l.length := ⟨_, rfl⟩
  have HN := Lib.hid hn
  rw [← hn] at hl hle HX ⊢
  have hn9 : (n : Int) ≤ 100000 := by omega
  have hnc : (n : Int) ≤ (cap : Int) := by omega
  unfold maxLen at hcap
  have hc9 : (cap : Int) ≤ 9223372036854775807 := by omega
  clear h hb hg hn HD
  go_enter Tryz.func84, Tryz.ntmps84
  go_wp2_with fail
  refine HX.out.mono ?_
  rintro e w1 ⟨hb1, ⟨j0, x0, rfl, hx0, hp0, hall⟩ | ⟨rfl, hall⟩⟩
  · have hj0 : j0 < n := by rw [HN.out]; exact (List.getElem?_eq_some_iff.1 hx0).1
    have P0 : Hid (DrWr w0 w1 g cap n K l j0 (j0 + 1)) := by
      refine ⟨⟨l, HH.out.1.below hb1, HN.out.symm, ?_, rfl⟩, HH.out.2.1.trans (hb1.mono HH.out.2.1.size)⟩
      rw [List.take_add_one, hx0, List.filter_append]
      have e1 : (l.take j0).filter (pRWr K) = l.take j0 := by
        apply List.filter_eq_self.2
        intro y hy
        obtain ⟨i, hi⟩ := List.getElem?_of_mem hy
        rw [List.getElem?_take] at hi
        split at hi
        · rename_i hlt
          exact hall i y hlt hi
        · cases hi
      rw [e1]
      simp [pRWr, hp0]
    have i1 : ((j0 : Int) == -1) = false := by simp
    have i2 : IntKind.i64.wrap ((j0 : Int) + 1) = (j0 : Int) + 1 := IntWalk.i64_in _ (by omega)
    clear hb1 hx0 hp0 hall HX
    go_wp2_with fail
    go_loopw [5, 6] (fun u v wr => ∃ i j : Nat, i < j ∧ j ≤ n ∧ u = .int .i64 i ∧ v = .int .i64 j ∧ Hid (DrWr w0 wr g cap n K l i j)) (fun _ v _ => n - (intOf v).toNat)
    case atStart => exact ⟨j0, j0 + 1, by omega, by omega, rfl, by simp, P0⟩
    case round =>
      clear P0 i2
      obtain ⟨i, j, hij, hj, rfl, rfl, HJ⟩ := hrel
      by_cases hlt : j < n
      · obtain ⟨M, h1, h2, h3, h4⟩ := HJ.out.ex
        obtain ⟨⟨xk, xv⟩, hx⟩ : ∃ x, l[j]? = some x := ⟨_, List.getElem?_eq_getElem (by rw [← HN.out]; exact hlt)⟩
        have hM : M[j]? = some ⟨xk, xv⟩ := by
          have := congrArg (fun q => q[0]?) h4
          simp only [List.getElem?_drop, Nat.add_zero] at this
          rw [this, hx]
        obtain ⟨k0, k1⟩ := h1.cells hM
        have HXJ := Lib.hid hx
        have HM1 := Lib.hid h1
        have j0' : (0 : Int) ≤ (j : Int) := by omega
        have j1' : (j : Int) < (n : Int) := by omega
        have j2' : (0 : Int) ≤ (i : Int) := by omega
        have j3' : (i : Int) < (n : Int) := by omega
        obtain ⟨W, hW⟩ : ∃ W : World, W = wr.alloc (.cells #[.string xk, .string xv] 48) := ⟨_, rfl⟩
        obtain ⟨bq, hbq⟩ : ∃ bq, bq = wr.heap.size := ⟨_, rfl⟩
        have hb : Below wr.heap.size wr W := by rw [hW]; exact bl_alloc _ _
        have hbx : W.heap[bq]? = some (.cells #[.string xk, .string xv] 48 (0, 0)) := by rw [hW, hbq]; exact heap_alloc_new wr _
        have HW : Hid (wr.alloc (.cells #[.string xk, .string xv] 48) = W ∧ wr.heap.size = bq) := ⟨hW.symm, hbq.symm⟩
        have HBX : Hid (W.heap[bq]? = some (.cells #[.string xk, .string xv] 48 (0, 0)) ∧ Below wr.heap.size wr W) := ⟨hbx, hb⟩
        have e0 : W.cell? ⟨bq, 0, none⟩ = some (.string xk) := by rw [cell_of_row _ _ _ _ _ _ hbx]; rfl
        have e1 : W.cell? ⟨bq, 1, none⟩ = some (.string xv) := by rw [cell_of_row _ _ _ _ _ _ hbx]; rfl
        have HC := HDD.out W (HJ.out.below.trans (hb.mono HJ.out.below.size)) ⟨xk, xv⟩
        simp only at HC
        obtain ⟨r, hr⟩ : ∃ r, r = hasB K xk := ⟨_, rfl⟩
        have HRR := Lib.hid hr
        rw [← hr] at HC
        have HCC := Lib.hid HC
        clear h1 h2 h3 h4 hx hM hW hbq hb hbx hr HC
        go_upto_region 8 with fail
        rw [HW.out.1, HW.out.2]
        clear k0 k1
        go_wp2_with fail
        refine HCC.out.mono ?_
        rintro e w2 ⟨rfl, hb2⟩
        have hbx2 := (hb2.block _ (lt_of_heap HBX.out.1)).trans HBX.out.1
        have c0 : w2.cell? ⟨bq, 0, none⟩ = some (.string xk) := by rw [cell_of_row _ _ _ _ _ _ hbx2]; rfl
        have c1 : w2.cell? ⟨bq, 1, none⟩ = some (.string xv) := by rw [cell_of_row _ _ _ _ _ _ hbx2]; rfl
        have HB2 : Hid (Below wr.heap.size wr w2) := bl_trans HBX.out.2 hb2
        have hf := (HM1.out.below HB2.out).fz
        have hcs : ∀ i', i' < n → (w2.cell? ⟨g, i' * 2, none⟩).isSome = true ∧ (w2.cell? ⟨g, i' * 2 + 1, none⟩).isSome = true := fun i' hi' => by
          obtain ⟨M', m1, m2, _⟩ := HJ.out.ex
          obtain ⟨y, hy⟩ : ∃ y, M'[i']? = some y := ⟨_, List.getElem?_eq_getElem (by omega)⟩
          obtain ⟨a1, a2⟩ := (m1.below HB2.out).cells hy
          rw [a1, a2]
          exact ⟨rfl, rfl⟩
        obtain ⟨y0, y1⟩ := hcs i (by omega)
        obtain ⟨v0, hv0⟩ := Option.isSome_iff_exists.1 y0
        obtain ⟨v1, hv1⟩ := Option.isSome_iff_exists.1 y1
        clear hb2 hbx2 e0 e1 hcs y0 y1 HCC
        cases r with
        | true =>
          have HNX : Hid (DrWr w0 ((w2.setCell ⟨g, i * 2, none⟩ (.string xk)).setCell ⟨g, i * 2 + 1, none⟩ (.string xv)) g cap n K l (i + 1) (j + 1)) := HJ.out.put HXJ.out (show hasB K xk = true from HRR.out.symm) HB2.out hij hlt HH.out.2.2
          go_wp2_with fail
          exact ⟨⟨i + 1, j + 1, by omega, by omega, by simp, by simp, HNX⟩, by simp [intOf]; omega⟩
        | false =>
          have HNX : Hid (DrWr w0 w2 g cap n K l i (j + 1)) := HJ.out.skip HXJ.out (show hasB K xk = false from HRR.out.symm) HB2.out
          go_wp2_with fail
          exact ⟨⟨i, j + 1, by omega, by omega, rfl, by simp, HNX⟩, by simp [intOf]; omega⟩
      · obtain rfl : j = n := by omega
        obtain ⟨M, h1, h2, h3, h4⟩ := HJ.out.ex
        have hfin : M.take i = l.filter (pRWr K) := by rw [h3, List.take_of_length_le (by rw [HN.out]; exact Nat.le_refl _)]
        have hcl := run_clear2 (P := Tryz.prog) wr 23 48
        have hci : ¬ cap = i := by omega
        have q1 : (i : Int) ≤ (j : Int) := by omega
        have q2 : (i : Int) ≤ (cap : Int) := by omega
        have q3 : (0 : Int) ≤ (i : Int) := by omega
        obtain ⟨Z, hZ, hZl⟩ : ∃ Z : List Value, (∀ ty, (Builtin.clear_ #[23] ty #[.slice (some ⟨g, i * 2, none⟩) (j - i) (cap - i)]).run Tryz.prog wr = .ok (.tuple #[]) (wr.setCells g (i * 2) Z)) ∧ Z.length = (j - i) * 2 := by
          have hcell : ∀ k, k < (j - i) * 2 → (wr.cell? ⟨g, i * 2 + k, none⟩).isSome = true := fun k hk => by
            obtain ⟨y, hy⟩ : ∃ y, M[i + k / 2]? = some y := ⟨_, List.getElem?_eq_getElem (by omega)⟩
            obtain ⟨a1, a2⟩ := h1.cells hy
            rcases Nat.mod_two_eq_zero_or_one k with hm | hm
            · rw [show i * 2 + k = (i + k / 2) * 2 by omega, a1]; rfl
            · rw [show i * 2 + k = (i + k / 2) * 2 + 1 by omega, a2]; rfl
          have hh := fun ty => run_clear2 (P := Tryz.prog) wr 23 48 ty (.agg #[.string ⟨#[]⟩, .string ⟨#[]⟩]) (.string ⟨#[]⟩) (.string ⟨#[]⟩) Tryz.underlying23 wr_zero rfl rfl rfl g (i * 2) (j - i) (cap - i) (by omega) hcell (fun k _ => h1.fz _)
          exact ⟨_, fun ty => (hh ty).1, (hh 0).2⟩
        have HFIN : Hid (LiesAt (wr.setCells g (i * 2) Z) (some ⟨g, 0, none⟩) 2 wrL (l.filter (pRWr K)) ∧ i = (l.filter (pRWr K)).length ∧ Below w0.heap.size w0 (wr.setCells g (i * 2) Z)) := by
          refine ⟨?_, ?_, Go.below_setCells HH.out.2.2 Z (i * 2) wr HJ.out.below⟩
          · rw [← hfin]
            intro k x hk
            have hki : k < i := by
              have := (List.getElem?_eq_some_iff.1 hk).1
              rw [List.length_take] at this
              omega
            rw [List.getElem?_take, if_pos hki] at hk
            obtain ⟨g', o', e, hg', hc'⟩ := h1.lies k x hk
            cases e
            refine ⟨g, 0, rfl, Nat.lt_of_lt_of_le hg' (Go.below_setCells (Nat.zero_le g) Z (i * 2) wr (Below.refl 0 wr)).size, fun jj v hv => ?_⟩
            have hjj : jj < 2 := by have := (List.getElem?_eq_some_iff.1 hv).1; rw [wr_len] at this; exact this
            rw [World.cell?_setCells_out g Z (i * 2) wr _ (fun _ _ => .inl (by show 0 + k * 2 + jj < i * 2; omega))]
            exact hc' jj v hv
          · rw [← hfin, List.length_take]
            omega
        clear h1 h2 h3 h4 hfin hZl hcl HJ
        go_wp2_with fail
        go_ret
        exact ⟨some ⟨g, 0, none⟩, cap, by rw [← HFIN.out.2.1]; rfl, HFIN.out.1, HFIN.out.2.2⟩
  · have HE : Hid (l.filter (pRWr K) = l) := by
      show _ = _
      apply List.filter_eq_self.2
      intro y hy
      obtain ⟨i, hi⟩ := List.getElem?_of_mem hy
      exact hall i y hi
    have HB1 := Lib.hid hb1
    clear hall hb1 HX
    go_wp2_with fail
    go_ret
    exact ⟨some ⟨g, 0, none⟩, cap, by rw [HE.out, ← HN.out]; rfl, by rw [HE.out]; exact (HH.out.1.below HB1.out).lies, HH.out.2.1.trans (HB1.out.mono HH.out.2.1.size)⟩
set_option maxRecDepth 100000 in
set_option maxHeartbeats 1600000 in
theorem delf_nil_wr (kb fb : Nat) (K : List ByteArray) (w0 w : World) (hb : Below w0.heap.size w0 w)
    (HD : ∀ X, Below w0.heap.size w0 X → ∀ x : Wr, Calls Tryz.prog 86 #[.agg #[.string x.key, .string x.val], .pointer (some ⟨kb, 0, none⟩), .pointer (some ⟨fb, 0, none⟩)] X (BoolL X (!hasB K x.key))) :
    Calls Tryz.prog 84 #[.slice none 0 0, .func (.func 86) #[] #[.pointer (some ⟨kb, 0, none⟩), .pointer (some ⟨fb, 0, none⟩)]] w (DeWr w0 K []) := by
  have HX := Lib.hid (indexf_wr kb fb none 0 K [] w (LiesAt.nil _ _ _ _) (by simp) (fun X hX x => HD X (hb.trans (hX.mono hb.size)) x))
  have HB := Lib.hid hb
  clear hb HD
  simp only [List.length_nil] at HX
  go_enter Tryz.func84, Tryz.ntmps84
  go_wp2_with fail
  refine HX.out.mono ?_
  rintro e w1 ⟨hb1, ⟨j0, x0, rfl, hx0, hp0, hall⟩ | ⟨rfl, hall⟩⟩
  · simp at hx0
  · have HB1 := Lib.hid hb1
    clear hall hb1 HX
    go_wp2_with fail
    go_ret
    exact ⟨none, 0, rfl, LiesAt.nil _ _ _ _, HB.out.trans (HB1.out.mono HB.out.size)⟩
/-- what own leaves -/
def OwWr (w : World) (K : List ByteArray) (l : List Wr) (e : Ending) (w' : World) : Prop :=
  ∃ a c, e = .returned (.slice a (l.filter (pRWr K)).length c) ∧ LiesAt w' a 2 wrL (l.filter (pRWr K)) ∧ Below w.heap.size w w'
set_option maxRecDepth 100000 in
set_option maxHeartbeats 1600000 in
theorem own_wr (a : Option Addr) (c : Nat) (l : List Wr) (ka : Option Addr) (kc : Nat) (K : List ByteArray) (w : World) (h : LiesAt w a 2 wrL l) (hl : l.length ≤ 100000) (hnil : a = none → c = 0) (hK : LiesAt w ka 1 strL K) (hk9 : K.length ≤ 100000) :
    Calls Tryz.prog 47 #[.slice a l.length c, .func (.func 48) #[] #[], .slice ka K.length kc] w (OwWr w K l) := by
  obtain ⟨W, hW⟩ : ∃ W : World, W = (w.alloc (.cells #[.func (.func 48) #[] #[]] 98)).alloc (.cells #[.slice ka K.length kc] 43) := ⟨_, rfl⟩
  obtain ⟨fb, hfb⟩ : ∃ p, p = w.heap.size := ⟨_, rfl⟩
  have hb : Below w.heap.size w W := by rw [hW]; exact ((Below.refl _ _).alloc (Nat.le_refl _) _).alloc (by simp) _
  have hp1 : W.heap[fb]? = some (.cells #[.func (.func 48) #[] #[]] 98 (0, 0)) := by
    rw [hW, hfb, heap_alloc_old _ _ (by simp)]
    exact heap_alloc_new w _
  have hp2 : W.heap[fb + 1]? = some (.cells #[.slice ka K.length kc] 43 (0, 0)) := by
    have := heap_alloc_new (w.alloc (.cells #[.func (.func 48) #[] #[]] 98)) (.cells #[.slice ka K.length kc] 43)
    rw [hW, hfb]
    simpa using this
  have HD : Hid (∀ X, Below W.heap.size W X → ∀ x : Wr, Calls Tryz.prog 86 #[.agg #[.string x.key, .string x.val], .pointer (some ⟨fb + 1, 0, none⟩), .pointer (some ⟨fb, 0, none⟩)] X (BoolL X (!hasB K x.key))) := fun X hX x =>
    del_wr x.key x.val (fb + 1) fb ka kc K X (by rw [cell_of_row _ _ _ _ _ _ ((hX.block _ (lt_of_heap hp2)).trans hp2)]; rfl) (by rw [cell_of_row _ _ _ _ _ _ ((hX.block _ (lt_of_heap hp1)).trans hp1)]; rfl) ((hK.below hb).below hX) hk9
  have HW : Hid ((w.alloc (.cells #[.func (.func 48) #[] #[]] 98)).alloc (.cells #[.slice ka K.length kc] 43) = W ∧ w.heap.size = fb) := ⟨hW.symm, hfb.symm⟩
  have HC := Lib.hid (clone_wr a c l W (h.below hb) hl hnil)
  have HB := Lib.hid hb
  have HLL : Hid (l.length ≤ 100000) := hl
  obtain ⟨n, hn⟩ : ∃ n, n = l.length := ⟨_, rfl⟩
  have HN := Lib.hid hn
  rw [← hn] at HC ⊢
  generalize K.length = kn at *
  clear h hl hnil hK hk9 hW hfb hb hp1 hp2 hn
  go_enter Tryz.func47, Tryz.ntmps47
  go_upto_region 1 with fail
  rw [HW.out.1, HW.out.2]
  go_wp2_with fail
  refine HC.out.mono ?_
  rintro e w1 ⟨hb1, ⟨hz, rfl⟩ | ⟨g, cap, rfl, hdl, hg, hcap⟩⟩
  · subst hz
    have HDN := Lib.hid (delf_nil_wr (fb + 1) fb K W w1 hb1 HD.out)
    clear hb1 HC
    go_wp2_with fail
    refine HDN.out.mono ?_
    rintro e w2 ⟨a2, c2, rfl, hl2, hb2⟩
    have HF := Lib.hid (And.intro hl2 hb2)
    clear hl2 hb2
    go_wp2_with fail
    go_ret
    exact ⟨a2, c2, rfl, HF.out.1, bl_trans HB.out HF.out.2⟩
  · have HDN := delf_wr (fb + 1) fb g cap K l W w1 hdl hb1 hg HLL.out hcap HD.out
    rw [← HN.out] at HDN ⊢
    have HDD := Lib.hid HDN
    clear hb1 HC hdl hg hcap HDN
    go_wp2_with fail
    refine HDD.out.mono ?_
    rintro e w2 ⟨a2, c2, rfl, hl2, hb2⟩
    have HF := Lib.hid (And.intro hl2 hb2)
    obtain ⟨fn, hfn⟩ : ∃ fn, fn = (l.filter (pRWr K)).length := ⟨_, rfl⟩
    have HFN := Lib.hid hfn
    rw [← hfn]
    clear hl2 hb2 hfn
    go_wp2_with fail
    go_ret
    exact ⟨a2, c2, by rw [HFN.out]; rfl, HF.out.1, bl_trans HB.out HF.out.2⟩
end Go.Proofs.YtaifmfnmgnmgbaaGreatDoor.Txn
