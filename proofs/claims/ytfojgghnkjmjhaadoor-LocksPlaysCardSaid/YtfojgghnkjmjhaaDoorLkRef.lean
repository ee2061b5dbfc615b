/- Locks: the document's, in memory: Holder, Keys, Any, Unlock. -/
import Derived.Test.YtfojgghnkjmjhaaDoorLkSt
import Derived.Test.YtfojgghnkjmjhaaDoorLkDoc
import Derived.BigRegion
namespace Go.Proofs.YtfojgghnkjmjhaaDoor.Locks
open Go.RowKit Go.My

def hdL (p : ByteArray × Int) : List Value := [.string p.1, .int .i64 p.2]
theorem hdL_len (p : ByteArray × Int) : (hdL p).length = 2 := rfl
theorem hd_one (p : ByteArray × Int) : ∀ u ∈ hdL p, u.oneCell' = true := by
  intro u hu
  simp only [hdL, List.mem_cons, List.not_mem_nil, or_false] at hu
  rcases hu with rfl | rfl <;> rfl
theorem hd_cells (w : World) (p : ByteArray × Int) (t : TypeId) (j : Nat) (u : Value) (h : (hdL p)[j]? = some u) : (w.alloc (.cells #[.string p.1, .int .i64 p.2] t)).cell? ((⟨w.heap.size, 0, none⟩ : Addr).add j) = some u := by
  rw [Addr.add_lit, Nat.zero_add, cell_of_row _ _ _ _ _ _ (heap_alloc_new w _)]
  simpa [hdL] using h
theorem hd_info : (Tryd.prog.info? 61).map (fun i => (i.zero, i.size, i.bytes)) = some (some (.agg #[.string ⟨#[]⟩, .int .i64 0]), 2, 24) := by kernel_rfl
structure DkAt (w : World) (base d : Nat) (v : Value) (M : LMap) : Prop where
  blk : w.heap[d]? = some (.cells #[v] 29 (0, 0))
  row : w.ownsRow base 61 2 v M.length (M.flatMap hdL)
  bd : base ≤ d
section
variable {w w' : World} {base d : Nat} {v : Value} {M : LMap}
theorem DkAt.c0 (h : DkAt w base d v M) : w.cell? ⟨d, 0, none⟩ = some v := by rw [cell_of_row _ _ _ _ _ _ h.blk]; rfl
theorem DkAt.ne (h : DkAt w base d v M) : ∀ g, v.ownBlock = some g → g ≠ d := fun g hg e => by
  subst e
  obtain ⟨_, cur, hc⟩ := row_block h.row hg
  rw [h.blk] at hc
  cases hc
theorem DkAt.below (h : DkAt w base d v M) (hb : Below w.heap.size w w') : DkAt w' base d v M :=
  ⟨(hb.block _ (lt_of_heap h.blk)).trans h.blk, row_below h.row hb, h.bd⟩
theorem DkAt.drewN (h : DkAt w base d v M) (n : Nat) : DkAt (w.drewN n) base d v M := ⟨h.blk, h.row, h.bd⟩
theorem DkAt.other {S : List Nat} (h : DkAt w base d v M) (hw : Wrote S w w') (hd : d ∉ S) (hv : ∀ g, v.ownBlock = some g → g ∉ S) : DkAt w' base d v M :=
  ⟨hw.heap h.blk hd, row_wrote h.row hw hv, h.bd⟩
theorem DkAt.lies (h : DkAt w base d v M) : ∃ a cap, v = .slice a M.length cap ∧ LiesAt w a 2 hdL M := by
  obtain ⟨a, cap, hv⟩ := row_slice h.row
  subst hv
  exact ⟨a, cap, rfl, row_liesAt h.row hdL_len rfl⟩
theorem hd_at {a : Option Addr} (h : LiesAt w a 2 hdL M) {j : Nat} {x : ByteArray × Int} (hx : M[j]? = some x) : ∃ g o, a = some ⟨g, o, none⟩ ∧ g < w.heap.size ∧ w.cell? ⟨g, o + j * 2, none⟩ = some (.string x.1) ∧ w.cell? ⟨g, o + j * 2 + 1, none⟩ = some (.int .i64 x.2) := by
  obtain ⟨g, o, h1, h2, h3⟩ := h j x hx
  exact ⟨g, o, h1, h2, h3 0 _ rfl, h3 1 _ rfl⟩
end

theorem aget_take {M : LMap} {j : Nat} {x : ByteArray × Int} {k : ByteArray} (hx : M[j]? = some x) (h : aget (M.take j) k = none) : aget (M.take (j + 1)) k = if x.1 = k then some x.2 else none := by
  rw [List.take_add_one, hx]
  simp only [Option.toList_some]
  have e : ∀ (l : LMap), aget l k = none → aget (l ++ [x]) k = if x.1 = k then some x.2 else none := by
    intro l
    induction l with
    | nil => intro _; rw [List.nil_append, aget_cons, aget_nil]
    | cons p r ih =>
      intro h
      rw [aget_cons] at h
      split at h
      · cases h
      · rename_i hne
        rw [List.cons_append, aget_cons, if_neg hne, ih h]
  exact e _ h
theorem aget_first {M : LMap} {j : Nat} {x : ByteArray × Int} {k : ByteArray} (hx : M[j]? = some x) (h : aget (M.take j) k = none) (hk : x.1 = k) : aget M k = some x.2 := by
  have h1 := aget_take hx h
  rw [if_pos hk] at h1
  rw [← List.take_append_drop (j + 1) M]
  have e : ∀ (l r : LMap) (v : Int), aget l k = some v → aget (l ++ r) k = some v := by
    intro l r v
    induction l with
    | nil => intro h; simp [aget_nil] at h
    | cons p q ih =>
      intro h
      rw [List.cons_append, aget_cons]
      rw [aget_cons] at h
      split
      · rename_i hp; rw [if_pos hp] at h; exact h
      · rename_i hp; rw [if_neg hp] at h; exact ih h
  exact e _ _ _ h1
set_option maxRecDepth 100000 in
set_option maxHeartbeats 1600000 in
theorem rholder_any (base d : Nat) (v : Value) (M : LMap) (k : ByteArray) (w : World) (h : DkAt w base d v M) (hl : M.length ≤ 10000) :
    Calls Tryd.prog 21 #[.pointer (some ⟨d, 0, none⟩), .string k] w fun e w' => e = .returned (.tuple #[.int .i64 (heldI M k), .bool (heldB M k)]) ∧ w = w' := by
  have c0 := h.c0
  obtain ⟨a, cap, rfl, hlies⟩ := h.lies
  have HL := Lib.hid hlies
  obtain ⟨n, hn⟩ : ∃ n, n = M.length := ⟨_, rfl⟩
  have HN := Lib.hid hn
  have hn9 : (n : Int) ≤ 10000 := by omega
  rw [← hn] at c0
  have P0 : Hid (aget (M.take 0) k = none) := rfl
  clear h hl hn hlies
  go_enter Tryd.func21, Tryd.ntmps21
  go_wp2_with fail
  go_loop [6] (fun i => ∃ j : Nat, j ≤ n ∧ i = .int .i64 j ∧ Hid (aget (M.take j) k = none)) (fun i => n - (intOf i).toNat)
  case atStart => exact ⟨0, by omega, rfl, P0⟩
  case round =>
    clear P0
    obtain ⟨j, hj, rfl, HA⟩ := hrel
    by_cases hlt : j < n
    · obtain ⟨x, hx⟩ : ∃ x, M[j]? = some x := ⟨_, List.getElem?_eq_getElem (by rw [← HN.out]; exact hlt)⟩
      obtain ⟨g, o, rfl, lg, d0, d1⟩ := hd_at HL.out hx
      have hj0 : (0 : Int) ≤ (j : Int) := by omega
      have hj1 : (j : Int) < (n : Int) := by omega
      have HX := Lib.hid hx
      clear hx lg
      by_cases h1 : x.1 = k
      · have HE := Lib.hid (aget_first HX.out HA.out h1)
        have ht : (x.1.toList == k.toList) = true := by rw [h1]; simp
        clear h1
        go_wp2_with fail
        go_ret2
        refine ⟨?_, rfl⟩
        unfold heldI heldB
        rw [HE.out]
        rfl
      · have ht : (x.1.toList == k.toList) = false := key_ne h1
        have HNX : Hid (aget (M.take (j + 1)) k = none) := by show _ = _; rw [aget_take HX.out HA.out, if_neg h1]
        clear h1
        go_wp2_with fail
        exact ⟨⟨j + 1, by omega, by simp, HNX⟩, by simp [intOf]; omega⟩
    · have HE : Hid (aget M k = none) := by
        have h1 := HA.out
        rw [List.take_of_length_le (by have := HN.out; omega)] at h1
        exact h1
      go_wp2_with fail
      go_ret2
      refine ⟨?_, rfl⟩
      unfold heldI heldB
      rw [HE.out]
      rfl

theorem selK_take {M : LMap} {j : Nat} {x : ByteArray × Int} (hx : M[j]? = some x) (who : Int) : selK (M.take (j + 1)) who = if x.2 = who then selK (M.take j) who ++ [x.1] else selK (M.take j) who := by
  rw [List.take_add_one, hx]
  obtain ⟨k, c⟩ := x
  simp only [Option.toList_some]
  split
  · rename_i h
    subst h
    exact selK_yes
  · rename_i h
    exact selK_no h
def DkKeys (w : World) (M : LMap) (who : Int) (e : Ending) (w' : World) : Prop :=
  ∃ a cap, e = .returned (.slice a (selK M who).length cap) ∧ StrsAt w' a (selK M who) ∧ Below w.heap.size w w'
structure DkRel (w : World) (M : LMap) (who : Int) (j : Nat) (v : Value) (wr : World) : Prop where
  row : wr.ownsRow w.heap.size 9 1 v (selK (M.take j) who).length ((selK (M.take j) who).map Value.string)
  below : Below w.heap.size w wr
set_option maxRecDepth 100000 in
set_option maxHeartbeats 1600000 in
theorem rkeys_any (base d : Nat) (v : Value) (M : LMap) (who : Int) (w : World) (h : DkAt w base d v M) (hl : M.length ≤ 10000) :
    Calls Tryd.prog 17 #[.pointer (some ⟨d, 0, none⟩), .int .i64 who] w (DkKeys w M who) := by
  obtain ⟨i0, hi0, hz0, hz1, hz2⟩ := info_parts str_info
  have HI := Lib.hid hi0
  have HZ := Lib.hid hz0
  have HS := Lib.hid hz1
  have HY := Lib.hid hz2
  obtain ⟨a, cap, rfl, hlies⟩ := h.lies
  have H := Lib.hid h
  have HL := Lib.hid hlies
  obtain ⟨n, hn⟩ : ∃ n, n = M.length := ⟨_, rfl⟩
  have HN := Lib.hid hn
  have hn9 : (n : Int) ≤ 10000 := by omega
  have HC : Hid (∀ W, Below w.heap.size w W → W.cell? ⟨d, 0, none⟩ = some (.slice a n cap)) := fun W hW => by rw [hn]; exact (h.below hW).c0
  have P0 : Hid (DkRel w M who 0 (.slice none 0 0) w) := ⟨by rw [List.take_zero]; exact World.ownsRow_nil _ _ _ _, Below.refl _ _⟩
  have c0 := HC.out _ (Below.refl _ _)
  clear h hl hn hlies hi0 hz0 hz1 hz2
  go_enter Tryd.func17, Tryd.ntmps17
  go_wp2_with fail
  go_loopw [5, 6] (fun v i wr => ∃ j : Nat, j ≤ n ∧ i = .int .i64 j ∧ Hid (DkRel w M who j v wr)) (fun _ i _ => n - (intOf i).toNat)
  case atStart => exact ⟨0, by omega, rfl, P0⟩
  case round =>
    clear P0 c0
    obtain ⟨j, hj, rfl, HR⟩ := hrel
    have c0 := HC.out _ HR.out.below
    by_cases hlt : j < n
    · obtain ⟨x, hx⟩ : ∃ x, M[j]? = some x := ⟨_, List.getElem?_eq_getElem (by rw [← HN.out]; exact hlt)⟩
      obtain ⟨g, o, rfl, lg, d0, d1⟩ := hd_at (LiesAt.below HL.out HR.out.below) hx
      have hj0 : (0 : Int) ≤ (j : Int) := by omega
      have hj1 : (j : Int) < (n : Int) := by omega
      have HLEN : Hid ((selK (M.take j) who).length ≤ j) := by
        show _ ≤ _
        have := selK_len (M.take j) who
        rw [List.length_take] at this
        omega
      have HX := Lib.hid hx
      clear hx lg
      by_cases h1 : x.2 = who
      · have ht : (x.2 == who) = true := by simpa using h1
        have HNE : Hid (selK (M.take (j + 1)) who = selK (M.take j) who ++ [x.1]) := by show _ = _; rw [selK_take HX.out, if_pos h1]
        have HROW := Lib.hid HR.out.row
        clear h1
        go_wp2_with (at_builtin; refine wpList_append_own _ rfl _ _ 31 rfl w.heap.size 9 i0 (.string ⟨#[]⟩) 1 16 Tryd.underlying31 HI.out HZ.out HS.out HY.out rfl (by decide) _ _ _ rfl (HROW.out.alloc _) ⟨wr.heap.size, 0, none⟩ 1 1 [.string x.1] rfl rfl ?c1 ?c2 ?c3 ?c4 ?c5 ?_)
        case c1 => exact cell_one_new _ _ _
        case c2 => simp [Value.oneCell']
        case c3 => have := HLEN.out; unfold maxLen; omega
        case c4 => have := HLEN.out; omega
        case c5 => have := HR.out.below.size; simp; omega
        intro v1 w3 hown1 hgrow1 _
        have HNX : Hid (DkRel w M who (j + 1) v1 w3) := by
          refine ⟨by rw [HNE.out, List.length_append, List.map_append]; exact hown1, ?_⟩
          exact HR.out.below.trans ((((Wrote.refl _ wr).alloc _).trans (Wrote.of_grown hgrow1)).below HR.out.below.size fun g hg => (row_block HR.out.row (by simpa using hg)).1)
        clear hown1 hgrow1 c0
        go_wp2_with fail
        go_roundw
        case rel => exact ⟨j + 1, by omega, by go_num, HNX⟩
        case measure => simp [intOf]; omega
      · have ht : (x.2 == who) = false := by simpa using h1
        have HNX : Hid (DkRel w M who (j + 1) u5 wr) := ⟨by rw [selK_take HX.out, if_neg h1]; exact HR.out.row, HR.out.below⟩
        clear h1
        go_wp2_with fail
        go_roundw
        case rel => exact ⟨j + 1, by omega, by go_num, HNX⟩
        case measure => simp [intOf]; omega
    · obtain rfl : n = j := by omega
      have HE : Hid (DkKeys w M who (.returned u5) wr) := by
        have hr := HR.out.row
        rw [List.take_of_length_le (by have := HN.out; omega)] at hr
        obtain ⟨ra, rc, rfl⟩ := row_slice hr
        exact ⟨ra, rc, rfl, row_liesAt (base := w.heap.size) (e := 9) (cap := rc) (by rw [show (selK M who).flatMap strL = (selK M who).map Value.string from flat_one _ _]; exact hr) (fun _ => rfl) rfl, HR.out.below⟩
      go_wp2_with fail
      go_ret
      exact HE.out

/-! ### Any -/
set_option maxRecDepth 100000 in
theorem in_any (k fr tk : ByteArray) (w : World) : Calls Tryd.prog 27 #[.string k, .string fr, .string tk] w fun e w' => e = .returned (.bool (inR fr tk k)) ∧ w = w' := by
  have HI : Hid (inR fr tk k = (!Op.bytesLess k.toList fr.toList && (decide (tk.size = 0) || Op.bytesLess k.toList tk.toList))) := rfl
  cases h1 : Op.bytesLess k.toList fr.toList with
  | true =>
    have HV : Hid (inR fr tk k = false) := by show _ = _; rw [HI.out, h1]; rfl
    go_enter Tryd.func27, Tryd.ntmps27
    go_wp2_with fail
    go_ret
    exact ⟨by rw [HV.out]; rfl, rfl⟩
  | false =>
    by_cases h0 : tk.size = 0
    · have HV : Hid (inR fr tk k = true) := by show _ = _; rw [HI.out, h1]; simp [h0]
      have e4 : (tk.toList == []) = true := by rw [size_empty h0, Lib.toList_data]; rfl
      have e5 : tk.toList.isEmpty = true := by rw [size_empty h0, Lib.toList_data]; rfl
      clear h0
      go_enter Tryd.func27, Tryd.ntmps27
      go_wp2_with fail
      go_ret
      exact ⟨by rw [HV.out]; rfl, rfl⟩
    · have e4 := empty_ne h0
      have e5 : tk.toList.isEmpty = false := by rw [List.isEmpty_eq_false_iff]; intro e; rw [e] at e4; cases e4
      cases h2 : Op.bytesLess k.toList tk.toList with
      | true =>
        have HV : Hid (inR fr tk k = true) := by show _ = _; rw [HI.out, h1, h2]; simp
        clear h0
        go_enter Tryd.func27, Tryd.ntmps27
        go_wp2_with fail
        go_ret
        exact ⟨by rw [HV.out]; rfl, rfl⟩
      | false =>
        have HV : Hid (inR fr tk k = false) := by show _ = _; rw [HI.out, h1, h2]; simp [h0]
        clear h0
        go_enter Tryd.func27, Tryd.ntmps27
        go_wp2_with fail
        go_ret
        exact ⟨by rw [HV.out]; rfl, rfl⟩
theorem anyK_take {M : LMap} {j : Nat} {x : ByteArray × Int} (hx : M[j]? = some x) (fr tk : ByteArray) : anyK (M.take (j + 1)) fr tk = (anyK (M.take j) fr tk || inR fr tk x.1) := by
  rw [List.take_add_one, hx]
  obtain ⟨k, c⟩ := x
  exact anyK_snoc _ fr tk k c
theorem anyK_mem {M : LMap} {x : ByteArray × Int} (hx : x ∈ M) {fr tk : ByteArray} (h : inR fr tk x.1 = true) : anyK M fr tk = true := by
  unfold anyK; rw [List.any_eq_true]; exact ⟨x, hx, h⟩
set_option maxRecDepth 100000 in
set_option maxHeartbeats 1600000 in
theorem rany_any (base d : Nat) (v : Value) (M : LMap) (fr tk : ByteArray) (w : World) (h : DkAt w base d v M) (hl : M.length ≤ 10000) :
    Calls Tryd.prog 15 #[.pointer (some ⟨d, 0, none⟩), .string fr, .string tk] w fun e w' => e = .returned (.bool (anyK M fr tk)) ∧ w = w' := by
  have c0 := h.c0
  obtain ⟨a, cap, rfl, hlies⟩ := h.lies
  have HL := Lib.hid hlies
  obtain ⟨n, hn⟩ : ∃ n, n = M.length := ⟨_, rfl⟩
  have HN := Lib.hid hn
  have hn9 : (n : Int) ≤ 10000 := by omega
  rw [← hn] at c0
  have P0 : Hid (anyK (M.take 0) fr tk = false) := rfl
  clear h hl hn hlies
  go_enter Tryd.func15, Tryd.ntmps15
  go_wp2_with fail
  go_loop [7] (fun i => ∃ j : Nat, j ≤ n ∧ i = .int .i64 j ∧ Hid (anyK (M.take j) fr tk = false)) (fun i => n - (intOf i).toNat)
  case atStart => exact ⟨0, by omega, rfl, P0⟩
  case round =>
    clear P0
    obtain ⟨j, hj, rfl, HA⟩ := hrel
    by_cases hlt : j < n
    · obtain ⟨x, hx⟩ : ∃ x, M[j]? = some x := ⟨_, List.getElem?_eq_getElem (by rw [← HN.out]; exact hlt)⟩
      obtain ⟨g, o, rfl, lg, d0, d1⟩ := hd_at HL.out hx
      have hj0 : (0 : Int) ≤ (j : Int) := by omega
      have hj1 : (j : Int) < (n : Int) := by omega
      have HX := Lib.hid hx
      have HC := Lib.hid (in_any x.1 fr tk w)
      clear hx lg
      cases h1 : inR fr tk x.1 with
      | true =>
        have HE := Lib.hid (anyK_mem (List.mem_of_getElem? HX.out) h1)
        rw [h1] at HC
        clear h1
        go_wp2_with fail
        refine HC.out.mono ?_
        rintro e w' ⟨rfl, rfl⟩
        go_wp2_with fail
        go_ret
        exact ⟨by rw [HE.out]; rfl, rfl⟩
      | false =>
        have HNX : Hid (anyK (M.take (j + 1)) fr tk = false) := by show _ = _; rw [anyK_take HX.out, HA.out, h1]; rfl
        rw [h1] at HC
        clear h1
        go_wp2_with fail
        refine HC.out.mono ?_
        rintro e w' ⟨rfl, rfl⟩
        go_wp2_with fail
        exact ⟨⟨j + 1, by omega, by simp, HNX⟩, by simp [intOf]; omega⟩
    · have HE : Hid (anyK M fr tk = false) := by
        have h1 := HA.out
        rw [List.take_of_length_le (by have := HN.out; omega)] at h1
        exact h1
      go_wp2_with fail
      go_ret
      exact ⟨by rw [HE.out]; rfl, rfl⟩

/-! ### Unlock -/
theorem unl_take {M : LMap} {j : Nat} {x : ByteArray × Int} (hx : M[j]? = some x) (who : Int) : unlockL (M.take (j + 1)) who = if x.2 = who then unlockL (M.take j) who else unlockL (M.take j) who ++ [x] := by
  rw [List.take_add_one, hx]
  unfold unlockL
  rw [List.filter_append]
  simp only [Option.toList_some]
  by_cases h : x.2 = who
  · simp [h]
  · simp [h]
def DkUn (w : World) (base d : Nat) (M' : LMap) (e : Ending) (w' : World) : Prop := e = .returned (.tuple #[]) ∧ (∃ v', DkAt w' base d v' M') ∧ Wrote [d] w w'
structure DuRel (w : World) (M : LMap) (who : Int) (j : Nat) (v : Value) (wr : World) : Prop where
  row : wr.ownsRow w.heap.size 61 2 v (unlockL (M.take j) who).length ((unlockL (M.take j) who).flatMap hdL)
  below : Below w.heap.size w wr
theorem row_weak {w : World} {base base' : Nat} {e : TypeId} {c : Nat} {v : Value} {n : Nat} {xs : List Value} (h : w.ownsRow base e c v n xs) (hb : base' ≤ base) : w.ownsRow base' e c v n xs := by
  refine ⟨h.1, ?_⟩
  rcases h.2 with h0 | ⟨g, cap, cur, rfl, h1, h2⟩
  · exact .inl h0
  · exact .inr ⟨g, cap, cur, rfl, Nat.le_trans hb h1, h2⟩
theorem dk_store {w wr : World} {base d : Nat} {v v' : Value} {M M' : LMap} (h : DkAt w base d v M) (hb : Below w.heap.size w wr) (hbase : base ≤ w.heap.size) (hrow : wr.ownsRow w.heap.size 61 2 v' M'.length (M'.flatMap hdL)) :
    DkAt (wr.setCell ⟨d, 0, none⟩ v') base d v' M' ∧ Wrote [d] w (wr.setCell ⟨d, 0, none⟩ v') := by
  have hd := (h.below hb).blk
  refine ⟨⟨heap_setCell_same _ d 0 _ _ _ hd, row_weak ?_ hbase, h.bd⟩, (Wrote.of_below hb).setCell (p := ⟨d, 0, none⟩) (.inl (List.mem_singleton.2 rfl)) _⟩
  refine row_wrote hrow ((Wrote.refl [d] wr).setCell (.inl (List.mem_singleton.2 rfl)) _) fun g hg hm => ?_
  obtain rfl : g = d := by simpa using hm
  have := (row_block hrow hg).1
  have := lt_of_heap h.blk
  omega
set_option maxRecDepth 100000 in
set_option maxHeartbeats 1600000 in
theorem runlock_any (base d : Nat) (v : Value) (M : LMap) (who : Int) (w : World) (h : DkAt w base d v M) (hl : M.length ≤ 10000) (hbase : base ≤ w.heap.size) :
    Calls Tryd.prog 13 #[.pointer (some ⟨d, 0, none⟩), .int .i64 who] w (DkUn w base d (unlockL M who)) := by
  obtain ⟨i0, hi0, hz0, hz1, hz2⟩ := info_parts hd_info
  have HI := Lib.hid hi0
  have HZ := Lib.hid hz0
  have HS := Lib.hid hz1
  have HY := Lib.hid hz2
  obtain ⟨a, cap, rfl, hlies⟩ := h.lies
  have H := Lib.hid h
  have HL := Lib.hid hlies
  obtain ⟨n, hn⟩ : ∃ n, n = M.length := ⟨_, rfl⟩
  have HN := Lib.hid hn
  have hn9 : (n : Int) ≤ 10000 := by omega
  have HC : Hid (∀ W, Below w.heap.size w W → W.cell? ⟨d, 0, none⟩ = some (.slice a n cap)) := fun W hW => by rw [hn]; exact (h.below hW).c0
  have HF : Hid (∀ W, Below w.heap.size w W → W.frozen? ⟨d, 0, none⟩ = false) := fun W hW => by simp [World.frozen?, (h.below hW).blk]
  have P0 : Hid (DuRel w M who 0 (.slice none 0 0) w) := ⟨by rw [List.take_zero]; exact World.ownsRow_nil _ _ _ _, Below.refl _ _⟩
  have c0 := HC.out _ (Below.refl _ _)
  have HBASE := Lib.hid hbase
  clear h hl hn hlies hi0 hz0 hz1 hz2 hbase
  go_enter Tryd.func13, Tryd.ntmps13
  go_wp2_with fail
  go_loopw [4, 5] (fun v i wr => ∃ j : Nat, j ≤ n ∧ i = .int .i64 j ∧ Hid (DuRel w M who j v wr)) (fun _ i _ => n - (intOf i).toNat)
  case atStart => exact ⟨0, by omega, rfl, P0⟩
  case round =>
    clear P0 c0
    obtain ⟨j, hj, rfl, HR⟩ := hrel
    have c0 := HC.out _ HR.out.below
    by_cases hlt : j < n
    · obtain ⟨x, hx⟩ : ∃ x, M[j]? = some x := ⟨_, List.getElem?_eq_getElem (by rw [← HN.out]; exact hlt)⟩
      obtain ⟨g, o, rfl, lg, d0, d1⟩ := hd_at (LiesAt.below HL.out HR.out.below) hx
      have hj0 : (0 : Int) ≤ (j : Int) := by omega
      have hj1 : (j : Int) < (n : Int) := by omega
      have HLEN : Hid ((unlockL (M.take j) who).length ≤ j) := by
        show _ ≤ _
        have : (unlockL (M.take j) who).length ≤ (M.take j).length := List.length_filter_le _ _
        rw [List.length_take] at this
        omega
      have HX := Lib.hid hx
      clear hx lg
      by_cases h1 : x.2 = who
      · have ht : (x.2 != who) = false := by simpa using h1
        have HNX : Hid (DuRel w M who (j + 1) u4 wr) := ⟨by rw [unl_take HX.out, if_pos h1]; exact HR.out.row, HR.out.below⟩
        clear h1
        go_wp2_with fail
        go_roundw
        case rel => exact ⟨j + 1, by omega, by go_num, HNX⟩
        case measure => simp [intOf]; omega
      · have ht : (x.2 != who) = true := by simpa using h1
        have HNE : Hid (unlockL (M.take (j + 1)) who = unlockL (M.take j) who ++ [x]) := by show _ = _; rw [unl_take HX.out, if_neg h1]
        have HROW := Lib.hid HR.out.row
        clear h1
        go_wp2_with (at_builtin; refine wpList_append_own _ rfl _ _ 27 rfl w.heap.size 61 i0 _ 2 24 Tryd.underlying27 HI.out HZ.out HS.out HY.out rfl (by decide) _ _ _ rfl (HROW.out.alloc _) ⟨wr.heap.size, 0, none⟩ 1 1 (hdL x) rfl rfl (hd_cells _ _ _) (hd_one _) (by have := HLEN.out; unfold maxLen; omega) (by have := HLEN.out; omega) (by have := HR.out.below.size; simp; omega) ?_)
        intro v1 w3 hown1 hgrow1 _
        have HNX : Hid (DuRel w M who (j + 1) v1 w3) := by
          refine ⟨?_, ?_⟩
          · rw [HNE.out, List.length_append, List.flatMap_append]
            simpa using hown1
          exact HR.out.below.trans ((((Wrote.refl _ wr).alloc _).trans (Wrote.of_grown hgrow1)).below HR.out.below.size fun g hg => (row_block HR.out.row (by simpa using hg)).1)
        clear hown1 hgrow1 c0
        go_wp2_with fail
        go_roundw
        case rel => exact ⟨j + 1, by omega, by go_num, HNX⟩
        case measure => simp [intOf]; omega
    · obtain rfl : n = j := by omega
      have hfz := HF.out _ HR.out.below
      have hrow := HR.out.row
      rw [List.take_of_length_le (by have := HN.out; omega)] at hrow
      obtain ⟨h1, h2⟩ := dk_store H.out HR.out.below HBASE.out hrow
      have HE : Hid (DkUn w base d (unlockL M who) (.returned (.tuple #[])) (wr.setCell ⟨d, 0, none⟩ u4)) := ⟨rfl, ⟨_, h1⟩, h2⟩
      obtain ⟨fa, fc, rfl⟩ := row_slice hrow
      clear hrow h1 h2
      go_wp2_with fail
      go_end0
      exact HE.out
end Go.Proofs.YtfojgghnkjmjhaaDoor.Locks
