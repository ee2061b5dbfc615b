/- Merkle: a digest of texts and numbers, in memory. -/
import Derived.Test.YtlepjjcnlcnnfaaDoorMkWrite
import Derived.Test.YtlepjjcnlcnnfaaDoorBkPlain
namespace Go.Proofs.YtlepjjcnlcnnfaaDoor.Merkle
open Go.RowKit Go.My

/-- blocks that a digest may write to: a tree's, a book's, its rows of texts, its map -/
def Kd : Obj → Bool
  | .cells _ t _ => t == 53 || (t == 49 || t == 9)
  | .map _ _ => true
  | _ => false
/-- what was ahead of the book, and all other kinds of blocks, are as they were -/
structure Fx (bB : Nat) (w w' : World) : Prop where
  below : Below bB w w'
  kept : ∀ (k : Nat) (o : Obj), w.heap[k]? = some o → Kd o = false → w'.heap[k]? = some o
section
variable {w w' w'' : World} {bB b m tb : Nat} {v v' : Value} {T : List ByteArray}
theorem Fx.refl (bB : Nat) (w : World) : Fx bB w w := ⟨Below.refl _ _, fun _ _ h _ => h⟩
theorem Fx.trans (h : Fx bB w w') (k : Fx bB w' w'') : Fx bB w w'' := ⟨h.below.trans k.below, fun j _ hj ho => k.kept j _ (h.kept j _ hj ho) ho⟩
theorem Fx.of_below (hb : Below w.heap.size w w') (h : bB ≤ w.heap.size) : Fx bB w w' := ⟨hb.mono h, fun k _ hk _ => (hb.block k (lt_of_heap hk)).trans hk⟩
theorem Fx.of_wrote {S : List Nat} (hw : Wrote S w w') (hB : bB ≤ w.heap.size) (hS : ∀ k ∈ S, bB ≤ k ∧ ∀ o, w.heap[k]? = some o → Kd o = true) : Fx bB w w' :=
  ⟨hw.below hB fun k hk => (hS k hk).1, fun k o hk ho => hw.heap hk fun hm => by have e := (hS k hm).2 o hk; rw [ho] at e; cases e⟩
theorem Fx.size (h : Fx bB w w') : w.heap.size ≤ w'.heap.size := h.below.size
theorem book_wrote {S : List Nat} (h : Book.BookAt w bB b m v T) (hw : Wrote S w w') (hb : b ∉ S) (hm : m ∉ S) (hv : ∀ g, v.ownBlock = some g → g ∉ S) : Book.BookAt w' bB b m v T :=
  ⟨hw.heap h.blk hb, h.map.touch hw hm, row_wrote h.row hw hv, h.bb, h.bm, h.nb⟩
theorem book_kd (h : Book.BookAt w bB b m v T) : ∀ k ∈ b :: m :: v.ownBlock.toList, bB ≤ k ∧ ∀ o, w.heap[k]? = some o → Kd o = true := by
  intro k hk
  rcases List.mem_cons.1 hk with rfl | hk
  · refine ⟨h.bb, fun o ho => ?_⟩
    rw [h.blk] at ho
    cases ho
    rfl
  · rcases List.mem_cons.1 hk with rfl | hk
    · refine ⟨h.bm, fun o ho => ?_⟩
      obtain ⟨es, c, he, _⟩ := h.map.len
      rw [he] at ho
      cases ho
      rfl
    · obtain ⟨h1, cur, hc⟩ := row_block h.row (by simpa using hk)
      refine ⟨h1, fun o ho => ?_⟩
      rw [hc] at ho
      cases ho
      rfl
/-- a tree over a book, without an error -/
structure TrAt (w : World) (bB b m : Nat) (v : Value) (T : List ByteArray) (tb : Nat) : Prop where
  book : Book.BookAt w bB b m v T
  nd : T.Nodup
  blk : w.heap[tb]? = some (.cells #[.pointer (some ⟨b, 0, none⟩), .nilIface] 53 (0, 0))
  tB : bB ≤ tb
theorem TrAt.below (h : TrAt w bB b m v T tb) (hb : Below w.heap.size w w') : TrAt w' bB b m v T tb := ⟨h.book.below hb, h.nd, (hb.block _ (lt_of_heap h.blk)).trans h.blk, h.tB⟩
theorem TrAt.c0 (h : TrAt w bB b m v T tb) : w.cell? ⟨tb, 0, none⟩ = some (.pointer (some ⟨b, 0, none⟩)) := by rw [cell_of_row _ _ _ _ _ _ h.blk]; rfl
theorem TrAt.c1 (h : TrAt w bB b m v T tb) : w.cell? ⟨tb, 1, none⟩ = some .nilIface := by rw [cell_of_row _ _ _ _ _ _ h.blk]; rfl
theorem TrAt.f1 (h : TrAt w bB b m v T tb) : w.frozen? ⟨tb, 1, none⟩ = false := by unfold World.frozen?; rw [h.blk]; rfl
theorem TrAt.le (h : TrAt w bB b m v T tb) : bB ≤ w.heap.size := Nat.le_trans h.tB (Nat.le_of_lt (lt_of_heap h.blk))
theorem asked_nodup (T : List ByteArray) (s : ByteArray) (h : T.Nodup) : (Book.asked T s).Nodup := by
  unfold Book.asked
  split
  · exact h
  · rename_i hn
    have hn : s ∉ T := fun hm => by
      obtain ⟨j, hj, hx⟩ := List.getElem_of_mem hm
      rw [Book.placed_some h (by rw [List.getElem?_eq_getElem hj, hx])] at hn
      exact hn rfl
    rw [List.nodup_append]
    exact ⟨h, by simp, fun a ha c hc => by simp at hc; subst hc; exact fun e => hn (e ▸ ha)⟩
theorem asked_ext (T : List ByteArray) (s : ByteArray) : Ext T (Book.asked T s) := by
  intro d x hx
  unfold Book.asked
  split
  · exact hx
  · unfold At at hx ⊢
    rw [List.getElem?_append_left (List.getElem?_eq_some_iff.1 hx).1]
    exact hx
theorem asked_at (T : List ByteArray) (s : ByteArray) (h : T.Nodup) : At (Book.asked T s) (Book.placeOf T s) s := by
  unfold Book.asked Book.placeOf
  by_cases hm : s ∈ T
  · obtain ⟨j, hj, hx⟩ := List.getElem_of_mem hm
    have e := Book.placed_some h (by rw [List.getElem?_eq_getElem hj, hx] : T[j]? = some s)
    rw [e]
    show T[j]? = some s
    rw [List.getElem?_eq_getElem hj, hx]
  · rw [Book.placed_none hm]
    show (T ++ [s])[T.length]? = some s
    simp
theorem asked_len (T : List ByteArray) (s : ByteArray) : (Book.asked T s).length ≤ T.length + 1 := by
  unfold Book.asked
  split
  · omega
  · simp
end
/-- what a digest leaves -/
def DigT (w : World) (bB b m tb : Nat) (T : List ByteArray) (s : ByteArray) (e : Ending) (w' : World) : Prop :=
  ∃ v' T' d, e = .returned (.int .i64 ((d : Nat) : Int)) ∧ TrAt w' bB b m v' T' tb ∧ Ext T T' ∧ At T' d s ∧ T'.length ≤ T.length + 1 ∧ Fx bB w w'
def strs (s : ByteArray) : List Value := [.string s]
def nums (z : Int) : List Value := [.int .i64 z]
def encS (S : List ByteArray) : List UInt8 := S.flatMap txt
def encZ (Z : List Int) : List UInt8 := Z.flatMap (be 8)
theorem encS_snoc {S : List ByteArray} {j : Nat} {s : ByteArray} (h : S[j]? = some s) : encS (S.take (j + 1)) = encS (S.take j) ++ txt s := by
  unfold encS
  rw [List.take_add_one, h]
  simp
theorem encZ_snoc {Z : List Int} {j : Nat} {z : Int} (h : Z[j]? = some z) : encZ (Z.take (j + 1)) = encZ (Z.take j) ++ be 8 z := by
  unfold encZ
  rw [List.take_add_one, h]
  simp
theorem encS_le (S : List ByteArray) (j : Nat) : (encS (S.take j)).length ≤ (encS S).length := by
  unfold encS
  conv => rhs; rw [← List.take_append_drop j S, List.flatMap_append, List.length_append]
  omega
theorem encZ_len (Z : List Int) : (encZ Z).length = 8 * Z.length := by
  unfold encZ
  induction Z with
  | nil => rfl
  | cons z Z ih => rw [List.flatMap_cons, List.length_append, be_len, ih, List.length_cons]; omega
theorem txt_le {S : List ByteArray} {s : ByteArray} (h : s ∈ S) : s.size ≤ (encS S).length := by
  induction S with
  | nil => cases h
  | cons a S ih =>
    unfold encS
    rw [List.flatMap_cons, List.length_append, txt_len]
    rcases List.mem_cons.1 h with rfl | h
    · omega
    · have := ih h
      unfold encS at this
      omega
theorem wrap_nil (name : ByteArray) (n : Int) (w : World) : Calls Tryd.prog 29 #[.nilIface, .string name, .int .i64 n] w fun e w' => e = .returned .nilIface ∧ w = w' := by
  go_enter Tryd.func29, Tryd.ntmps29
  go_wp2
  go_ret
  exact ⟨rfl, rfl⟩
theorem str_bytes {w : World} (s : ByteArray) : Lib.Bytes (Lib.bytesWorld w 5 s) w.heap.size 0 s := fun i hi => by
  rw [Nat.zero_add, Lib.bytesWorld_cell w 5 s i hi]
  simp [List.getD, hi]
  rfl
set_option maxRecDepth 100000 in
set_option maxHeartbeats 6400000 in
theorem digest_any (bB b m tb : Nat) (v : Value) (T : List ByteArray) (a a2 : Option Addr) (c c2 : Nat) (S : List ByteArray) (Z : List Int) (w : World) (h : TrAt w bB b m v T tb) (hS : LiesAt w a 1 strs S) (hZ : LiesAt w a2 1 nums Z)
    (hn : T.length < 65536) (hl : (encS S).length + 8 * Z.length ≤ 60000) (h0 : 0 < (encS S).length) (hsl : S.length ≤ 100) :
    Calls Tryd.prog 31 #[.pointer (some ⟨tb, 0, none⟩), .slice a S.length c, .slice a2 Z.length c2] w (DigT w bB b m tb T (ofL (encS S ++ encZ Z))) := by
  have H := Lib.hid h
  have HS := Lib.hid hS
  have HZ := Lib.hid hZ
  have HL := Lib.hid hl
  have H0 := Lib.hid h0
  have HN := Lib.hid hn
  obtain ⟨ns, hns⟩ : ∃ n, n = S.length := ⟨_, rfl⟩
  obtain ⟨nz, hnz⟩ : ∃ n, n = Z.length := ⟨_, rfl⟩
  have HNS := Lib.hid hns
  have HNZ := Lib.hid hnz
  have hns9 : (ns : Int) ≤ 100 := by omega
  have hnz9 : (nz : Int) ≤ 60000 := by omega
  have hcv := fun (W : World) (s : ByteArray) => Lib.run_convert_string_bytes (P := Tryd.prog) W 9 91 5 s Tryd.underlying9 Tryd.underlying91 Tryd.underlying5
  obtain ⟨B, hB⟩ : ∃ B, B = w.heap.size := ⟨_, rfl⟩
  obtain ⟨w0, hw0⟩ : ∃ W : World, W = w.alloc (.cells #[.slice none 0 0, .nilIface] 93) := ⟨_, rfl⟩
  have P0 : Hid (∃ u, WrAt w0 B B u (encS (S.take 0)) ∧ Below B w w0) := by
    refine ⟨.slice none 0 0, ⟨by rw [hw0, hB]; exact heap_alloc_new w _, ?_, Nat.le_refl _⟩, by rw [hw0, hB]; exact (Below.refl _ _).alloc (Nat.le_refl _) _⟩
    rw [List.take_zero]
    exact World.ownsRow_nil _ _ _ _
  have HW : Hid (w.alloc (.cells #[.slice none 0 0, .nilIface] 93) = w0 ∧ w.heap.size = B) := ⟨hw0.symm, hB.symm⟩
  rw [← hns, ← hnz]
  clear h hS hZ hl h0 hn hns hnz hsl hw0 hB
  go_enter Tryd.func31, Tryd.ntmps31
  go_upto_region 2 with fail
  rw [HW.out.1, HW.out.2]
  go_wp2_with fail
  go_loopw [19] (fun i wr => ∃ j : Nat, j ≤ ns ∧ i = .int .i64 j ∧ Hid (∃ u, WrAt wr B B u (encS (S.take j)) ∧ Below B w wr)) (fun i _ => ns - (intOf i).toNat)
  case atStart => exact ⟨0, by omega, rfl, P0⟩
  case round =>
    clear P0
    obtain ⟨j, hj, rfl, HR⟩ := hrel
    by_cases hlt : j < ns
    · obtain ⟨s, hs⟩ : ∃ s, S[j]? = some s := ⟨_, List.getElem?_eq_getElem (by rw [← HNS.out]; exact hlt)⟩
      obtain ⟨u, hwr, hbw⟩ := HR.out
      obtain ⟨g, o, rfl, lg, d0⟩ := HS.out.at1 hs
      have e0 := (hbw.cell (p := ⟨g, _, none⟩) (by rw [← HW.out.2]; exact lg)).trans d0
      have hsz : s.size ≤ 60000 := by have := txt_le (List.mem_of_getElem? hs); have := HL.out; omega
      have hlj : (encS (S.take j)).length ≤ 60000 := by have := encS_le S j; have := HL.out; omega
      have hbb : Below wr.heap.size wr (Lib.bytesWorld wr 5 s) := Book.bytesWorld_below wr s
      have HT := Lib.hid (wtext_any B B u (encS (S.take j)) wr.heap.size (grownCap wr s.size 0 5) s (Lib.bytesWorld wr 5 s) (hwr.below hbb) (str_bytes s) (by rw [Lib.bytesWorld_size]; omega) (fun e => Nat.lt_irrefl _ (row_lt hwr.row _ e)) (by omega) (by omega))
      have HSN : Hid (encS (S.take (j + 1)) = encS (S.take j) ++ txt s) := encS_snoc hs
      have HBW : Hid (Below B w (Lib.bytesWorld wr 5 s)) := hbw.trans (hbb.mono (Nat.le_trans hwr.bb (Nat.le_of_lt hwr.lt)))
      have hj0 : (0 : Int) ≤ (j : Int) := by omega
      have hj1 : (j : Int) < (ns : Int) := by omega
      have HS1 : Hid (s.size ≤ 60000) := hsz
      clear hwr hbw lg d0 hs hlj hbb hsz HR
      go_wp2_with fail
      refine HT.out.mono ?_
      rintro e w3 ⟨rfl, u3, hw3, hb3⟩
      have HNX : Hid (∃ u, WrAt w3 B B u (encS (S.take (j + 1))) ∧ Below B w w3) := ⟨u3, by rw [HSN.out]; exact hw3, HBW.out.trans hb3⟩
      clear hw3 hb3 e0
      go_wp2_with fail
      exact ⟨⟨j + 1, by omega, by simp, HNX⟩, by simp [intOf]; omega⟩
    · obtain rfl : ns = j := by omega
      have P1 : Hid (∃ u, WrAt wr B B u (encS S ++ encZ (Z.take 0)) ∧ Below B w wr) := by
        obtain ⟨u, h1, h2⟩ := HR.out
        rw [List.take_of_length_le (by have := HNS.out; omega)] at h1
        exact ⟨u, by rw [List.take_zero]; simpa [encZ] using h1, h2⟩
      clear HR
      go_wp2_with fail
      go_loopw [30] (fun i wr => ∃ j : Nat, j ≤ nz ∧ i = .int .i64 j ∧ Hid (∃ u, WrAt wr B B u (encS S ++ encZ (Z.take j)) ∧ Below B w wr)) (fun i _ => nz - (intOf i).toNat)
      case atStart => exact ⟨0, by omega, rfl, P1⟩
      case round =>
        clear P1
        obtain ⟨j, hj, rfl, HR⟩ := hrel
        by_cases hlt : j < nz
        · obtain ⟨z, hz⟩ : ∃ z, Z[j]? = some z := ⟨_, List.getElem?_eq_getElem (by rw [← HNZ.out]; exact hlt)⟩
          obtain ⟨u, hwr, hbw⟩ := HR.out
          obtain ⟨g, o, rfl, lg, d0⟩ := HZ.out.at1 hz
          have e0 := (hbw.cell (p := ⟨g, _, none⟩) (by rw [← HW.out.2]; exact lg)).trans d0
          have hlj : (encS S ++ encZ (Z.take j)).length ≤ 500000 := by
            have := HL.out
            rw [List.length_append, encZ_len, List.length_take]
            omega
          have HT := Lib.hid (wnum_any B B u (encS S ++ encZ (Z.take j)) z _ hwr hlj)
          have HSN : Hid (encS S ++ encZ (Z.take (j + 1)) = encS S ++ encZ (Z.take j) ++ be 8 z) := by rw [List.append_assoc, encZ_snoc hz]; exact rfl
          have HBW := Lib.hid hbw
          have hj0 : (0 : Int) ≤ (j : Int) := by omega
          have hj1 : (j : Int) < (nz : Int) := by omega
          clear hwr hbw lg d0 hz hlj HR
          go_wp2_with fail
          refine HT.out.mono ?_
          rintro e w3 ⟨rfl, u3, hw3, hb3⟩
          have HNX : Hid (∃ u, WrAt w3 B B u (encS S ++ encZ (Z.take (j + 1))) ∧ Below B w w3) := ⟨u3, by rw [HSN.out]; exact hw3, HBW.out.trans hb3⟩
          clear hw3 hb3 e0
          go_wp2_with fail
          exact ⟨⟨j + 1, by omega, by simp, HNX⟩, by simp [intOf]; omega⟩
        · obtain rfl : nz = j := by omega
          have HR2 : Hid (∃ u, WrAt wr B B u (encS S ++ encZ Z) ∧ Below B w wr) := by
            obtain ⟨u, h1, h2⟩ := HR.out
            rw [List.take_of_length_le (by have := HNZ.out; omega)] at h1
            exact ⟨u, h1, h2⟩
          obtain ⟨u, hwr, hbw⟩ := HR2.out
          have HBT := Lib.hid (wbytes_any B B u (encS S ++ encZ Z) wr hwr (by rw [List.length_append]; have := H0.out; omega) (by rw [List.length_append, encZ_len]; have := HL.out; omega))
          have HBW := Lib.hid hbw
          obtain ⟨X, hX⟩ : ∃ X, X = encS S ++ encZ Z := ⟨_, rfl⟩
          have HXL : Hid (X.length ≤ 60000) := by rw [hX, List.length_append, encZ_len]; exact HL.out
          have HX := Lib.hid hX
          rw [← hX] at HBT ⊢
          clear hwr hbw HR HR2 hX
          go_wp2_with fail
          refine HBT.out.mono ?_
          rintro e w4 ⟨g, cp, rfl, hg1, hg2, hgb, hb4⟩
          have hB4 : Below w.heap.size w w4 := by
            rw [HW.out.2]
            exact HBW.out.trans (hb4.mono (by have := HBW.out.size; rw [HW.out.2] at this; omega))
          have H4 := Lib.hid (H.out.below hB4)
          have HB4 := Lib.hid hB4
          have hsz : X.length = (ofL X).size := (ofL_size X).symm
          have HD := Lib.hid (Book.dig_any H4.out.book g 0 cp (ofL X) (by rw [ofL_size]; have := HXL.out; omega) HN.out H4.out.le hgb hg2 (by have := H.out.book.map.lt; have := HW.out.2; omega) (fun e => by have := row_lt H.out.book.row g e; have := HW.out.2; omega))
          rw [← hsz] at HD
          have c0 := H4.out.c0
          have c1 := H4.out.c1
          clear hg1 hg2 hgb hb4 hB4 hsz HBT
          go_wp2_with fail
          refine HD.out.mono ?_
          rintro e w5 ⟨v5, rfl, hbk, htn⟩
          have hb5 : w5.heap[tb]? = _ := htn.wrote.heap H4.out.blk (by
            simp only [List.mem_cons, Option.mem_toList, not_or]
            refine ⟨fun e => ?_, fun e => ?_, fun e => ?_⟩
            · have h1 := H4.out.book.blk
              rw [← e, H4.out.blk] at h1
              cases h1
            · exact H4.out.book.map.ne_cells H4.out.blk e.symm
            · obtain ⟨_, cur, hc⟩ := row_block H4.out.book.row e
              rw [H4.out.blk] at hc
              cases hc)
          have d0 : w5.cell? ⟨tb, 0, none⟩ = some (.pointer (some ⟨b, 0, none⟩)) := by rw [cell_of_row _ _ _ _ _ _ hb5]; rfl
          have d1 : w5.cell? ⟨tb, 1, none⟩ = some .nilIface := by rw [cell_of_row _ _ _ _ _ _ hb5]; rfl
          have f1 : w5.frozen? ⟨tb, 1, none⟩ = false := by unfold World.frozen?; rw [hb5]; rfl
          have HBK := Lib.hid hbk
          have HTN := Lib.hid htn
          have HB5 := Lib.hid hb5
          have HWN := Lib.hid (fun (W : World) => wrap_nil ⟨#[109, 101, 114, 107, 108, 101]⟩ 1 W)
          obtain ⟨pl, hpl⟩ : ∃ p, p = Book.placeOf T (ofL X) := ⟨_, rfl⟩
          have HPL := Lib.hid hpl
          rw [← hpl]
          clear hbk htn hb5 hpl HD c0 c1
          go_wp2_with (go_at_call 29; refine (HWN.out _).mono ?_; rintro e w6 ⟨rfl, rfl⟩)
          go_ret
          have hw6 : Wrote [tb] w5 (w5.setCell ⟨tb, 1, none⟩ .nilIface) := (Wrote.refl _ _).setCell (.inl (by simp)) _
          have hne : ∀ (k : Nat), (∃ o, w5.heap[k]? = some o ∧ ∀ cs fr, o ≠ .cells cs 53 fr) → k ∉ [tb] := fun k ⟨o, ho, hno⟩ hm => by
            have e : k = tb := by simpa using hm
            rw [e, HB5.out] at ho
            cases ho
            exact hno _ _ rfl
          refine ⟨v5, Book.asked T (ofL X), pl, rfl, ⟨book_wrote HBK.out hw6 (hne b ⟨_, HBK.out.blk, fun _ _ e => by cases e⟩) ?_ ?_, asked_nodup _ _ H.out.nd, ?_, H.out.tB⟩, asked_ext _ _, by rw [HPL.out, ← HX.out]; exact asked_at _ _ H.out.nd, asked_len _ _, ?_⟩
          · obtain ⟨es, c, he, _⟩ := HBK.out.map.len
            exact hne m ⟨_, he, fun _ _ e => by cases e⟩
          · intro g hg
            obtain ⟨_, cur, hc⟩ := row_block HBK.out.row hg
            exact hne g ⟨_, hc, fun _ _ e => by cases e⟩
          · obtain ⟨hlt, hgt⟩ := Array.getElem?_eq_some_iff.1 HB5.out
            simp [World.setCell, Array.getElem?_modify, HB5.out]
          · refine ((Fx.of_below HB4.out H.out.le).trans (Fx.of_wrote HTN.out.wrote H4.out.le (book_kd H4.out.book))).trans (Fx.of_wrote hw6 (Nat.le_trans H4.out.le HTN.out.below.size) fun k hk => ?_)
            have e : k = tb := by simpa using hk
            rw [e]
            refine ⟨H.out.tB, fun o ho => ?_⟩
            rw [HB5.out] at ho
            cases ho
            rfl
end Go.Proofs.YtlepjjcnlcnnfaaDoor.Merkle
