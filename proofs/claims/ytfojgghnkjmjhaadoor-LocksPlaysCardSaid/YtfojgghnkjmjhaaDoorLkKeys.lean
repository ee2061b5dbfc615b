/- Locks: whether a key is in a row; Keys, Unlock. -/
import Derived.Test.YtfojgghnkjmjhaaDoorLkAt
import Derived.Test.YtfojgghnkjmjhaaDoorRange
import Derived.Test.YtfojgghnkjmjhaaDoorSortStr
import Derived.Deep.DeepCutAuto
namespace Go.Proofs.YtfojgghnkjmjhaaDoor.Locks
open Go.RowKit Go.My

def strL (x : ByteArray) : List Value := [.string x]
abbrev StrsAt (w : World) (a : Option Addr) (l : List ByteArray) : Prop := LiesAt w a 1 strL l
theorem StrsAt.cell {w : World} {a : Option Addr} {l : List ByteArray} (h : StrsAt w a l) {i : Nat} {x : ByteArray} (hi : l[i]? = some x) : ∃ g o, a = some ⟨g, o, none⟩ ∧ g < w.heap.size ∧ w.cell? ⟨g, o + i, none⟩ = some (.string x) := by
  obtain ⟨g, o, h1, h2, h3⟩ := h i x hi
  have := h3 0 _ rfl
  rw [Nat.mul_one, Nat.add_zero] at this
  exact ⟨g, o, h1, h2, this⟩
theorem toList_ne {a b : ByteArray} (h : a ≠ b) : (a.toList == b.toList) = false := key_ne h
def IndexLeft (w : World) (l : List ByteArray) (k : ByteArray) (e : Ending) (w' : World) : Prop := ∃ n : Int, e = .returned (.int .i64 n) ∧ decide (0 ≤ n) = hasK l k ∧ w = w'
set_option maxRecDepth 100000 in
theorem index_any (a : Option Addr) (cap : Nat) (l : List ByteArray) (k : ByteArray) (w : World) (h : StrsAt w a l) (hl : l.length ≤ maxLen) :
    Calls Tryd.prog 31 #[.slice a l.length cap, .string k] w (IndexLeft w l k) := by
  unfold maxLen at hl
  have H := Lib.hid h
  obtain ⟨n, hn⟩ : ∃ n, n = l.length := ⟨_, rfl⟩
  have HN := Lib.hid hn
  rw [← hn] at hl ⊢
  clear h hn
  go_enter Tryd.func31, Tryd.ntmps31
  go_wp2
  go_loop [8] (fun i => ∃ j : Nat, j ≤ n ∧ i = .int .i64 j ∧ Hid (∀ q, q < j → ∀ x, l[q]? = some x → x ≠ k)) (fun i => n - (intOf i).toNat)
  case atStart => exact ⟨0, Nat.zero_le _, rfl, fun q hq => absurd hq (by omega)⟩
  case round =>
    obtain ⟨j, hj, rfl, HQ⟩ := hrel
    by_cases hlt : j < n
    · obtain ⟨x, hx⟩ : ∃ x, l[j]? = some x := ⟨_, List.getElem?_eq_getElem (by rw [← HN.out]; exact hlt)⟩
      obtain ⟨g, o, rfl, hg, c0⟩ := H.out.cell hx
      have HX := Lib.hid hx
      have h0 : (0 : Int) ≤ (j : Int) := by omega
      have h1 : (j : Int) < (n : Int) := by omega
      clear hx hg
      by_cases hk : x = k
      · have HK := Lib.hid hk
        have ht : (k.toList == x.toList) = true := by rw [hk]; simp
        clear hk
        go_wp2_with fail
        go_ret
        refine ⟨j, rfl, ?_, rfl⟩
        rw [hasK_iff.2 (by rw [← HK.out]; exact List.mem_of_getElem? HX.out)]
        simp
      · have HK : Hid (∀ q, q < j + 1 → ∀ y, l[q]? = some y → y ≠ k) := fun q hq y hy => by
          by_cases e : q = j
          · subst e
            rw [HX.out] at hy
            cases hy
            exact hk
          · exact HQ.out q (by omega) y hy
        have ht : (k.toList == x.toList) = false := toList_ne fun e => hk e.symm
        clear hk
        go_wp2_with fail
        go_round
        case rel => exact ⟨j + 1, by omega, by go_num, HK⟩
        case measure => simp [intOf]; omega
    · go_wp2_with fail
      go_ret
      refine ⟨-1, rfl, ?_, rfl⟩
      rw [hasK_not.2 fun hm => by
        obtain ⟨q, hq⟩ := List.getElem?_of_mem hm
        have := (List.getElem?_eq_some_iff.1 hq).1
        exact HQ.out q (by have := HN.out; omega) k hq rfl]
      simp
set_option maxRecDepth 100000 in
theorem contains_any (a : Option Addr) (cap : Nat) (l : List ByteArray) (k : ByteArray) (w : World) (h : StrsAt w a l) (hl : l.length ≤ maxLen) :
    Calls Tryd.prog 24 #[.slice a l.length cap, .string k] w fun e w' => e = .returned (.bool (hasK l k)) ∧ w = w' := by
  have HI := Lib.hid (index_any a cap l k w h hl)
  obtain ⟨n, hn⟩ : ∃ n, n = l.length := ⟨_, rfl⟩
  rw [← hn] at HI ⊢
  clear h hl hn
  cases hb : hasK l k with
  | true =>
    have HB := Lib.hid hb
    clear hb
    go_enter Tryd.func24, Tryd.ntmps24
    go_wp2_with fail
    refine HI.out.mono ?_
    rintro e w' ⟨m, rfl, hm, rfl⟩
    rw [HB.out] at hm
    have h0 : 0 ≤ m := by simpa using hm
    clear hm
    go_wp2_with fail
    go_ret
    exact ⟨rfl, rfl⟩
  | false =>
    have HB := Lib.hid hb
    clear hb
    go_enter Tryd.func24, Tryd.ntmps24
    go_wp2_with fail
    refine HI.out.mono ?_
    rintro e w' ⟨m, rfl, hm, rfl⟩
    rw [HB.out] at hm
    go_wp2_with fail
    go_ret
    exact ⟨rfl, rfl⟩

/-! ### Keys -/
def selK (l : LMap) (who : Int) : List ByteArray := (l.filter fun p => p.2 == who).map (·.1)
theorem selK_yes {l : LMap} {who : Int} {k : ByteArray} : selK (l ++ [(k, who)]) who = selK l who ++ [k] := by unfold selK; simp
theorem selK_no {l : LMap} {who c : Int} {k : ByteArray} (h : c ≠ who) : selK (l ++ [(k, c)]) who = selK l who := by unfold selK; simp [h]
theorem selK_len (l : LMap) (who : Int) : (selK l who).length ≤ l.length := by unfold selK; rw [List.length_map]; exact List.length_filter_le _ _
theorem str_info : (Tryd.prog.info? 9).map (fun i => (i.zero, i.size, i.bytes)) = some (some (.string ⟨#[]⟩), 1, 16) := by kernel_rfl
structure KeysRel (w : World) (b m r : Nat) (L : LMap) (who : Int) (done todo : LMap) (v : Value) (wr : World) : Prop where
  range : RangeAt wr m r sK iV L done todo
  row : wr.ownsRow w.heap.size 9 1 v (selK done who).length ((selK done who).map Value.string)
  below : Below w.heap.size w wr
  rr : w.heap.size ≤ r
def KeysLeft (w : World) (L : LMap) (who : Int) (e : Ending) (w' : World) : Prop :=
  ∃ v, e = .returned v ∧ w'.ownsRow w.heap.size 9 1 v (keysOf L who).length ((keysOf L who).map Value.string) ∧ Below w.heap.size w w'
theorem row_iter {w : World} {base : Nat} {e : TypeId} {c : Nat} {v : Value} {n : Nat} {xs : List Value} (h : w.ownsRow base e c v n xs) {g : Nat} (hg : v.ownBlock = some g) {b r : Nat} {L done todo : LMap} (hr : RangeAt w b r sK iV L done todo) : g ≠ r ∧ g ≠ b := by
  obtain ⟨_, cur, hc⟩ := row_block h hg
  refine ⟨?_, ?_⟩
  · rintro rfl
    obtain ⟨_, _, _, _, hi⟩ := hr.iter
    rw [hc] at hi
    cases hi
  · rintro rfl
    exact hr.map.ne_cells hc rfl
theorem KeysRel.step {w : World} {b m r : Nat} {L done todo t1 t2 : LMap} {who c : Int} {k : ByteArray} {v : Value} {wr w1 : World} (h : KeysRel w b m r L who done todo v wr) (hr : RangeAt w1 m r sK iV L (done ++ [(k, c)]) (t1 ++ t2)) (hw : Wrote [r] wr w1) (hc : c ≠ who) :
    KeysRel w b m r L who (done ++ [(k, c)]) (t1 ++ t2) v w1 := by
  refine ⟨hr, ?_, h.below.trans (hw.below h.below.size fun k hk => by simp at hk; rw [hk]; exact h.rr), h.rr⟩
  rw [selK_no hc]
  refine row_wrote h.row hw fun g hg hm => ?_
  simp at hm
  exact (row_iter h.row hg h.range).1 hm
theorem KeysRel.mid {w : World} {b m r : Nat} {L done todo : LMap} {who : Int} {v : Value} {wr w1 : World} (h : KeysRel w b m r L who done todo v wr) (hw : Wrote [r] wr w1) :
    w1.ownsRow w.heap.size 9 1 v (selK done who).length ((selK done who).map Value.string) ∧ Below w.heap.size w w1 :=
  ⟨row_wrote h.row hw fun g hg hm => by
    simp at hm
    exact (row_iter h.row hg h.range).1 hm, h.below.trans (hw.below h.below.size fun k hk => by simp at hk; rw [hk]; exact h.rr)⟩
theorem KeysRel.put {w : World} {b m r : Nat} {L done t : LMap} {who : Int} {k : ByteArray} {v v2 : Value} {w1 w2 : World} (hr : RangeAt w1 m r sK iV L (done ++ [(k, who)]) t) (hrow : w1.ownsRow w.heap.size 9 1 v (selK done who).length ((selK done who).map Value.string)) (hb : Below w.heap.size w w1) (hrr : w.heap.size ≤ r) (o : Obj)
    (hown : w2.ownsRow w.heap.size 9 1 v2 ((selK done who).length + 1) ((selK done who).map Value.string ++ [.string k])) (hg : (w1.alloc o).grownBy w2 v.ownBlock) : KeysRel w b m r L who (done ++ [(k, who)]) t v2 w2 := by
  have hw : Wrote v.ownBlock.toList (w1.alloc o) w2 := Wrote.of_grown hg
  refine ⟨(hr.alloc o).touch hw ?_ ?_, ?_, hb.trans ((((Wrote.refl _ w1).alloc o).trans hw).below hb.size fun g hg => ?_), hrr⟩
  · intro hm
    exact (row_iter hrow (by simpa using hm) hr).2 rfl
  · intro hm
    exact (row_iter hrow (by simpa using hm) hr).1 rfl
  · rw [selK_yes, List.length_append, List.map_append]
    exact hown
  · exact (row_block hrow (by simpa using hg)).1
set_option maxRecDepth 100000 in
set_option maxHeartbeats 1600000 in
theorem keys_any (b m : Nat) (L : LMap) (who : Int) (w : World) (h : LocksAt w b m L) (hF : Fine L) :
    Calls Tryd.prog 16 #[.pointer (some ⟨b, 0, none⟩), .int .i64 who] w (KeysLeft w L who) := by
  obtain ⟨i0, hi0, hz0, hz1, hz2⟩ := info_parts str_info
  have HI := Lib.hid hi0
  have HZ := Lib.hid hz0
  have HS := Lib.hid hz1
  have HY := Lib.hid hz2
  have c0 := h.c0
  have H := Lib.hid h
  have HF := Lib.hid hF
  clear h hF hi0 hz0 hz1 hz2
  go_enter Tryd.func16, Tryd.ntmps16
  go_wp2_with (at_range; refine wpList_range_map _ rfl _ 54 rfl Tryd.underlying54 m rfl H.out.map ?_; intro w1 hr1 hb1 hs1)
  have P0 : Hid (KeysRel w b m w.heap.size L who [] L (.slice none 0 0) w1) := ⟨hr1, World.ownsRow_nil _ _ _ _, hb1, Nat.le_refl _⟩
  obtain ⟨r, hr⟩ : ∃ r, r = w.heap.size := ⟨_, rfl⟩
  rw [← hr] at P0 ⊢
  clear hr1 hb1 hs1 hr c0
  go_frame
  go_loopw [5] (fun v wr => ∃ done todo, Hid (KeysRel w b m r L who done todo v wr)) (fun _ wr => wr.rangeLeft m r)
  case atStart => exact ⟨[], L, P0⟩
  case round =>
    clear P0
    obtain ⟨done, todo, HR⟩ := hrel
    go_wp2_with (at_next; refine wpList_next_map _ rfl _ rfl m r rfl HR.out.range ?_ ?_)
    · intro ht
      have HT := Lib.hid ht
      have HSO := Lib.hid (sort_str (l := selK done who) HR.out.row (by have h1 := selK_len done who; have h2 := HR.out.range.perm.length_eq; have := HF.out.small; rw [List.length_append] at h2; omega))
      clear ht
      go_wp2_with fail
      refine HSO.out.mono ?_
      rintro e w2 ⟨rfl, hrow, hg⟩
      have HL : Hid (KeysLeft w L who (.returned u5) w2) := by
        have hp := HR.out.range.perm
        rw [HT.out, List.append_nil] at hp
        have e2 : sortB (selK done who) = keysOf L who := sortB_congr ((hp.filter _).map _)
        have e3 : (selK done who).length = (keysOf L who).length := by rw [← e2, length_sortB]
        rw [e2, e3] at hrow
        exact ⟨u5, rfl, hrow, HR.out.below.trans ((Wrote.of_grown hg).below HR.out.below.size fun g hg' => (row_block HR.out.row (by simpa using hg')).1)⟩
      clear hrow hg
      go_wp2_with fail
      go_ret
      exact HL.out
    · intro k c t1 t2 w2 ht hr2 hw2 hs2 hen
      have HR2 := Lib.hid hr2
      have HW2 := Lib.hid hw2
      have HLE : Hid (wr.rangeLeft m r = (t1 ++ t2).length + 1) := by
        show _ = _
        rw [HR.out.range.left_eq, ht]
        simp
        omega
      clear ht hr2 hw2 hs2
      simp only [sK, iV] at hen ⊢
      by_cases hc : c = who
      · subst hc
        obtain ⟨hrow, hbl⟩ := HR.out.mid HW2.out
        have HROW := Lib.hid hrow
        have HBL := Lib.hid hbl
        have HLEN : Hid ((selK done c).length ≤ 128) := by
          show _ ≤ _
          have h1 := selK_len done c; have h2 := HR.out.range.perm.length_eq; have := HF.out.small; rw [List.length_append] at h2; omega
        clear hrow hbl
        go_wp2_with (at_builtin; refine wpList_append_own _ rfl _ _ 31 rfl w.heap.size 9 i0 (.string ⟨#[]⟩) 1 16 Tryd.underlying31 HI.out HZ.out HS.out HY.out rfl (by decide) _ _ _ rfl (HROW.out.alloc _) ⟨w2.heap.size, 0, none⟩ 1 1 [.string k] rfl rfl ?c1 ?c2 ?c3 ?c4 ?c5 ?_)
        case c1 => exact cell_one_new _ _ _
        case c2 => simp [Value.oneCell']
        case c3 => have := HLEN.out; unfold maxLen; omega
        case c4 => have := HLEN.out; omega
        case c5 => have := HBL.out.size; simp; omega
        intro v1 w3 hown1 hgrow1 _
        have HN : Hid (KeysRel w b m r L c (done ++ [(k, c)]) (t1 ++ t2) v1 w3) := KeysRel.put HR2.out HROW.out HBL.out HR.out.rr _ hown1 hgrow1
        clear hown1 hgrow1
        go_wp2_with fail
        go_roundw
        case rel => exact ⟨_, _, HN⟩
        case measure => rw [HLE.out, HN.out.range.left_eq]; omega
      · have HN : Hid (KeysRel w b m r L who (done ++ [(k, c)]) (t1 ++ t2) u5 w2) := HR.out.step HR2.out HW2.out hc
        have hcb : (c == who) = false := by simpa using hc
        clear hc
        go_wp2_with fail
        go_roundw
        case rel => exact ⟨_, _, HN⟩
        case measure => rw [HLE.out, HN.out.range.left_eq]; omega
end Go.Proofs.YtfojgghnkjmjhaaDoor.Locks
