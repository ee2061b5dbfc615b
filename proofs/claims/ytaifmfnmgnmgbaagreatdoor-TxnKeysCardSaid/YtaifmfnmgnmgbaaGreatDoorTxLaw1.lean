/- Txn: two stores beside each other; entries compared. -/
import Derived.Test.YtaifmfnmgnmgbaaGreatDoorTxLaws
import Derived.Test.YtaifmfnmgnmgbaaGreatDoorRange
import Derived.BigQuiet
namespace Go.Proofs.YtaifmfnmgnmgbaaGreatDoor.Txn
open Go.RowKit Go.My

theorem store_beside {X Y : World} {p q : Nat} {a b : Option Addr} {cap cb : Nat} {L M : List Ent} (h : StoreAt X p a cap L) (hq : StoreAt X q b cb M) (hne : p ≠ q) (hw : Wrote [q] X Y) : StoreAt Y p a cap L := by
  refine ⟨(hw.block p (lt_of_heap h.cell) (by simpa using hne)).trans h.cell, ⟨fun i x hi => ?_, h.src.nil, h.src.some, h.src.room, h.src.max⟩, h.up⟩
  obtain ⟨g, o, e, hg, hc⟩ := h.src.lies i x hi
  have hn : g ≠ q := store_ne hq (hc 0 _ rfl)
  refine ⟨g, o, e, Nat.lt_of_lt_of_le hg hw.size, fun j v hj => ?_⟩
  rw [Wrote.cell hw (p := ⟨g, _, none⟩) hg (by simpa using hn)]
  exact hc j v hj
theorem keys_beside {X Y : World} {q : Nat} {a b : Option Addr} {cb : Nat} {l : List ByteArray} {M : List Ent} (h : LiesAt X a 1 strL l) (hq : StoreAt X q b cb M) (hw : Wrote [q] X Y) : LiesAt Y a 1 strL l := fun i x hi => by
  obtain ⟨g, o, e, hg, hc⟩ := h i x hi
  have hn : g ≠ q := store_ne hq (hc 0 _ rfl)
  refine ⟨g, o, e, Nat.lt_of_lt_of_le hg hw.size, fun j v hj => ?_⟩
  rw [Wrote.cell hw (p := ⟨g, _, none⟩) hg (by simpa using hn)]
  exact hc j v hj
/-- two stores of a law's own -/
structure TwoSt (w : World) (p1 p2 : Nat) (La Lb : List Ent) (X : World) : Prop where
  below : Below w.heap.size w X
  g1 : w.heap.size ≤ p1
  g2 : w.heap.size ≤ p2
  ne : p1 ≠ p2
  o1 : OfOK La
  o2 : OfOK Lb
  s1 : ∃ a cap, StoreAt X p1 a cap La
  s2 : ∃ a cap, StoreAt X p2 a cap Lb
section
variable {w X Y : World} {p1 p2 : Nat} {La Lb L' : List Ent}
theorem TwoSt.later (h : TwoSt w p1 p2 La Lb X) (hb : Below X.heap.size X Y) : TwoSt w p1 p2 La Lb Y := by
  obtain ⟨a, c, s1⟩ := h.s1
  obtain ⟨b, d, s2⟩ := h.s2
  exact ⟨bl_trans h.below hb, h.g1, h.g2, h.ne, h.o1, h.o2, ⟨a, c, s1.below hb⟩, ⟨b, d, s2.below hb⟩⟩
theorem TwoSt.put1 (h : TwoSt w p1 p2 La Lb X) (hw : Wrote [p1] X Y) (ho : OfOK L') (hs : ∃ a cap, StoreAt Y p1 a cap L') : TwoSt w p1 p2 L' Lb Y := by
  obtain ⟨a, c, s1⟩ := h.s1
  obtain ⟨b, d, s2⟩ := h.s2
  exact ⟨below_at h.below hw h.g1, h.g1, h.g2, h.ne, ho, h.o2, hs, ⟨b, d, store_beside s2 s1 (Ne.symm h.ne) hw⟩⟩
theorem TwoSt.put2 (h : TwoSt w p1 p2 La Lb X) (hw : Wrote [p2] X Y) (ho : OfOK L') (hs : ∃ a cap, StoreAt Y p2 a cap L') : TwoSt w p1 p2 La L' Y := by
  obtain ⟨a, c, s1⟩ := h.s1
  obtain ⟨b, d, s2⟩ := h.s2
  exact ⟨below_at h.below hw h.g2, h.g1, h.g2, h.ne, h.o1, ho, ⟨a, c, store_beside s1 s2 h.ne hw⟩, hs⟩
end
/-- two transactions' boxes, and their keys -/
structure TwoTx (X : World) (q1 : Nat) (cl1 num1 : Int) (ra1 : Option Addr) (rn1 rc1 : Nat) (wa1 : Option Addr) (wn1 wc1 : Nat) (q2 : Nat) (cl2 num2 : Int) (ra2 : Option Addr) (rn2 rc2 : Nat) (wa2 : Option Addr) (wn2 wc2 : Nat)
    (xa : Option Addr) (x : List ByteArray) (ya : Option Addr) (y : List ByteArray) : Prop where
  b1 : Box X q1 cl1 num1 ra1 rn1 rc1 wa1 wn1 wc1
  b2 : Box X q2 cl2 num2 ra2 rn2 rc2 wa2 wn2 wc2
  kx : LiesAt X xa 1 strL x
  ky : LiesAt X ya 1 strL y
section
variable {X Y : World} {q1 : Nat} {cl1 num1 : Int} {ra1 : Option Addr} {rn1 rc1 : Nat} {wa1 : Option Addr} {wn1 wc1 : Nat} {q2 : Nat} {cl2 num2 : Int} {ra2 : Option Addr} {rn2 rc2 : Nat} {wa2 : Option Addr} {wn2 wc2 : Nat} {xa : Option Addr} {x : List ByteArray} {ya : Option Addr} {y : List ByteArray}
theorem TwoTx.later (h : TwoTx X q1 cl1 num1 ra1 rn1 rc1 wa1 wn1 wc1 q2 cl2 num2 ra2 rn2 rc2 wa2 wn2 wc2 xa x ya y) (hb : Below X.heap.size X Y) : TwoTx Y q1 cl1 num1 ra1 rn1 rc1 wa1 wn1 wc1 q2 cl2 num2 ra2 rn2 rc2 wa2 wn2 wc2 xa x ya y :=
  ⟨h.b1.below hb, h.b2.below hb, h.kx.below hb, h.ky.below hb⟩
theorem TwoTx.put (h : TwoTx X q1 cl1 num1 ra1 rn1 rc1 wa1 wn1 wc1 q2 cl2 num2 ra2 rn2 rc2 wa2 wn2 wc2 xa x ya y) {p : Nat} {a : Option Addr} {cap : Nat} {L : List Ent} (hs : StoreAt X p a cap L) (hw : Wrote [p] X Y) : TwoTx Y q1 cl1 num1 ra1 rn1 rc1 wa1 wn1 wc1 q2 cl2 num2 ra2 rn2 rc2 wa2 wn2 wc2 xa x ya y :=
  ⟨h.b1.keepP hs hw, h.b2.keepP hs hw, keys_beside h.kx hs hw, keys_beside h.ky hs hw⟩
end
/-- what an Apply answered -/
def ErrS (L : List Ent) (M : List Wr) (L' : List Ent) (ev : Value) : Prop := (ev = .nilIface ∧ applyL L M = some L') ∨ ∃ T v, ev = .iface T v
theorem apply_errs {w : World} {p : Nat} {L : List Ent} {M : List Wr} {e : Ending} {w' : World} (h : ApL w p L M e w') : ∃ ev L', e = .returned ev ∧ ErrS L M L' ev ∧ OfOK L' ∧ Wrote [p] w w' ∧ ∃ a cap, StoreAt w' p a cap L' := by
  obtain ⟨hw, ⟨L', a, c, h1, rfl, ho, hs⟩ | ⟨h1, ⟨T, v, rfl⟩, L', a, c, ho, hs⟩⟩ := h
  · exact ⟨_, L', rfl, .inl ⟨rfl, h1⟩, ho, hw, a, c, hs⟩
  · exact ⟨_, L', rfl, .inr ⟨T, v, rfl⟩, ho, hw, a, c, hs⟩
set_option maxRecDepth 100000 in
set_option maxHeartbeats 1600000 in
theorem esame_any (ra rb : Option Addr) (ca cb n : Nat) (L : List Ent) (w : World) (hn : n = L.length) (ha : LiesAt w ra 3 entL L) (hb : LiesAt w rb 3 entL L) (hn9 : n ≤ 100000) :
    Calls Tryz.prog 20 #[.slice ra n ca, .slice rb n cb] w (BoolL w true) := by
  have HA := Lib.hid ha
  have HB := Lib.hid hb
  have HN := Lib.hid hn
  have hn8 : (n : Int) ≤ 100000 := by omega
  have P5 : Hid (Below w.heap.size w w) := Below.refl _ _
  clear ha hb hn hn9
  go_enter Tryz.func20, Tryz.ntmps20
  go_wp2_with fail
  go_loopw [5] (fun i W => ∃ m : Nat, m ≤ n ∧ i = .int .i64 m ∧ Hid (Below w.heap.size w W)) (fun i _ => n - (intOf i).toNat)
  case atStart => exact ⟨0, by omega, rfl, P5⟩
  case round =>
    clear P5
    obtain ⟨m, hm, rfl, HR⟩ := hrel
    by_cases hlt : m < n
    · obtain ⟨⟨k, u, z⟩, he⟩ : ∃ e, L[m]? = some e := ⟨_, List.getElem?_eq_getElem (by rw [← HN.out]; exact hlt)⟩
      obtain ⟨g, o, rfl, hg, hc⟩ := (HA.out.below HR.out) m _ he
      obtain ⟨g', o', rfl, hg', hc'⟩ := (HB.out.below HR.out) m _ he
      have d0 := hc 0 _ rfl
      have d1 := hc 1 _ rfl
      have d2 := hc 2 _ rfl
      have f0 := hc' 0 _ rfl
      have f1 := hc' 1 _ rfl
      have f2 := hc' 2 _ rfl
      simp only [Nat.add_zero] at d0 d1 d2 f0 f1 f2
      have hm0 : (0 : Int) ≤ (m : Int) := by omega
      have hm1 : (m : Int) < (n : Int) := by omega
      have HND : Hid (∀ nq, Below w.heap.size w (wr.drewN nq)) := fun nq => HR.out.trans ⟨rfl, rfl, rfl, by simp, fun _ _ => rfl⟩
      clear he hc hc' hg hg'
      go_wp2_with fail
      go_quiet (fail)
      go_wp2_with fail
      exact ⟨⟨m + 1, by omega, by simp, HND.out _⟩, by simp [intOf]; omega⟩
    · obtain rfl : m = n := by omega
      go_wp2_with fail
      go_ret
      exact ⟨rfl, HR.out⟩
set_option maxRecDepth 100000 in
set_option maxHeartbeats 1600000 in
theorem rhas_any (a : Option Addr) (c : Nat) (K : List ByteArray) (k : ByteArray) (w : World) (h : LiesAt w a 1 strL K) (hl : K.length ≤ 100000) :
    Calls Tryz.prog 19 #[.slice a K.length c, .string k] w fun e w' => e = .returned (.bool (hasB K k)) ∧ Below w.heap.size w w' := by
  have HL := Lib.hid h
  obtain ⟨n, hn⟩ : ∃ n, n = K.length := ⟨_, rfl⟩
  have HN := Lib.hid hn
  rw [← hn] at hl ⊢
  have hn9 : (n : Int) ≤ 100000 := by omega
  have P0 : Hid (Below w.heap.size w w ∧ ∀ (i : Nat) y, i < 0 → K[i]? = some y → y ≠ k) := ⟨Below.refl _ _, fun i y hi => by omega⟩
  obtain ⟨q, hq⟩ : ∃ q, q = hasB K k := ⟨_, rfl⟩
  rw [← hq]
  have HQ := Lib.hid hq
  clear h hn hl hq
  go_enter Tryz.func19, Tryz.ntmps19
  go_wp2_with fail
  go_loopw [5] (fun i W => ∃ j : Nat, j ≤ n ∧ i = .int .i64 j ∧ Hid (Below w.heap.size w W ∧ ∀ (i : Nat) y, i < j → K[i]? = some y → y ≠ k)) (fun i _ => n - (intOf i).toNat)
  case atStart => exact ⟨0, by omega, rfl, P0⟩
  case round =>
    clear P0
    obtain ⟨j, hj, rfl, HJ⟩ := hrel
    by_cases hlt : j < n
    · obtain ⟨x, hx⟩ : ∃ x, K[j]? = some x := ⟨_, List.getElem?_eq_getElem (by rw [← HN.out]; exact hlt)⟩
      obtain ⟨g, o, rfl, lg, d0⟩ := LiesAt.at1 (e := fun s => .string s) (HL.out.below HJ.out.1) hx
      have hj0 : (0 : Int) ≤ (j : Int) := by omega
      have hj1 : (j : Int) < (n : Int) := by omega
      have hjs : j + 1 ≤ n := hlt
      by_cases hk : x = k
      · have hkk : (x.toList == k.toList) = true := by rw [hk]; simp
        have HF : Hid (q = true) := by
          show _ = _
          rw [HQ.out]
          exact hasB_yes (by rw [← hk]; exact hx)
        clear hk hx lg hlt
        go_wp2_with fail
        go_ret
        exact ⟨by rw [HF.out]; rfl, HJ.out.1⟩
      · have hkk : (x.toList == k.toList) = false := key_ne hk
        have HNX : Hid (Below w.heap.size w wr ∧ ∀ (i : Nat) y, i < j + 1 → K[i]? = some y → y ≠ k) := ⟨HJ.out.1, fun i y hi hy => by
          rcases Nat.lt_or_ge i j with h | h
          · exact HJ.out.2 i y h hy
          · obtain rfl : i = j := by omega
            rw [hx] at hy
            cases hy
            exact hk⟩
        clear hk hx lg hlt
        go_wp2_with fail
        exact ⟨⟨j + 1, hjs, by simp, HNX⟩, by simp [intOf]; omega⟩
    · obtain rfl : j = n := by omega
      have HF : Hid (q = false) := by
        show _ = _
        rw [HQ.out]
        exact hasB_none fun i y hy => HJ.out.2 i y (by rw [HN.out]; exact (List.getElem?_eq_some_iff.1 hy).1) hy
      go_wp2_with fail
      go_ret
      exact ⟨by rw [HF.out]; rfl, HJ.out.1⟩
theorem range_lies {w w' : World} {R : List Ent} {e : Ending} (h : JoinLeft w R e w') : ∃ a c, e = .returned (.slice a R.length c) ∧ LiesAt w' a 3 entL R ∧ Below w.heap.size w w' := by
  obtain ⟨v, rfl, ho, hb⟩ := h
  obtain ⟨a', cap', rfl, _⟩ := row_form ho
  exact ⟨a', cap', rfl, (row_src ho rfl).lies, hb⟩
end Go.Proofs.YtaifmfnmgnmgbaaGreatDoor.Txn
