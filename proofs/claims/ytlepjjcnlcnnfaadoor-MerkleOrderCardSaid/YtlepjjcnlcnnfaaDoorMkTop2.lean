/- Merkle: the top of leaves, by the fold; the whole top. -/
import Derived.Test.YtlepjjcnlcnnfaaDoorMkTop
namespace Go.Proofs.YtlepjjcnlcnnfaaDoor.Merkle
open Go.RowKit Go.My

theorem part_split (l : List Ent) (p n k : Nat) (hk : k ≤ n) : ((l.drop p).take n).take k = (l.drop p).take k ∧ ((l.drop p).take n).drop k = (l.drop (p + k)).take (n - k) := by
  refine ⟨by rw [List.take_take, Nat.min_eq_left hk], ?_⟩
  rw [List.drop_take, List.drop_drop]
theorem part_len (l : List Ent) (p n : Nat) (h : p + n ≤ l.length) : ((l.drop p).take n).length = n := by rw [List.length_take, List.length_drop]; omega
theorem part_one (l : List Ent) (p : Nat) (x : Ent) (h : l[p]? = some x) : (l.drop p).take 1 = [x] := by
  obtain ⟨h1, h2⟩ := List.getElem?_eq_some_iff.1 h
  rw [List.drop_eq_getElem_cons h1, h2]
  simp
theorem TopT.node {w w1 w2 w3 : World} {bB b m tb : Nat} {T T1 T2 : List ByteArray} {l : List Ent} {p n d1 d2 : Nat} {e : Ending} (hn : 2 ≤ n) (hpn : p + n ≤ l.length) (f1 : Fx bB w w1) (f2 : Fx bB w1 w2) (x1 : Ext T T1) (x2 : Ext T1 T2)
    (t1 : TopAt enc T1 ((l.drop p).take (half n)) d1) (t2 : TopAt enc T2 ((l.drop (p + half n)).take (n - half n)) d2) (k1 : T1.length ≤ T.length + 2 * half n - 1) (k2 : T2.length ≤ T1.length + (2 * (n - half n) - 1))
    (h : DigT w2 bB b m tb T2 (nodeT d1 d2) e w3) : TopT w bB b m tb T ((l.drop p).take n) (2 * n - 1) e w3 := by
  obtain ⟨v', T', d, h1, h2, h3, h4, h5, h6⟩ := h
  have hl := half_lt hn
  have hp := half_pos n
  obtain ⟨s1, s2⟩ := part_split l p n (half n) (by omega)
  have hlen := part_len l p n hpn
  refine ⟨v', T', d, h1, h2, (x1.trans x2).trans h3, ?_, by omega, (f1.trans f2).trans h6⟩
  refine .node _ d d1 d2 (by omega) ?_ ?_ h4
  · rw [hlen, s1]
    exact t1.ext (x2.trans h3)
  · rw [hlen, s2]
    exact t2.ext h3
set_option maxRecDepth 100000 in
set_option maxHeartbeats 1600000 in
theorem topfold_any (bB b m tb bt lb : Nat) (a : Option Addr) (cap : Nat) (l : List Ent) (hg : ∀ x ∈ l, Good x) (hll : l.length ≤ 2000) (n : Nat) : ∀ (p : Nat) (v : Value) (T : List ByteArray) (w : World), TrAt w bB b m v T tb →
    w.heap[bt]? = some (.cells #[.pointer (some ⟨tb, 0, none⟩)] 51 (0, 0)) → w.heap[lb]? = some (.cells #[.slice a l.length cap] 22 (0, 0)) → EntsAt w bB a l → p + n ≤ l.length → 1 ≤ n → T.length + 2 * n ≤ 60000 →
    Calls Tryd.prog 25 #[.pointer (some ⟨tb, 0, none⟩), .int .i64 (p : Int), .int .i64 (n : Int), .func (.func 32) #[] #[.pointer (some ⟨bt, 0, none⟩)], .func (.func 33) #[] #[.pointer (some ⟨bt, 0, none⟩), .pointer (some ⟨lb, 0, none⟩)]] w
      (TopT w bB b m tb T ((l.drop p).take n) (2 * n - 1)) := by
  induction n using Nat.strongRecOn with
  | ind n ih =>
    intro p v T w h hbt hbl he hpn h1 hT
    have HW := Lib.hid (top1_pos (n : Int) (p : Int) bt w (by omega))
    rcases Nat.lt_or_ge n 2 with hn | hn
    · have hn1 : n = 1 := by omega
      subst hn1
      obtain ⟨x, hx⟩ : ∃ x, l[p]? = some x := ⟨_, List.getElem?_eq_getElem (by omega)⟩
      have hL := top2_any bB b m tb bt lb p v T a cap l x w h hbt hbl he hx (hg x (List.mem_of_getElem? hx)) (by omega)
      have HL := Lib.hid hL
      have HP : Hid ((l.drop p).take 1 = [x]) := part_one l p x hx
      clear ih h hbt hbl he hx hL
      go_enter Tryd.func25, Tryd.ntmps25
      go_wp2_with (go_at_call 32; refine HW.out.mono ?_; rintro e w1 ⟨rfl, rfl⟩)
      refine HL.out.mono ?_
      rintro e w1 hd
      have HE : Hid (TopT w bB b m tb T ((l.drop p).take 1) (2 * 1 - 1) e w1) := by rw [HP.out]; exact hd.leaf
      obtain ⟨_, _, d, rfl, _⟩ := hd
      go_wp2_with fail
      go_ret
      exact HE.out
    · have hl := half_lt hn
      have hp := half_pos n
      have HH := Lib.hid (fun W => half_any n W hn (by omega))
      have HX := Lib.hid (ih (half n) hl p v T w h hbt hbl he (by omega) hp (by omega))
      have HY : Hid (∀ (v1 : Value) (T1 : List ByteArray) (w1 : World), TrAt w1 bB b m v1 T1 tb → Fx bB w w1 → T1.length ≤ T.length + (2 * half n - 1) → Calls Tryd.prog 25 #[.pointer (some ⟨tb, 0, none⟩), .int .i64 ((p + half n : Nat) : Int), .int .i64 ((n - half n : Nat) : Int), .func (.func 32) #[] #[.pointer (some ⟨bt, 0, none⟩)], .func (.func 33) #[] #[.pointer (some ⟨bt, 0, none⟩), .pointer (some ⟨lb, 0, none⟩)]] w1
          (TopT w1 bB b m tb T1 ((l.drop (p + half n)).take (n - half n)) (2 * (n - half n) - 1))) :=
        fun v1 T1 w1 q1 q2 q3 => ih (n - half n) (by omega) (p + half n) v1 T1 w1 q1 (q2.kept _ _ hbt rfl) (q2.kept _ _ hbl rfl) (he.keep q2) (by omega) (by omega) (by omega)
      have HFIN : Hid (∀ (w1 w2 w3 : World) (T1 T2 : List ByteArray) (d1 d2 : Nat) (e : Ending), Fx bB w w1 → Fx bB w1 w2 → Ext T T1 → Ext T1 T2 → TopAt enc T1 ((l.drop p).take (half n)) d1 → TopAt enc T2 ((l.drop (p + half n)).take (n - half n)) d2 → T1.length ≤ T.length + (2 * half n - 1) → T2.length ≤ T1.length + (2 * (n - half n) - 1) → DigT w2 bB b m tb T2 (nodeT d1 d2) e w3 → TopT w bB b m tb T ((l.drop p).take n) (2 * n - 1) e w3) :=
        fun w1 w2 w3 T1 T2 d1 d2 e f1 f2 x1 x2 t1 t2 k1 k2 hd => TopT.node hn hpn f1 f2 x1 x2 t1 t2 (by omega) k2 hd
      have HTL : Hid (∀ T1 T2 : List ByteArray, T1.length ≤ T.length + (2 * half n - 1) → T2.length ≤ T1.length + (2 * (n - half n) - 1) → T2.length < 65536) := fun T1 T2 q1 q2 => by omega
      obtain ⟨k, hk⟩ : ∃ k, k = half n := ⟨_, rfl⟩
      rw [← hk] at hl hp HH HX HY HFIN HTL
      obtain ⟨q, hq⟩ : ∃ q, q = n - k := ⟨_, rfl⟩
      rw [← hq] at HY HFIN HTL
      have e1 : ((p + k : Nat) : Int) = (p : Int) + (k : Int) := by omega
      have e2 : ((q : Nat) : Int) = (n : Int) - (k : Int) := by omega
      rw [e1, e2] at HY
      have i1 : (n : Int) ≤ 2000 := by omega
      have i2 : (k : Int) < (n : Int) := by omega
      have i3 : (p : Int) ≤ 2000 := by omega
      have i4 : ((n : Int) == 1) = false := by simp; omega
      clear ih h hbt hbl he hpn h1 hT hk hq e1 e2
      go_enter Tryd.func25, Tryd.ntmps25
      go_wp2_with (go_at_call 32; refine HW.out.mono ?_; rintro e w1 ⟨rfl, rfl⟩)
      refine (HH.out _).mono ?_
      rintro e w1 ⟨rfl, rfl⟩
      go_wp2_with fail
      refine HX.out.mono ?_
      rintro e w1 ⟨v1, T1, d1, rfl, q1, x1, t1, k1, f1⟩
      have HC := Lib.hid (HY.out v1 T1 w1 q1 f1 k1)
      have HQ1 := Lib.hid (And.intro f1 (And.intro x1 (And.intro t1 k1)))
      clear q1 x1 t1 k1 f1 HX HY
      go_wp2_with fail
      refine HC.out.mono ?_
      rintro e w2 ⟨v2, T2, d2, rfl, q2, x2, t2, k2, f2⟩
      have HN := Lib.hid (node_any bB b m tb v2 T2 d1 d2 w2 q2 (HTL.out T1 T2 HQ1.out.2.2.2 k2))
      have HQ2 := Lib.hid (And.intro f2 (And.intro x2 (And.intro t2 k2)))
      clear q2 x2 t2 k2 f2 HC
      go_wp2_with fail
      refine HN.out.mono ?_
      rintro e w3 hd
      have HE := Lib.hid (HFIN.out w1 w2 w3 T1 T2 d1 d2 e HQ1.out.1 HQ2.out.1 HQ1.out.2.1 HQ2.out.2.1 HQ1.out.2.2.1 HQ2.out.2.2.1 HQ1.out.2.2.2 HQ2.out.2.2.2 hd)
      obtain ⟨_, _, d, rfl, _⟩ := hd
      go_wp2_with fail
      go_ret
      exact HE.out
set_option maxRecDepth 100000 in
theorem topfold_none (bB b m tb bt lb : Nat) (v : Value) (T : List ByteArray) (w : World) (h : TrAt w bB b m v T tb) (hbt : w.heap[bt]? = some (.cells #[.pointer (some ⟨tb, 0, none⟩)] 51 (0, 0))) (hT : T.length < 65536) :
    Calls Tryd.prog 25 #[.pointer (some ⟨tb, 0, none⟩), .int .i64 0, .int .i64 0, .func (.func 32) #[] #[.pointer (some ⟨bt, 0, none⟩)], .func (.func 33) #[] #[.pointer (some ⟨bt, 0, none⟩), .pointer (some ⟨lb, 0, none⟩)]] w
      (TopT w bB b m tb T [] 1) := by
  have HN := Lib.hid (top1_none bB b m tb bt 0 v T w h hbt hT)
  clear h hbt
  go_enter Tryd.func25, Tryd.ntmps25
  go_wp2_with fail
  refine HN.out.mono ?_
  rintro e w1 ⟨d, rfl, ht⟩
  have HE := Lib.hid ht
  clear ht
  go_wp2_with fail
  go_ret
  exact HE.out
theorem TopT.from {w w0 w' : World} {bB b m tb : Nat} {T : List ByteArray} {l : List Ent} {k j : Nat} {e : Ending} (h : TopT w0 bB b m tb T l k e w') (hb : Below w.heap.size w w0) (hB : bB ≤ w.heap.size) (hk : k ≤ j) : TopT w bB b m tb T l j e w' := by
  obtain ⟨v', T', d, h1, h2, h3, h4, h5, h6⟩ := h
  exact ⟨v', T', d, h1, h2, h3, h4, by omega, (Fx.of_below hb hB).trans h6⟩
set_option maxRecDepth 100000 in
set_option maxHeartbeats 800000 in
theorem top_any (bB b m tb : Nat) (v : Value) (T : List ByteArray) (a : Option Addr) (cap : Nat) (l : List Ent) (w : World) (h : TrAt w bB b m v T tb) (he : EntsAt w bB a l) (hg : ∀ x ∈ l, Good x) (hll : l.length ≤ 2000) (hT : T.length + 2 * l.length ≤ 60000) :
    Calls Tryd.prog 18 #[.pointer (some ⟨tb, 0, none⟩), .slice a l.length cap] w (TopT w bB b m tb T l (2 * l.length + 1)) := by
  obtain ⟨w0, hw0⟩ : ∃ W : World, W = (w.alloc (.cells #[.pointer (some ⟨tb, 0, none⟩)] 51)).alloc (.cells #[.slice a l.length cap] 22) := ⟨_, rfl⟩
  have hb : Below w.heap.size w w0 := by rw [hw0]; exact ((Below.refl _ _).alloc (Nat.le_refl _) _).alloc (by simp) _
  have hbt : w0.heap[w.heap.size]? = some (.cells #[.pointer (some ⟨tb, 0, none⟩)] 51 (0, 0)) := by rw [hw0, heap_alloc_old _ _ (by simp)]; exact heap_alloc_new w _
  have hbl : w0.heap[w.heap.size + 1]? = some (.cells #[.slice a l.length cap] 22 (0, 0)) := by
    rw [hw0]
    have := heap_alloc_new (w.alloc (.cells #[.pointer (some ⟨tb, 0, none⟩)] 51)) (.cells #[.slice a l.length cap] 22)
    simpa using this
  have c0 := one_cell hbt
  have c1 := one_cell hbl
  have hF : Calls Tryd.prog 25 #[.pointer (some ⟨tb, 0, none⟩), .int .i64 0, .int .i64 (l.length : Int), .func (.func 32) #[] #[.pointer (some ⟨w.heap.size, 0, none⟩)], .func (.func 33) #[] #[.pointer (some ⟨w.heap.size, 0, none⟩), .pointer (some ⟨w.heap.size + 1, 0, none⟩)]] w0
      (TopT w bB b m tb T l (2 * l.length + 1)) := by
    rcases Nat.lt_or_ge 0 l.length with h0 | h0
    · have := topfold_any bB b m tb w.heap.size (w.heap.size + 1) a cap l hg hll l.length 0 v T w0 (h.below hb) hbt hbl (he.below hb h.le) (by omega) h0 hT
      rw [List.drop_zero, List.take_length] at this
      exact this.mono fun e w' q => q.from hb h.le (by omega)
    · have e : l = [] := List.length_eq_zero_iff.1 (by omega)
      subst e
      exact (topfold_none bB b m tb w.heap.size (w.heap.size + 1) v T w0 (h.below hb) hbt (by omega)).mono fun e w' q => q.from hb h.le (by omega)
  have HF := Lib.hid hF
  obtain ⟨n, hn⟩ : ∃ n, n = l.length := ⟨_, rfl⟩
  rw [← hn] at HF c1 hw0 ⊢
  obtain ⟨bt, hbt2⟩ : ∃ k, k = w.heap.size := ⟨_, rfl⟩
  rw [← hbt2] at HF c0 c1
  have HW : Hid ((w.alloc (.cells #[.pointer (some ⟨tb, 0, none⟩)] 51)).alloc (.cells #[.slice a n cap] 22) = w0 ∧ w.heap.size = bt) := ⟨hw0.symm, hbt2.symm⟩
  clear h he hg hll hT hw0 hb hbt hbl hF hn hbt2
  go_enter Tryd.func18, Tryd.ntmps18
  go_upto_region 1 with fail
  rw [HW.out.1, HW.out.2]
  go_wp2_with fail
  refine HF.out.mono ?_
  rintro e w1 hd
  have HE := Lib.hid hd
  obtain ⟨_, _, d, rfl, _⟩ := hd
  go_wp2_with fail
  go_ret
  exact HE.out
end Go.Proofs.YtlepjjcnlcnnfaaDoor.Merkle
