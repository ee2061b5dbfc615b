/- Merkle: Prove's closure, all parts. -/
import Derived.Test.YtlepjjcnlcnnfaaDoorMkDown
namespace Go.Proofs.YtlepjjcnlcnnfaaDoor.Merkle
open Go.RowKit Go.My

section
variable {w w0 w' w1 : World} {bB BB b m tb pb n0 f fin p c c' k n : Nat} {T T1 : List ByteArray} {sl : Value} {ds es1 : List Nat} {part l : List Ent} {e : Ending}
theorem DownT.le (h : DownT w bB BB b m tb pb T n0 f fin sl ds p part c e w') (hc : c ≤ c') : DownT w bB BB b m tb pb T n0 f fin sl ds p part c' e w' := by
  obtain ⟨h0, v', T', vB', es, h1, h2, h3, h4, h5⟩ := h
  exact ⟨h0, v', T', vB', es, h1, h2, h3, by omega, h5⟩
theorem DownT.from (h : DownT w0 bB BB b m tb pb T n0 f fin sl ds p part c e w') (hb : Below w.heap.size w w0) (hB : bB ≤ w.heap.size) : DownT w bB BB b m tb pb T n0 f fin sl ds p part c e w' := by
  obtain ⟨h0, v', T', vB', es, h1, h2, h3, h4, h5⟩ := h
  exact ⟨h0, v', T', vB', es, h1, h2, h3, h4, (Fx.of_below hb hB).fz.trans h5⟩
theorem DownT.node {p : Nat} {part : List Ent} (hap : apart p part.length f fin = false) (h2 : 2 ≤ part.length) (b1 : BesideAt enc T1 f fin p (part.take (half part.length)) es1) (x1 : Ext T T1) (k1 : T1.length ≤ T.length + c) (f1 : Fz bB BB pb w w1)
    (h : DownT w1 bB BB b m tb pb T1 n0 f fin sl (ds ++ es1) (p + half part.length) (part.drop (half part.length)) c' e w') : DownT w bB BB b m tb pb T n0 f fin sl ds p part (c + c') e w' := by
  obtain ⟨h0, v', T', vB', es, q1, q2, q3, q4, q5⟩ := h
  refine ⟨h0, v', T', vB', es1 ++ es, by rw [← List.append_assoc]; exact q1, .node p part es1 es hap h2 (b1.ext q3) q2, x1.trans q3, by omega, f1.trans q5⟩
end
set_option maxRecDepth 100000 in
set_option maxHeartbeats 6400000 in
theorem down_any (bB BB b m tb bt lb fb mb pb db : Nat) (a : Option Addr) (cap : Nat) (l : List Ent) (n0 f k : Nat) (sl : Value) (hg : ∀ x ∈ l, Good x) (hl : l.length ≤ 1024) (hcap : l.length ≤ cap) (hfk : f + k ≤ l.length)
    (hne : bt ≠ pb ∧ lb ≠ pb ∧ fb ≠ pb ∧ mb ≠ pb ∧ db ≠ pb) (hlt : fb < BB ∧ mb < BB) (hen : ∀ x o, a = some ⟨x, o, none⟩ → l ≠ [] → x ≠ pb ∧ x < BB) (n : Nat) :
    ∀ (p : Nat) (v : Value) (T : List ByteArray) (vB : Value) (ds : List Nat) (w : World), Cap w bB tb bt lb fb mb pb db a cap l f k → PrvSt w bB BB b m tb pb v T n0 f sl vB ds → p + n ≤ l.length → 1 ≤ n → T.length + 3 * n ≤ 55000 → ds.length + n ≤ 10000 →
    Calls Tryd.prog 20 #[.int .i64 (p : Int), .int .i64 (n : Int), .pointer (some ⟨fb, 0, none⟩), .pointer (some ⟨mb, 0, none⟩), .pointer (some ⟨pb, 0, none⟩), .pointer (some ⟨bt, 0, none⟩), .pointer (some ⟨lb, 0, none⟩), .pointer (some ⟨db, 0, none⟩)] w
      (DownT w bB BB b m tb pb T n0 f (f + k) sl ds p ((l.drop p).take n) (3 * n)) := by
  induction n using Nat.strongRecOn with
  | ind n ih =>
    intro p v T vB ds w hc hs hpn h1 hT hds
    cases ha : apart p n f (f + k) with
    | true => exact (down_apart bB BB b m tb bt lb fb mb pb db v T a cap l n0 f k p n sl vB ds w hc hs hg hl hcap hpn h1 hfk ha (by omega) (by omega)).mono fun e w' q => q.le (by omega)
    | false =>
      have hA := fun W => apart_any p n f (f + k) W (by omega) (by omega) (by omega) (by omega)
      rw [ha, show ((f + k : Nat) : Int) = (f : Int) + (k : Int) by omega] at hA
      have HA := Lib.hid hA
      have c2 := one_cell hc.hfb
      have c3 := one_cell hc.hmb
      have i3 : (f : Int) + (k : Int) ≤ 1024 := by omega
      rcases Nat.lt_or_ge n 2 with hn | hn
      · have hn1 : n = 1 := by omega
        subst hn1
        obtain ⟨x, hx⟩ : ∃ x, l[p]? = some x := ⟨_, List.getElem?_eq_getElem (by omega)⟩
        have HE : Hid (DownT w bB BB b m tb pb T n0 f (f + k) sl ds p ((l.drop p).take 1) (3 * 1) (.returned (.tuple #[])) w) := by
          refine ⟨rfl, v, T, vB, [], by rw [List.append_nil]; exact hs, ?_, Ext.refl _, by omega, (Fx.refl _ _).fz⟩
          rw [part_one l p x hx]
          exact .leaf p x ha
        clear ih hc hs ha hA hx
        go_enter Tryd.func20, Tryd.ntmps20
        go_wp2_with (go_at_call 21; refine (HA.out _).mono ?_; rintro e w1 ⟨rfl, rfl⟩)
        go_end0
        exact HE.out
      · have hhl := half_lt hn
        have hhp := half_pos n
        have HH := Lib.hid (fun W => half_any n W hn (by omega))
        have hpl := part_len l p n hpn
        obtain ⟨s1, s2⟩ := part_split l p n (half n) (by omega)
        have c4 := one_cell hc.hdb
        have hX := ih (half n) hhl p v T vB ds w.drew (hc.keep (Fx.of_below (drew_below w) hs.tr.le).fz hne hlt hen) (hs.fx (Fx.of_below (drew_below w) hs.tr.le) (hs.tr.below (drew_below w))) (by omega) hhp (by omega) (by omega)
        have HX : Hid (Calls Tryd.prog 20 #[.int .i64 (p : Int), .int .i64 ((half n : Nat) : Int), .pointer (some ⟨fb, 0, none⟩), .pointer (some ⟨mb, 0, none⟩), .pointer (some ⟨pb, 0, none⟩), .pointer (some ⟨bt, 0, none⟩), .pointer (some ⟨lb, 0, none⟩), .pointer (some ⟨db, 0, none⟩)] w.drew
            (DownT w bB BB b m tb pb T n0 f (f + k) sl ds p ((l.drop p).take (half n)) (3 * half n))) := hX.mono fun e w' q => q.from (drew_below w) hs.tr.le
        have HY : Hid (∀ (v1 : Value) (T1 : List ByteArray) (vB1 : Value) (es1 : List Nat) (w1 : World), PrvSt w1 bB BB b m tb pb v1 T1 n0 f sl vB1 (ds ++ es1) → BesideAt enc T1 f (f + k) p ((l.drop p).take (half n)) es1 → Ext T T1 → T1.length ≤ T.length + 3 * half n → Fz bB BB pb w w1 →
            w1.cell? ⟨db, 0, none⟩ = some (downV fb mb pb bt lb db) ∧ Calls Tryd.prog 20 #[.int .i64 ((p + half n : Nat) : Int), .int .i64 ((n - half n : Nat) : Int), .pointer (some ⟨fb, 0, none⟩), .pointer (some ⟨mb, 0, none⟩), .pointer (some ⟨pb, 0, none⟩), .pointer (some ⟨bt, 0, none⟩), .pointer (some ⟨lb, 0, none⟩), .pointer (some ⟨db, 0, none⟩)] w1.drew
            (DownT w bB BB b m tb pb T n0 f (f + k) sl ds p ((l.drop p).take n) (3 * n))) := by
          intro v1 T1 vB1 es1 w1 q1 q2 q3 q4 q5
          have hc1 := hc.keep q5 hne hlt hen
          have hel : es1.length ≤ half n := by
            rw [q2.len, List.length_take, List.length_drop]
            exact Nat.le_trans (parts_le _ _ _ _ (by omega)) (Nat.min_le_left _ _)
          refine ⟨one_cell hc1.hdb, (ih (n - half n) (by omega) (p + half n) v1 T1 vB1 (ds ++ es1) w1.drew (hc1.keep (Fx.of_below (drew_below w1) q1.tr.le).fz hne hlt hen) (q1.fx (Fx.of_below (drew_below w1) q1.tr.le) (q1.tr.below (drew_below w1))) (by omega) (by omega) (by omega) (by rw [List.length_append]; omega)).mono fun e w' q => ?_⟩
          have hq := q.from (drew_below w1) q1.tr.le
          rw [← s2] at hq
          rw [← s1] at q2
          have hfin := DownT.node (p := p) (part := (l.drop p).take n) (c := 3 * half n) (by rw [hpl]; exact ha) (by omega) (by rw [hpl]; exact q2) q3 q4 q5 (by rw [hpl]; exact hq)
          exact hfin.le (by omega)
        obtain ⟨kk, hkk⟩ : ∃ q, q = half n := ⟨_, rfl⟩
        rw [← hkk] at hhl hhp HH HX HY
        have e1 : ((p + kk : Nat) : Int) = (p : Int) + (kk : Int) := by omega
        have e2 : ((n - kk : Nat) : Int) = (n : Int) - (kk : Int) := by omega
        rw [e1, e2] at HY
        have i1 : (n : Int) ≤ 1024 := by omega
        have i2 : (kk : Int) < (n : Int) := by omega
        have i4 : (p : Int) ≤ 1024 := by omega
        have i5 : (1 : Int) < (n : Int) := by omega
        have w1 : IntKind.i64.wrap ((p : Int) + (kk : Int)) = (p : Int) + (kk : Int) := IntWalk.i64_in _ (by omega)
        have w2 : IntKind.i64.wrap ((n : Int) - (kk : Int)) = (n : Int) - (kk : Int) := IntWalk.i64_in _ (by omega)
        unfold downV at c4
        clear ih hc hs hpn h1 hT hds ha hA hX hpl s1 s2 hkk e1 e2
        go_enter Tryd.func20, Tryd.ntmps20
        go_wp2_with (go_at_call 21; refine (HA.out _).mono ?_; rintro e w1 ⟨rfl, rfl⟩)
        refine wp_region_tail 4 (by kernel_rfl) (by kernel_rfl) ?_
        simp only [List.take_succ_cons, List.take_zero, List.drop_succ_cons, List.drop_zero]
        still_step
        still_step
        still_step
        still_call ((HH.out _).mono fun _ _ h => ⟨h.1, h.2.symm⟩)
        refine wpStill_nil ?_
        go_wp2_with fail
        refine HX.out.mono ?_
        rintro e w1 ⟨rfl, v1, T1, vB1, es1, q1, q2, q3, q4, q5⟩
        obtain ⟨d4, hd⟩ := HY.out v1 T1 vB1 es1 w1 q1 q2 q3 q4 q5
        have HD := Lib.hid hd
        unfold downV at d4
        clear q1 q2 q3 q4 q5 hd
        go_wp2_with fail
        refine wp_region_tail 9 (by kernel_rfl) (by kernel_rfl) ?_
        simp only [List.take_succ_cons, List.take_zero, List.drop_succ_cons, List.drop_zero]
        still_step
        still_step
        still_step
        still_call ((HH.out _).mono fun _ _ h => ⟨h.1, h.2.symm⟩)
        still_step
        still_step
        still_step
        still_call ((HH.out _).mono fun _ _ h => ⟨h.1, h.2.symm⟩)
        still_step
        refine wpStill_nil ?_
        go_wp2_with fail
        refine HD.out.mono ?_
        rintro e w3 hq
        have HE := Lib.hid hq
        obtain ⟨rfl, _⟩ := hq
        go_wp2_with fail
        go_end0
        exact HE.out
set_option maxRecDepth 100000 in
set_option maxHeartbeats 3200000 in
theorem down_none (bB BB b m tb bt lb fb mb pb db : Nat) (v : Value) (T : List ByteArray) (a : Option Addr) (cap : Nat) (n0 : Nat) (sl vB : Value) (ds : List Nat) (w : World) (hc : Cap w bB tb bt lb fb mb pb db a cap [] 0 0) (hs : PrvSt w bB BB b m tb pb v T n0 0 sl vB ds)
    (hT : T.length ≤ 55000) (hds : ds.length ≤ 10000) :
    Calls Tryd.prog 20 #[.int .i64 0, .int .i64 0, .pointer (some ⟨fb, 0, none⟩), .pointer (some ⟨mb, 0, none⟩), .pointer (some ⟨pb, 0, none⟩), .pointer (some ⟨bt, 0, none⟩), .pointer (some ⟨lb, 0, none⟩), .pointer (some ⟨db, 0, none⟩)] w
      (DownT w bB BB b m tb pb T n0 0 (0 + 0) sl ds 0 [] 1) := by
  have hA := fun W => apart_any 0 0 0 0 W (by omega) (by omega) (by omega) (by omega)
  rw [show apart 0 0 0 0 = true from rfl, show ((0 : Nat) : Int) = 0 from rfl] at hA
  have HA := Lib.hid hA
  have HTP : Hid (∀ (a' : Option Addr) (c' : Nat), Calls Tryd.prog 18 #[.pointer (some ⟨tb, 0, none⟩), .slice a' 0 c'] w.drew (TopT w bB b m tb T [] 1)) := fun a' c' =>
    (top_any bB b m tb v T a' c' [] w.drew (hs.tr.below (drew_below w)) ⟨LiesAt.nil _ _ _ _, fun _ _ _ h => absurd rfl h⟩ (fun y hy => by cases hy) (by simp) (by simp; omega)).mono fun e w' q => q.from (drew_below w) hs.tr.le (Nat.le_refl _)
  have c0 := one_cell hc.hbt
  have c1 := one_cell hc.hlb
  have c2 := one_cell hc.hfb
  have c3 := one_cell hc.hmb
  have c4 : w.cell? ⟨pb, 3, none⟩ = some vB := by rw [cell_of_row _ _ _ _ _ _ hs.box]; rfl
  have wz : IntKind.i64.wrap 0 = 0 := by decide
  have cz : (0 : Int) ≤ (cap : Int) := by omega
  clear hA
  go_enter Tryd.func20, Tryd.ntmps20
  go_wp2_with (go_at_call 21; refine (HA.out _).mono ?_; rintro e w1 ⟨rfl, rfl⟩)
  obtain ⟨va, vc, rfl⟩ := row_slice hs.row
  obtain ⟨dn, hdn⟩ : ∃ q, q = ds.length := ⟨_, rfl⟩
  have HDN := Lib.hid hdn
  rw [← hdn] at c4 hds
  have HSB := Lib.hid hs
  obtain ⟨i0, hi0, hz0, hz1, hz2⟩ := info_parts int_info
  have HI := Lib.hid hi0
  have HZ := Lib.hid hz0
  have HS := Lib.hid hz1
  have HY := Lib.hid hz2
  have HRW : Hid (∀ w1, Fx bB w w1 → w1.ownsRow BB 3 1 (.slice va dn vc) dn (ds.map iv)) := fun w1 q => by rw [hdn]; exact row_fx hs.row q fun _ _ => rfl
  have HBXK : Hid (∀ w1, Fx bB w w1 → w1.heap[pb]? = some (.cells #[.int .i64 (n0 : Int), .int .i64 ((0 : Nat) : Int), sl, .slice va dn vc] 25 (0, 0))) := fun w1 q => by rw [hdn]; exact q.kept _ _ hs.box rfl
  have HEND : Hid (∀ (v1 : Value) (T1 : List ByteArray) (d gg capp : Nat) (w1 w2 : World) (ob : Obj), (TrAt w1 bB b m v1 T1 tb ∧ Ext T T1 ∧ TopAt enc T1 [] d ∧ T1.length ≤ T.length + 1 ∧ Fx bB w w1) → (w1.alloc ob).grownBy w2 (Value.slice va dn vc).ownBlock →
      w2.ownsRow BB 3 1 (.slice (some ⟨gg, 0, none⟩) (dn + 1) capp) (dn + 1) (ds.map iv ++ [.int .i64 (d : Int)]) → DownT w bB BB b m tb pb T n0 0 (0 + 0) sl ds 0 [] 1 (.returned (.tuple #[])) (w2.setCell ⟨pb, 3, none⟩ (.slice (some ⟨gg, 0, none⟩) (dn + 1) capp))) := by
    rintro v1 T1 d gg capp w1 w2 ob ⟨q1, q2, q3, q4, q5⟩ hgr hown
    rw [hdn] at hgr hown ⊢
    obtain ⟨e1, e2⟩ := (hs.fx q5 q1).push hgr hown
    exact ⟨rfl, v1, T1, _, [d], e1, .apart 0 [] d rfl q3, q2, q4, q5.fz.trans e2⟩
  clear hc hs hi0 hz0 hz1 hz2 hdn
  go_region_law ((first
    | (go_simp; go_at_call 18; refine (HTP.out _ _).mono ?_; rintro e w1 ⟨v1, T1, d, rfl, q2, x2, t2, k2, f2⟩; have HQ := Lib.hid (And.intro q2 (And.intro x2 (And.intro t2 (And.intro k2 f2)))); have hbx1 := HBXK.out _ f2; have c4 : w1.cell? ⟨pb, 3, none⟩ = some (.slice va dn vc) := (by rw [cell_of_row _ _ _ _ _ _ hbx1]; rfl); have lp1 := lt_of_heap hbx1; have HBX1 := Lib.hid hbx1; have HR1 := Lib.hid (HRW.out _ f2); have HS1 := Lib.hid f2.size; clear q2 x2 t2 k2 f2 hbx1; (try dsimp only))
    | (refine step_append_lies _ (by rfl) _ _ _ (by rfl) BB 3 i0 _ 1 8 Tryd.underlying23 HI.out HZ.out HS.out HY.out rfl (by omega) (.slice va dn vc) dn (ds.map iv) (by rfl) (HR1.out.alloc _)
        ⟨w1.heap.size, 0, none⟩ 1 1 [.int .i64 (d : Int)] (by rfl) (by rfl) (World.news_of_block (cs := #[.int .i64 (d : Int)]) (t := 3) (fr := (0, 0)) (heap_alloc_new w1 _)) (by simp [Value.oneCell'])
        (by omega) (by unfold maxLen; omega) (by omega) (by have := HSB.out.le2; have := HS1.out; simp; omega) (w1.heap.size + 1) (by simp) ?_; intro gg capp w2 hown1 hgrow hat hlt; have HO := Lib.hid hown1; have HG := Lib.hid hgrow; have hbx2 := push_box HBX1.out HR1.out hgrow; have e0 : w2.cell? ⟨pb, 3, none⟩ = some (.slice va dn vc) := (by rw [cell_of_row _ _ _ _ _ _ hbx2]; rfl); have f2 : w2.frozen? ⟨pb, 3, none⟩ = false := (by unfold World.frozen?; rw [hbx2]; rfl); clear hown1 hgrow hat hbx2)))
  all_goals go_wp2_with fail
  all_goals go_end0
  all_goals exact HEND.out _ _ _ _ _ _ _ _ HQ.out HG.out HO.out
end Go.Proofs.YtlepjjcnlcnnfaaDoor.Merkle
