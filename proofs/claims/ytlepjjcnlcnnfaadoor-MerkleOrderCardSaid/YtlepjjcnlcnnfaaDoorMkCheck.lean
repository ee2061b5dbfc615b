/- Merkle: what a proof makes, by the fold. -/
import Derived.Test.YtlepjjcnlcnnfaaDoorMkShaped
namespace Go.Proofs.YtlepjjcnlcnnfaaDoor.Merkle
open Go.RowKit Go.My

def numN (x : Nat) : List Value := [.int .i64 (x : Int)]
/-- all but one block is as a digest leaves it -/
structure Fy (bB rb : Nat) (w w' : World) : Prop where
  below : Below bB w w'
  kept : ∀ (k : Nat) (o : Obj), k ≠ rb → w.heap[k]? = some o → Kd o = false → w'.heap[k]? = some o
/-- what is left of the tops beside, in a variable -/
structure RestAt (w : World) (bB rb : Nat) (r : List Nat) : Prop where
  ex : ∃ a cap, w.heap[rb]? = some (.cells #[.slice a r.length cap] 23 (0, 0)) ∧ r.length ≤ cap ∧ LiesAt w a 1 numN r ∧ ∀ g o, a = some ⟨g, o, none⟩ → r ≠ [] → Safe bB w g ∧ g ≠ rb
  lim : ∀ x ∈ r, x < 9223372036854775808
  bB : bB ≤ rb
section
variable {w w' w'' : World} {bB rb : Nat} {r : List Nat}
theorem Fx.fy (h : Fx bB w w') : Fy bB rb w w' := ⟨h.below, fun k o _ hk ho => h.kept k o hk ho⟩
theorem Fy.trans (h : Fy bB rb w w') (k : Fy bB rb w' w'') : Fy bB rb w w'' := ⟨h.below.trans k.below, fun j _ hn hj ho => k.kept j _ hn (h.kept j _ hn hj ho) ho⟩
theorem Fy.refl (bB rb : Nat) (w : World) : Fy bB rb w w := (Fx.refl bB w).fy
theorem Fy.size (h : Fy bB rb w w') : w.heap.size ≤ w'.heap.size := h.below.size
theorem Safe.fy {g : Nat} (h : Safe bB w g) (hn : g ≠ rb) (f : Fy bB rb w w') : w'.heap[g]? = w.heap[g]? := by
  rcases h.2 with h1 | ⟨o, h1, h2⟩
  · exact f.below.block g h1
  · rw [f.kept g o hn h1 h2, h1]
theorem Safe.keepY {g : Nat} (h : Safe bB w g) (hn : g ≠ rb) (f : Fy bB rb w w') : Safe bB w' g := by
  refine ⟨Nat.lt_of_lt_of_le h.1 f.size, h.2.imp_right ?_⟩
  rintro ⟨o, h1, h2⟩
  exact ⟨o, f.kept g o hn h1 h2, h2⟩
/-- entries that lie elsewhere -/
structure EntsY (w : World) (bB rb : Nat) (a : Option Addr) (l : List Ent) : Prop where
  ents : EntsAt w bB a l
  ne : ∀ g o, a = some ⟨g, o, none⟩ → l ≠ [] → g ≠ rb
theorem EntsY.keep {a : Option Addr} {l : List Ent} (h : EntsY w bB rb a l) (f : Fy bB rb w w') : EntsY w' bB rb a l := by
  refine ⟨⟨fun i x hi => ?_, fun g o e hne => (h.ents.safe g o e hne).keepY (h.ne g o e hne) f⟩, h.ne⟩
  obtain ⟨g, o, rfl, hg, hc⟩ := h.ents.lies i x hi
  have hl : l ≠ [] := fun e => by rw [e] at hi; simp at hi
  have hs := h.ents.safe g o rfl hl
  refine ⟨g, o, rfl, Nat.lt_of_lt_of_le hg f.size, fun j v hv => ?_⟩
  rw [World.cell?_of_block (a := ⟨g, o + i * 3 + j, none⟩) (hs.fy (h.ne g o rfl hl) f)]
  exact hc j v hv
theorem RestAt.fx (h : RestAt w bB rb r) (f : Fx bB w w') : RestAt w' bB rb r := by
  obtain ⟨a, cap, h1, h2, h3, h4⟩ := h.ex
  refine ⟨⟨a, cap, f.kept _ _ h1 rfl, h2, fun i x hi => ?_, fun g o e hne => ⟨(h4 g o e hne).1.keep f, (h4 g o e hne).2⟩⟩, h.lim, h.bB⟩
  obtain ⟨g, o, rfl, hg, hc⟩ := h3 i x hi
  have hl : r ≠ [] := fun e => by rw [e] at hi; simp at hi
  refine ⟨g, o, rfl, Nat.lt_of_lt_of_le hg f.size, fun j v hv => ?_⟩
  rw [World.cell?_of_block (a := ⟨g, o + i * 1 + j, none⟩) ((h4 g o rfl hl).1.fx f)]
  exact hc j v hv
/-- the first one taken -/
theorem RestAt.take {d : Nat} (h : RestAt w bB rb (d :: r)) : ∃ g o cap, w.heap[rb]? = some (.cells #[.slice (some ⟨g, o, none⟩) (r.length + 1) cap] 23 (0, 0)) ∧ r.length + 1 ≤ cap ∧ w.cell? ⟨g, o, none⟩ = some (.int .i64 (d : Int)) ∧ d < 9223372036854775808 ∧
    (∀ a2, (a2 = if cap = 1 then some ⟨g, o, none⟩ else some ⟨g, o + 1, none⟩) → RestAt (w.setCell ⟨rb, 0, none⟩ (.slice a2 r.length (cap - 1))) bB rb r ∧ Fy bB rb w (w.setCell ⟨rb, 0, none⟩ (.slice a2 r.length (cap - 1))) ∧ Wrote [rb] w (w.setCell ⟨rb, 0, none⟩ (.slice a2 r.length (cap - 1)))) := by
  obtain ⟨a, cap, h1, h2, h3, h4⟩ := h.ex
  obtain ⟨g, o, rfl, hg, hc⟩ := h3 0 d rfl
  have hd := hc 0 _ rfl
  obtain ⟨hs, hn⟩ := h4 g o rfl (by simp)
  refine ⟨g, o, cap, h1, h2, by simpa using hd, h.lim d (by simp), fun a2 ha2 => ?_⟩
  have hlt := lt_of_heap h1
  have hw : Wrote [rb] w (w.setCell ⟨rb, 0, none⟩ (.slice a2 r.length (cap - 1))) := (Wrote.refl _ _).setCell (.inl (by simp)) _
  have hy : Fy bB rb w (w.setCell ⟨rb, 0, none⟩ (.slice a2 r.length (cap - 1))) := by
    refine ⟨hw.below (Nat.le_trans h.bB (Nat.le_of_lt hlt)) fun k hk => ?_, fun k o hk ho _ => hw.heap ho (by simpa using hk)⟩
    have e : k = rb := by simpa using hk
    rw [e]
    exact h.bB
  refine ⟨⟨⟨a2, cap - 1, ?_, by simp at h2; omega, fun i x hi => ?_, ?_⟩, fun x hx => h.lim x (by simp [hx]), h.bB⟩, hy, hw⟩
  · simp [World.setCell, Array.getElem?_modify, h1]
  · obtain ⟨g', o', e, hg', hc'⟩ := h3 (i + 1) x (by simpa using hi)
    cases e
    have hcap : cap ≠ 1 := by
      have := (List.getElem?_eq_some_iff.1 hi).1
      simp at h2
      omega
    rw [if_neg hcap] at ha2
    refine ⟨g, o + 1, ha2, Nat.lt_of_lt_of_le hg hy.size, fun j v hv => ?_⟩
    rw [hw.cell (p := ⟨g, _, none⟩) hg (by simpa using hn)]
    have := hc' j v hv
    rw [show o + 1 + i * 1 + j = o + (i + 1) * 1 + j by omega]
    exact this
  · intro g' o' e _
    have e2 : g' = g := by
      rw [ha2] at e
      split at e <;> cases e <;> rfl
    rw [e2]
    exact ⟨hs.keepY hn hy, hn⟩
end
set_option maxRecDepth 100000 in
set_option maxHeartbeats 800000 in
theorem chk1_no (p n f ln pb rb : Nat) (pm : Int) (a1 a2 : Option Addr) (c1 c2 bn : Nat) (w : World) (hpb : w.heap[pb]? = some (.cells #[.int .i64 pm, .int .i64 (f : Int), .slice a1 ln c1, .slice a2 bn c2] 25 (0, 0)))
    (hp : p ≤ 2000) (hn : n ≤ 2000) (hf : f + ln ≤ 2000) (ha : apart p n f (f + ln) = false) :
    Calls Tryd.prog 26 #[.int .i64 (p : Int), .int .i64 (n : Int), .pointer (some ⟨pb, 0, none⟩), .pointer (some ⟨rb, 0, none⟩)] w fun e w' => e = .returned (.tuple #[.int .i64 0, .bool false]) ∧ w = w' := by
  have hA := fun W => apart_any p n f (f + ln) W (by omega) (by omega) (by omega) (by omega)
  rw [ha, show ((f + ln : Nat) : Int) = (f : Int) + (ln : Int) by omega] at hA
  have HA := Lib.hid hA
  have d1 : w.cell? ⟨pb, 1, none⟩ = some (.int .i64 (f : Int)) := by rw [cell_of_row _ _ _ _ _ _ hpb]; rfl
  have d2 : w.cell? ⟨pb, 2, none⟩ = some (.slice a1 ln c1) := by rw [cell_of_row _ _ _ _ _ _ hpb]; rfl
  have i1 : (f : Int) ≤ 2000 := by omega
  have i2 : (ln : Int) ≤ 2000 := by omega
  clear hpb ha hA hp hn hf
  go_enter Tryd.func26, Tryd.ntmps26
  go_wp2_with (go_at_call 21; refine (HA.out _).mono ?_; rintro e w1 ⟨rfl, rfl⟩)
  go_ret2
  exact ⟨rfl, rfl⟩
def TakeLeft (w : World) (bB rb d : Nat) (r : List Nat) (e : Ending) (w' : World) : Prop := e = .returned (.tuple #[.int .i64 (d : Int), .bool true]) ∧ RestAt w' bB rb r ∧ Fy bB rb w w' ∧ Wrote [rb] w w'
set_option maxRecDepth 100000 in
set_option maxHeartbeats 1600000 in
theorem chk1_yes (bB p n f ln pb rb : Nat) (pm : Int) (a1 a2 : Option Addr) (c1 c2 bn d : Nat) (r : List Nat) (w : World) (hpb : w.heap[pb]? = some (.cells #[.int .i64 pm, .int .i64 (f : Int), .slice a1 ln c1, .slice a2 bn c2] 25 (0, 0)))
    (hp : p ≤ 2000) (hn : n ≤ 2000) (hf : f + ln ≤ 2000) (ha : apart p n f (f + ln) = true) (hr : RestAt w bB rb (d :: r)) (hrl : r.length ≤ 10000) :
    Calls Tryd.prog 26 #[.int .i64 (p : Int), .int .i64 (n : Int), .pointer (some ⟨pb, 0, none⟩), .pointer (some ⟨rb, 0, none⟩)] w (TakeLeft w bB rb d r) := by
  have hA := fun W => apart_any p n f (f + ln) W (by omega) (by omega) (by omega) (by omega)
  rw [ha, show ((f + ln : Nat) : Int) = (f : Int) + (ln : Int) by omega] at hA
  have HA := Lib.hid hA
  have d1 : w.cell? ⟨pb, 1, none⟩ = some (.int .i64 (f : Int)) := by rw [cell_of_row _ _ _ _ _ _ hpb]; rfl
  have d2 : w.cell? ⟨pb, 2, none⟩ = some (.slice a1 ln c1) := by rw [cell_of_row _ _ _ _ _ _ hpb]; rfl
  have i1 : (f : Int) ≤ 2000 := by omega
  have i2 : (ln : Int) ≤ 2000 := by omega
  obtain ⟨g, o, cap, h1, h2, h3, _, h5⟩ := hr.take
  have e0 := one_cell h1
  have f0 : w.frozen? ⟨rb, 0, none⟩ = false := by unfold World.frozen?; rw [h1]; rfl
  obtain ⟨rn, hrn⟩ : ∃ k, k = r.length := ⟨_, rfl⟩
  rw [← hrn] at e0 h2 h5 hrl
  have i3 : (rn : Int) ≤ 10000 := by omega
  have j0 : (0 : Int) < (rn : Int) + 1 := by omega
  have j1 : 0 < rn + 1 := by omega
  by_cases hc : cap = 1
  · subst hc
    have hrn0 : rn = 0 := by omega
    subst hrn0
    obtain ⟨k1, k2⟩ := h5 _ rfl
    rw [if_pos rfl] at k1 k2
    have HE : Hid (TakeLeft w bB rb d r (.returned (.tuple #[.int .i64 (d : Int), .bool true])) (w.setCell ⟨rb, 0, none⟩ (.slice (some ⟨g, o, none⟩) 0 0))) := ⟨rfl, k1, k2⟩
    clear hpb ha hA hp hn hf hr h1 h5 k1 k2 h2 hrn
    go_enter Tryd.func26, Tryd.ntmps26
    go_wp2_with (go_at_call 21; refine (HA.out _).mono ?_; rintro e w1 ⟨rfl, rfl⟩)
    go_ret2
    exact HE.out
  · obtain ⟨k1, k2⟩ := h5 _ rfl
    rw [if_neg hc] at k1 k2
    have HE : Hid (TakeLeft w bB rb d r (.returned (.tuple #[.int .i64 (d : Int), .bool true])) (w.setCell ⟨rb, 0, none⟩ (.slice (some ⟨g, o + 1, none⟩) rn (cap - 1)))) := ⟨rfl, k1, k2⟩
    have hc2 : (1 : Nat) ≤ cap := by omega
    have hc3 : (1 : Int) ≤ (cap : Int) := by omega
    have hc4 : (rn : Int) + 1 ≤ (cap : Int) := by omega
    clear hpb ha hA hp hn hf hr h1 h5 k1 k2 hrn
    go_enter Tryd.func26, Tryd.ntmps26
    go_wp2_with (go_at_call 21; refine (HA.out _).mono ?_; rintro e w1 ⟨rfl, rfl⟩)
    go_ret2
    exact HE.out
set_option maxRecDepth 100000 in
set_option maxHeartbeats 800000 in
theorem chk2_any (bB b m tb bt pb p f : Nat) (pm : Int) (v : Value) (T : List ByteArray) (a1 a2 : Option Addr) (c1 c2 bn : Nat) (L : List Ent) (x : Ent) (w : World) (h : TrAt w bB b m v T tb) (hbt : w.heap[bt]? = some (.cells #[.pointer (some ⟨tb, 0, none⟩)] 51 (0, 0)))
    (hpb : w.heap[pb]? = some (.cells #[.int .i64 pm, .int .i64 (f : Int), .slice a1 L.length c1, .slice a2 bn c2] 25 (0, 0))) (he : EntsAt w bB a1 L) (hp : L[p - f]? = some x) (hfp : f ≤ p) (hp9 : p ≤ 2000) (hx : Good x) (hn : T.length < 65536) :
    Calls Tryd.prog 27 #[.int .i64 (p : Int), .pointer (some ⟨bt, 0, none⟩), .pointer (some ⟨pb, 0, none⟩)] w (DigT w bB b m tb T (leafT x)) := by
  have HD := Lib.hid (leaf_any bB b m tb v T x w.drew (h.below (drew_below w)) hx hn)
  have HF := Lib.hid (fun e w' (q : DigT _ bB b m tb T (leafT x) e w') => DigT.from q (drew_below w) h.le)
  have c0 := one_cell hbt
  have d1 : w.cell? ⟨pb, 1, none⟩ = some (.int .i64 (f : Int)) := by rw [cell_of_row _ _ _ _ _ _ hpb]; rfl
  have d2 : w.cell? ⟨pb, 2, none⟩ = some (.slice a1 L.length c1) := by rw [cell_of_row _ _ _ _ _ _ hpb]; rfl
  obtain ⟨q, hq⟩ : ∃ q, q = p - f := ⟨_, rfl⟩
  rw [← hq] at hp
  obtain ⟨g, o, rfl, hg, k0, k1, k2⟩ := he.at hp
  have hlt : q < L.length := (List.getElem?_eq_some_iff.1 hp).1
  obtain ⟨n, hn⟩ : ∃ n, n = L.length := ⟨_, rfl⟩
  rw [← hn] at d2 hlt
  have hw1 : IntKind.i64.wrap ((p : Int) - (f : Int)) = (q : Int) := by rw [show (p : Int) - (f : Int) = (q : Int) by omega]; exact IntWalk.i64_in _ (by omega)
  have hp0 : (0 : Int) ≤ (q : Int) := by omega
  have hp1 : (q : Int) < (n : Int) := by omega
  unfold entV at HD
  obtain ⟨k, u, z⟩ := x
  simp only at k0 k1 k2 HD HF
  clear h hbt hpb he hp hx hn hg hq
  go_enter Tryd.func27, Tryd.ntmps27
  go_wp2_with fail
  refine wp_region_tail 9 (by kernel_rfl) (by kernel_rfl) ?_
  simp only [List.take_succ_cons, List.take_zero, List.drop_succ_cons, List.drop_zero]
  repeat still_step
  refine wpStill_nil ?_
  go_wp2_with fail
  refine HD.out.mono ?_
  rintro e w1 hd
  have HE := Lib.hid (HF.out _ _ hd)
  obtain ⟨_, _, d, rfl, _⟩ := hd
  go_wp2_with fail
  go_ret
  exact HE.out
theorem TrAt.other {w w1 : World} {bB b m tb rb : Nat} {v : Value} {T : List ByteArray} {r : List Nat} (h : TrAt w bB b m v T tb) (hr : RestAt w bB rb r) (hw : Wrote [rb] w w1) : TrAt w1 bB b m v T tb := by
  obtain ⟨a, cap, h1, _⟩ := hr.ex
  have hne : ∀ (k : Nat) (o : Obj), w.heap[k]? = some o → (∀ cs fr, o ≠ .cells cs 23 fr) → k ∉ [rb] := fun k o ho hno hm => by
    have e : k = rb := by simpa using hm
    rw [e, h1] at ho
    cases ho
    exact hno _ _ rfl
  refine ⟨book_wrote h.book hw (hne b _ h.book.blk fun _ _ e => by cases e) ?_ ?_, h.nd, hw.heap h.blk (hne tb _ h.blk fun _ _ e => by cases e), h.tB⟩
  · obtain ⟨es, c, he, _⟩ := h.book.map.len
    exact hne m _ he fun _ _ e => by cases e
  · intro g hg
    obtain ⟨_, cur, hc⟩ := row_block h.book.row hg
    exact hne g _ hc fun _ _ e => by cases e
/-- what the fold of a proof leaves -/
def MadeT (w : World) (bB b m tb rb : Nat) (T : List ByteArray) (L : List Ent) (f p n : Nat) (r : List Nat) (e : Ending) (w' : World) : Prop :=
  ∃ v' T' d r', e = .returned (.int .i64 ((d : Nat) : Int)) ∧ TrAt w' bB b m v' T' tb ∧ Ext T T' ∧ MadeAt enc T' L f p n r d r' ∧ r'.length + parts p n f (f + L.length) = r.length ∧ RestAt w' bB rb r' ∧ T'.length ≤ T.length + (2 * n - 1) ∧ Fy bB rb w w'
set_option maxRecDepth 100000 in
set_option maxHeartbeats 3200000 in
theorem chkfold_any (bB b m tb bt pb rb f : Nat) (pm : Int) (a1 a2 : Option Addr) (c1 c2 bn : Nat) (L : List Ent) (hg : ∀ x ∈ L, Good x) (hfl : f + L.length ≤ 2000) (hne : bt ≠ rb ∧ pb ≠ rb) (n : Nat) :
    ∀ (p : Nat) (v : Value) (T : List ByteArray) (r : List Nat) (w : World), TrAt w bB b m v T tb → w.heap[bt]? = some (.cells #[.pointer (some ⟨tb, 0, none⟩)] 51 (0, 0)) →
    w.heap[pb]? = some (.cells #[.int .i64 pm, .int .i64 (f : Int), .slice a1 L.length c1, .slice a2 bn c2] 25 (0, 0)) → EntsY w bB rb a1 L → RestAt w bB rb r → r.length ≤ 10000 → parts p n f (f + L.length) ≤ r.length → (n = 0 → apart p n f (f + L.length) = true) → p + n ≤ 2000 → T.length + 2 * n ≤ 60000 →
    Calls Tryd.prog 25 #[.pointer (some ⟨tb, 0, none⟩), .int .i64 (p : Int), .int .i64 (n : Int), .func (.func 26) #[] #[.pointer (some ⟨pb, 0, none⟩), .pointer (some ⟨rb, 0, none⟩)], .func (.func 27) #[] #[.pointer (some ⟨bt, 0, none⟩), .pointer (some ⟨pb, 0, none⟩)]] w
      (MadeT w bB b m tb rb T L f p n r) := by
  induction n using Nat.strongRecOn with
  | ind n ih =>
    intro p v T r w h hbt hpb he hr hrl hpr h0 hpn hT
    cases ha : apart p n f (f + L.length) with
    | true =>
      rw [parts_apart ha] at hpr
      obtain ⟨d, r1, rfl⟩ : ∃ d r1, r = d :: r1 := by
        cases r with
        | nil => simp at hpr
        | cons d r1 => exact ⟨d, r1, rfl⟩
      have HY := Lib.hid (chk1_yes bB p n f L.length pb rb pm a1 a2 c1 c2 bn d r1 w hpb (by omega) (by omega) hfl ha hr (by simp at hrl; omega))
      have hdl := hr.lim d (by simp)
      have HFIN : Hid (∀ w1, RestAt w1 bB rb r1 → Fy bB rb w w1 → Wrote [rb] w w1 → MadeT w bB b m tb rb T L f p n (d :: r1) (.returned (.int .i64 (d : Int))) w1) := fun w1 q1 q2 q3 => by
        refine ⟨v, T, d, r1, rfl, h.other hr q3, Ext.refl _, .apart p n d r1 ha hdl, by rw [parts_apart ha]; simp, q1, by omega, q2⟩
      clear ih h hbt hpb he hr hrl hpr h0 hT ha hdl
      go_enter Tryd.func25, Tryd.ntmps25
      go_wp2_with fail
      refine HY.out.mono ?_
      rintro e w1 ⟨rfl, q1, q2, q3⟩
      have HE := Lib.hid (HFIN.out w1 q1 q2 q3)
      clear q1 q2 q3
      go_wp2_with fail
      go_ret
      exact HE.out
    | false =>
      obtain ⟨a1', a2', a3'⟩ := apart_not.1 ha
      have HNO := Lib.hid (fun W (hW : W.heap[pb]? = w.heap[pb]?) => chk1_no p n f L.length pb rb pm a1 a2 c1 c2 bn W (hW.trans hpb) (by omega) (by omega) hfl ha)
      have HW := Lib.hid (HNO.out w rfl)
      rcases Nat.lt_or_ge n 2 with hn | hn
      · have hn1 : n = 1 := by
          rcases Nat.lt_or_ge n 1 with h1 | h1
          · rw [h0 (by omega)] at ha; cases ha
          · omega
        subst hn1
        obtain ⟨x, hx⟩ : ∃ x, L[p - f]? = some x := ⟨_, List.getElem?_eq_getElem (by omega)⟩
        have HL := Lib.hid (chk2_any bB b m tb bt pb p f pm v T a1 a2 c1 c2 bn L x w h hbt hpb he.ents hx (by omega) (by omega) (hg x (List.mem_of_getElem? hx)) (by omega))
        have HFIN : Hid (∀ e w1, DigT w bB b m tb T (leafT x) e w1 → MadeT w bB b m tb rb T L f p 1 r e w1) := by
          rintro e w1 ⟨v', T', d, q1, q2, q3, q4, q5, q6⟩
          exact ⟨v', T', d, r, q1, q2, q3, .leaf p d r x ha hx q4, by rw [parts_leaf ha]; rfl, hr.fx q6, by omega, q6.fy⟩
        clear ih h hbt hpb he hr hrl hpr h0 hT ha hx HNO
        go_enter Tryd.func25, Tryd.ntmps25
        go_wp2_with fail
        refine HW.out.mono ?_
        rintro e w1 ⟨rfl, rfl⟩
        go_wp2_with fail
        refine HL.out.mono ?_
        rintro e w1 hd
        have HE := Lib.hid (HFIN.out e w1 hd)
        obtain ⟨_, _, d, rfl, _⟩ := hd
        go_wp2_with fail
        go_ret
        exact HE.out
      · have hl := half_lt hn
        have hp := half_pos n
        have hpn2 := parts_node ha hn
        have HH := Lib.hid (fun W => half_any n W hn (by omega))
        have HX := Lib.hid (ih (half n) hl p v T r w h hbt hpb he hr hrl (by omega) (by omega) (by omega) (by omega))
        have HY : Hid (∀ (v1 : Value) (T1 : List ByteArray) (r1 : List Nat) (w1 : World), TrAt w1 bB b m v1 T1 tb → Fy bB rb w w1 → T1.length ≤ T.length + (2 * half n - 1) → RestAt w1 bB rb r1 → r1.length + parts p (half n) f (f + L.length) = r.length →
            Calls Tryd.prog 25 #[.pointer (some ⟨tb, 0, none⟩), .int .i64 ((p + half n : Nat) : Int), .int .i64 ((n - half n : Nat) : Int), .func (.func 26) #[] #[.pointer (some ⟨pb, 0, none⟩), .pointer (some ⟨rb, 0, none⟩)], .func (.func 27) #[] #[.pointer (some ⟨bt, 0, none⟩), .pointer (some ⟨pb, 0, none⟩)]] w1
            (MadeT w1 bB b m tb rb T1 L f (p + half n) (n - half n) r1)) :=
          fun v1 T1 r1 w1 q1 q2 q3 q4 q5 => ih (n - half n) (by omega) (p + half n) v1 T1 r1 w1 q1 (q2.kept _ _ hne.1 hbt rfl) (q2.kept _ _ hne.2 hpb rfl) (he.keep q2) q4 (by omega) (by omega) (by omega) (by omega) (by omega)
        have HFIN : Hid (∀ (w1 w2 w3 : World) (T1 T2 : List ByteArray) (d1 d2 : Nat) (r1 r2 : List Nat) (e : Ending), Ext T T1 → MadeAt enc T1 L f p (half n) r d1 r1 → r1.length + parts p (half n) f (f + L.length) = r.length → T1.length ≤ T.length + (2 * half n - 1) → Fy bB rb w w1 →
            Ext T1 T2 → MadeAt enc T2 L f (p + half n) (n - half n) r1 d2 r2 → r2.length + parts (p + half n) (n - half n) f (f + L.length) = r1.length → RestAt w2 bB rb r2 → T2.length ≤ T1.length + (2 * (n - half n) - 1) → Fy bB rb w1 w2 → DigT w2 bB b m tb T2 (nodeT d1 d2) e w3 → MadeT w bB b m tb rb T L f p n r e w3) := by
          rintro w1 w2 w3 T1 T2 d1 d2 r1 r2 e x1 m1 l1 k1 f1 x2 m2 l2 s2 k2 f2 ⟨v', T', d, q1, q2, q3, q4, q5, q6⟩
          exact ⟨v', T', d, r2, q1, q2, (x1.trans x2).trans q3, .node p n d d1 d2 r r1 r2 ha hn (m1.ext (x2.trans q3)) (m2.ext q3) q4, by rw [hpn2]; omega, s2.fx q6, by omega, (f1.trans f2).trans q6.fy⟩
        have HTL : Hid (∀ T1 T2 : List ByteArray, T1.length ≤ T.length + (2 * half n - 1) → T2.length ≤ T1.length + (2 * (n - half n) - 1) → T2.length < 65536) := fun T1 T2 q1 q2 => by omega
        obtain ⟨k, hk⟩ : ∃ k, k = half n := ⟨_, rfl⟩
        rw [← hk] at hl hp HH HX HY HFIN HTL
        obtain ⟨q, hq⟩ : ∃ q, q = n - k := ⟨_, rfl⟩
        rw [← hq] at HY HFIN HTL
        have e1 : ((p + k : Nat) : Int) = (p : Int) + (k : Int) := by omega
        have e2 : ((q : Nat) : Int) = (n : Int) - (k : Int) := by omega
        rw [e1, e2] at HY
        have i1 : (n : Int) ≤ 2000 := by omega
        have i2 : (k : Int) < (n : Int) := by omega
        have i3 : (p : Int) ≤ 2000 := by omega
        have i4 : ((n : Int) == 1) = false := by simp; omega
        clear ih h hbt hpb he hr hrl hpr h0 hpn hT ha hk hq e1 e2 hpn2 HNO a1' a2' a3'
        go_enter Tryd.func25, Tryd.ntmps25
        go_wp2_with fail
        refine HW.out.mono ?_
        rintro e w1 ⟨rfl, rfl⟩
        go_wp2_with fail
        refine (HH.out _).mono ?_
        rintro e w1 ⟨rfl, rfl⟩
        go_wp2_with fail
        refine HX.out.mono ?_
        rintro e w1 ⟨v1, T1, d1, r1, rfl, q1, x1, m1, l1, s1, k1, f1⟩
        have HC := Lib.hid (HY.out v1 T1 r1 w1 q1 f1 k1 s1 l1)
        have HQ1 := Lib.hid (And.intro x1 (And.intro m1 (And.intro l1 (And.intro k1 f1))))
        clear q1 x1 m1 l1 s1 k1 f1 HX HY
        go_wp2_with fail
        refine HC.out.mono ?_
        rintro e w2 ⟨v2, T2, d2, r2, rfl, q2, x2, m2, l2, s2, k2, f2⟩
        have HN := Lib.hid (node_any bB b m tb v2 T2 d1 d2 w2 q2 (HTL.out T1 T2 HQ1.out.2.2.2.1 k2))
        have HQ2 := Lib.hid (And.intro x2 (And.intro m2 (And.intro l2 (And.intro s2 (And.intro k2 f2)))))
        clear q2 x2 m2 l2 s2 k2 f2 HC
        go_wp2_with fail
        refine HN.out.mono ?_
        rintro e w3 hd
        have HE := Lib.hid (HFIN.out w1 w2 w3 T1 T2 d1 d2 r1 r2 e HQ1.out.1 HQ1.out.2.1 HQ1.out.2.2.1 HQ1.out.2.2.2.1 HQ1.out.2.2.2.2 HQ2.out.1 HQ2.out.2.1 HQ2.out.2.2.1 HQ2.out.2.2.2.1 HQ2.out.2.2.2.2.1 HQ2.out.2.2.2.2.2 hd)
        obtain ⟨_, _, d, rfl, _⟩ := hd
        go_wp2_with fail
        go_ret
        exact HE.out
end Go.Proofs.YtlepjjcnlcnnfaaDoor.Merkle
