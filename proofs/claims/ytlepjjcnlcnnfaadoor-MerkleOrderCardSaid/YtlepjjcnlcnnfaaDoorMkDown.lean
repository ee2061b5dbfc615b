/- Merkle: Prove's closure. -/
import Derived.Test.YtlepjjcnlcnnfaaDoorMkRange
import Derived.Deep.RegionLaw
import Derived.Deep.AppendLies
namespace Go.Proofs.YtlepjjcnlcnnfaaDoor.Merkle
open Go.RowKit Go.My

def iv (x : Nat) : Value := .int .i64 (x : Int)
theorem int_info : (Tryd.prog.info? 3).map (fun i => (i.zero, i.size, i.bytes)) = some (some (.int .i64 0), 1, 8) := by kernel_rfl
def downV (fb mb pb bt lb db : Nat) : Value := .func (.func 20) #[] #[.pointer (some ⟨fb, 0, none⟩), .pointer (some ⟨mb, 0, none⟩), .pointer (some ⟨pb, 0, none⟩), .pointer (some ⟨bt, 0, none⟩), .pointer (some ⟨lb, 0, none⟩), .pointer (some ⟨db, 0, none⟩)]
/-- what Prove's closure has caught: variables that stay -/
structure Cap (w : World) (bB tb bt lb fb mb pb db : Nat) (a : Option Addr) (cap : Nat) (l : List Ent) (f k : Nat) : Prop where
  hbt : w.heap[bt]? = some (.cells #[.pointer (some ⟨tb, 0, none⟩)] 51 (0, 0))
  hlb : w.heap[lb]? = some (.cells #[.slice a l.length cap] 22 (0, 0))
  hfb : w.heap[fb]? = some (.cells #[.int .i64 (f : Int)] 3 (0, 0))
  hmb : w.heap[mb]? = some (.cells #[.int .i64 (k : Int)] 3 (0, 0))
  hdb : w.heap[db]? = some (.cells #[downV fb mb pb bt lb db] 58 (0, 0))
  ents : EntsAt w bB a l
/-- the proof as it grows -/
structure PrvSt (w : World) (bB BB b m tb pb : Nat) (v : Value) (T : List ByteArray) (n f : Nat) (sl vB : Value) (ds : List Nat) : Prop where
  tr : TrAt w bB b m v T tb
  box : w.heap[pb]? = some (.cells #[.int .i64 (n : Int), .int .i64 (f : Int), sl, vB] 25 (0, 0))
  row : w.ownsRow BB 3 1 vB ds.length (ds.map iv)
  le1 : bB ≤ pb
  le2 : BB ≤ w.heap.size
  le3 : bB ≤ BB
/-- all but the proof and its tops beside is as a digest leaves it -/
structure Fz (bB BB pb : Nat) (w w' : World) : Prop where
  below : Below bB w w'
  kept : ∀ (k : Nat) (o : Obj), k ≠ pb → w.heap[k]? = some o → Kd o = false → (k < BB ∨ ∀ cs fr, o ≠ .cells cs 3 fr) → w'.heap[k]? = some o
section
variable {w w' w'' : World} {bB BB b m tb bt lb fb mb pb db : Nat} {v : Value} {T : List ByteArray} {a : Option Addr} {cap : Nat} {l : List Ent} {f k n : Nat} {sl vB : Value} {ds : List Nat}
theorem Fx.fz (h : Fx bB w w') : Fz bB BB pb w w' := ⟨h.below, fun k o _ hk ho _ => h.kept k o hk ho⟩
theorem Fz.trans (h : Fz bB BB pb w w') (g : Fz bB BB pb w' w'') : Fz bB BB pb w w'' := ⟨h.below.trans g.below, fun j _ hn hj ho hp => g.kept j _ hn (h.kept j _ hn hj ho hp) ho hp⟩
theorem Fz.size (h : Fz bB BB pb w w') : w.heap.size ≤ w'.heap.size := h.below.size
theorem Cap.keep (h : Cap w bB tb bt lb fb mb pb db a cap l f k) (g : Fz bB BB pb w w') (hne : bt ≠ pb ∧ lb ≠ pb ∧ fb ≠ pb ∧ mb ≠ pb ∧ db ≠ pb) (hlt : fb < BB ∧ mb < BB) (hen : ∀ x o, a = some ⟨x, o, none⟩ → l ≠ [] → x ≠ pb ∧ x < BB) : Cap w' bB tb bt lb fb mb pb db a cap l f k := by
  refine ⟨g.kept _ _ hne.1 h.hbt rfl (.inr fun _ _ e => by cases e), g.kept _ _ hne.2.1 h.hlb rfl (.inr fun _ _ e => by cases e), g.kept _ _ hne.2.2.1 h.hfb rfl (.inl hlt.1), g.kept _ _ hne.2.2.2.1 h.hmb rfl (.inl hlt.2), g.kept _ _ hne.2.2.2.2 h.hdb rfl (.inr fun _ _ e => by cases e), ?_⟩
  have same : ∀ x o, a = some ⟨x, o, none⟩ → l ≠ [] → w'.heap[x]? = w.heap[x]? ∧ Safe bB w' x := fun x o e hl => by
    obtain ⟨h1, h2⟩ := h.ents.safe x o e hl
    obtain ⟨h3, h4⟩ := hen x o e hl
    rcases h2 with h2 | ⟨ob, h5, h6⟩
    · exact ⟨g.below.block x h2, Nat.lt_of_lt_of_le h1 g.size, .inl h2⟩
    · have := g.kept x ob h3 h5 h6 (.inl h4)
      exact ⟨by rw [this, h5], Nat.lt_of_lt_of_le h1 g.size, .inr ⟨ob, this, h6⟩⟩
  refine ⟨fun i x hi => ?_, fun x o e hl => (same x o e hl).2⟩
  obtain ⟨x0, o, rfl, hg, hc⟩ := h.ents.lies i x hi
  have hl : l ≠ [] := fun e => by rw [e] at hi; simp at hi
  refine ⟨x0, o, rfl, Nat.lt_of_lt_of_le hg g.size, fun j u hu => ?_⟩
  rw [World.cell?_of_block (a := ⟨x0, o + i * 3 + j, none⟩) (same x0 o rfl hl).1]
  exact hc j u hu
theorem row_fx {t : TypeId} {c q : Nat} {u : Value} {xs : List Value} (h : w.ownsRow BB t c u q xs) (g : Fx bB w w') (ht : ∀ cs fr, Kd (.cells cs t fr) = false) : w'.ownsRow BB t c u q xs := by
  rcases h with ⟨hl, h | ⟨x, cp, cur, h1, h2, h3, h4⟩⟩
  · exact ⟨hl, .inl h⟩
  · exact ⟨hl, .inr ⟨x, cp, cur, h1, h2, g.kept _ _ h3 (ht _ _), h4⟩⟩
theorem PrvSt.fx {v' : Value} {T' : List ByteArray} {n0 : Nat} (h : PrvSt w bB BB b m tb pb v T n0 f sl vB ds) (g : Fx bB w w') (ht : TrAt w' bB b m v' T' tb) : PrvSt w' bB BB b m tb pb v' T' n0 f sl vB ds :=
  ⟨ht, g.kept _ _ h.box rfl, row_fx h.row g fun _ _ => rfl, h.le1, Nat.le_trans h.le2 g.size, h.le3⟩
/-- one top more -/
theorem PrvSt.push {n0 d x1 cp1 : Nat} {w1 w2 : World} {o : Obj} (h : PrvSt w1 bB BB b m tb pb v T n0 f sl vB ds) (hg : (w1.alloc o).grownBy w2 vB.ownBlock) (hown : w2.ownsRow BB 3 1 (.slice (some ⟨x1, 0, none⟩) (ds.length + 1) cp1) (ds.length + 1) (ds.map iv ++ [.int .i64 (d : Int)])) :
    PrvSt (w2.setCell ⟨pb, 3, none⟩ (.slice (some ⟨x1, 0, none⟩) (ds.length + 1) cp1)) bB BB b m tb pb v T n0 f sl (.slice (some ⟨x1, 0, none⟩) (ds.length + 1) cp1) (ds ++ [d]) ∧ Fz bB BB pb w1 (w2.setCell ⟨pb, 3, none⟩ (.slice (some ⟨x1, 0, none⟩) (ds.length + 1) cp1)) := by
  have hw : Wrote vB.ownBlock.toList w1 w2 := ((Wrote.refl _ _).alloc o).trans (Wrote.of_grown hg)
  have hrow : ∀ q, vB.ownBlock = some q → BB ≤ q ∧ ∃ cur, w1.heap[q]? = some (.cells cur 3 (0, 0)) := fun q hq => row_block h.row hq
  have hne : ∀ (k : Nat) (o : Obj), w1.heap[k]? = some o → (∀ cs fr, o ≠ .cells cs 3 fr) → k ∉ vB.ownBlock.toList := fun k o ho hno hm => by
    obtain ⟨_, cur, hc⟩ := hrow k (by simpa using hm)
    rw [hc] at ho
    cases ho
    exact hno _ _ rfl
  have hb2 : w2.heap[pb]? = some (.cells #[.int .i64 (n0 : Int), .int .i64 (f : Int), sl, vB] 25 (0, 0)) := hw.heap h.box (hne pb _ h.box fun _ _ e => by cases e)
  have hall : Wrote (pb :: vB.ownBlock.toList) w1 (w2.setCell ⟨pb, 3, none⟩ (.slice (some ⟨x1, 0, none⟩) (ds.length + 1) cp1)) := (hw.mono (by simp; intro a ha; exact .inr ha)).setCell (.inl (by simp)) _
  have hbel : Below bB w1 (w2.setCell ⟨pb, 3, none⟩ (.slice (some ⟨x1, 0, none⟩) (ds.length + 1) cp1)) := hall.below h.tr.le fun k hk => by
    rcases List.mem_cons.1 hk with rfl | hk
    · exact h.le1
    · exact Nat.le_trans h.le3 (hrow k (by simpa using hk)).1
  have hno : ∀ (k : Nat) (o : Obj), w1.heap[k]? = some o → k ≠ pb → (∀ cs fr, o ≠ .cells cs 3 fr) → k ∉ pb :: vB.ownBlock.toList := fun k o ho hk hn hm => by
    rcases List.mem_cons.1 hm with h1 | h1
    · exact hk h1
    · exact hne k o ho hn h1
  have hpbne : ∀ (k : Nat) (o : Obj), w1.heap[k]? = some o → (∀ cs fr, o ≠ .cells cs 25 fr) → k ≠ pb := fun k o ho hn e => by
    rw [e, h.box] at ho
    cases ho
    exact hn _ _ rfl
  refine ⟨⟨⟨book_wrote h.tr.book hall (hno b _ h.tr.book.blk (hpbne b _ h.tr.book.blk fun _ _ e => by cases e) fun _ _ e => by cases e) ?_ ?_, h.tr.nd, hall.heap h.tr.blk (hno tb _ h.tr.blk (hpbne tb _ h.tr.blk fun _ _ e => by cases e) fun _ _ e => by cases e), h.tr.tB⟩, ?_, ?_, h.le1, Nat.le_trans h.le2 hall.size, h.le3⟩, hbel, ?_⟩
  · obtain ⟨es, c, he, _⟩ := h.tr.book.map.len
    exact hno m _ he (hpbne m _ he fun _ _ e => by cases e) fun _ _ e => by cases e
  · intro q hq
    obtain ⟨_, cur, hc⟩ := row_block h.tr.book.row hq
    exact hno q _ hc (hpbne q _ hc fun _ _ e => by cases e) fun _ _ e => by cases e
  · obtain ⟨hlt, hgt⟩ := Array.getElem?_eq_some_iff.1 hb2
    simp [World.setCell, Array.getElem?_modify, hb2]
  · rw [List.length_append, List.map_append]
    refine ownsRow_setCell_other hown (a := ⟨pb, 3, none⟩) (fun e => ?_) _
    obtain ⟨_, cur, hc⟩ := row_block hown e
    rw [hb2] at hc
    cases hc
  · intro k o hk ho _ hc
    refine hall.heap ho fun hm => ?_
    rcases List.mem_cons.1 hm with h1 | h1
    · exact hk h1
    · obtain ⟨hge, cur, hcur⟩ := hrow k (by simpa using h1)
      rcases hc with hc | hc
      · omega
      · rw [hcur] at ho
        cases ho
        exact hc _ _ rfl
/-- a window of entries -/
theorem EntsAt.part {g o p n : Nat} (h : EntsAt w bB (some ⟨g, o, none⟩) l) : EntsAt w bB (some ⟨g, o + p * 3, none⟩) ((l.drop p).take n) := by
  refine ⟨fun i x hi => ?_, fun g' o' e hl => ?_⟩
  · have hi2 : l[p + i]? = some x := by
      rw [List.getElem?_take] at hi
      split at hi
      · rwa [List.getElem?_drop] at hi
      · cases hi
    obtain ⟨g', o', e, hg, hc⟩ := h.lies (p + i) x hi2
    cases e
    refine ⟨g, _, rfl, hg, fun j u hu => ?_⟩
    have := hc j u hu
    rw [show o + p * 3 + i * 3 + j = o + (p + i) * 3 + j by omega]
    exact this
  · cases e
    exact h.safe g o rfl fun e => hl (by rw [e]; simp)
end
theorem push_box {w1 w2 : World} {BB pb va_n dn : Nat} {va : Option Addr} {vc : Nat} {cs : Array Value} {xs : List Value} {o : Obj} (hb : w1.heap[pb]? = some (.cells cs 25 (0, 0))) (hr : w1.ownsRow BB 3 1 (.slice va va_n vc) dn xs) (hg : (w1.alloc o).grownBy w2 (Value.slice va va_n vc).ownBlock) : w2.heap[pb]? = some (.cells cs 25 (0, 0)) := by
  refine (((Wrote.refl _ _).alloc o).trans (Wrote.of_grown hg)).heap hb fun hm => ?_
  obtain ⟨_, cur, hc⟩ := row_block hr (by simpa using hm)
  rw [hb] at hc
  cases hc
def DownT (w : World) (bB BB b m tb pb : Nat) (T : List ByteArray) (n0 f fin : Nat) (sl : Value) (ds : List Nat) (p : Nat) (part : List Ent) (c : Nat) (e : Ending) (w' : World) : Prop :=
  e = .returned (.tuple #[]) ∧ ∃ v' T' vB' es, PrvSt w' bB BB b m tb pb v' T' n0 f sl vB' (ds ++ es) ∧ BesideAt enc T' f fin p part es ∧ Ext T T' ∧ T'.length ≤ T.length + c ∧ Fz bB BB pb w w'
set_option maxRecDepth 100000 in
set_option maxHeartbeats 3200000 in
theorem down_apart (bB BB b m tb bt lb fb mb pb db : Nat) (v : Value) (T : List ByteArray) (a : Option Addr) (cap : Nat) (l : List Ent) (n0 f k p n : Nat) (sl vB : Value) (ds : List Nat) (w : World) (hc : Cap w bB tb bt lb fb mb pb db a cap l f k) (hs : PrvSt w bB BB b m tb pb v T n0 f sl vB ds)
    (hg : ∀ x ∈ l, Good x) (hl : l.length ≤ 1024) (hcap : l.length ≤ cap) (hpn : p + n ≤ l.length) (h1 : 1 ≤ n) (hfk : f + k ≤ l.length) (ha : apart p n f (f + k) = true) (hT : T.length ≤ 55000) (hds : ds.length ≤ 10000) :
    Calls Tryd.prog 20 #[.int .i64 (p : Int), .int .i64 (n : Int), .pointer (some ⟨fb, 0, none⟩), .pointer (some ⟨mb, 0, none⟩), .pointer (some ⟨pb, 0, none⟩), .pointer (some ⟨bt, 0, none⟩), .pointer (some ⟨lb, 0, none⟩), .pointer (some ⟨db, 0, none⟩)] w
      (DownT w bB BB b m tb pb T n0 f (f + k) sl ds p ((l.drop p).take n) (2 * n + 1)) := by
  have hA := fun W => apart_any p n f (f + k) W (by omega) (by omega) (by omega) (by omega)
  rw [ha, show ((f + k : Nat) : Int) = (f : Int) + (k : Int) by omega] at hA
  have HA := Lib.hid hA
  obtain ⟨x, hx⟩ : ∃ x, l[p]? = some x := ⟨_, List.getElem?_eq_getElem (by omega)⟩
  obtain ⟨g, o, rfl, -, -⟩ := hc.ents.at hx
  have hpl := part_len l p n hpn
  have hTop := top_any bB b m tb v T (some ⟨g, o + p * 3, none⟩) (cap - p) ((l.drop p).take n) w.drew (hs.tr.below (drew_below w)) ((hc.ents.below (drew_below w) hs.tr.le).part) (fun y hy => hg y (List.mem_of_mem_drop (List.mem_of_mem_take hy))) (by omega) (by omega)
  rw [hpl] at hTop
  have HTP : Hid (Calls Tryd.prog 18 #[.pointer (some ⟨tb, 0, none⟩), .slice (some ⟨g, o + p * 3, none⟩) n (cap - p)] w.drew (TopT w bB b m tb T ((l.drop p).take n) (2 * n + 1))) := hTop.mono fun e w' q => q.from (drew_below w) hs.tr.le (Nat.le_refl _)
  have c0 := one_cell hc.hbt
  have c1 := one_cell hc.hlb
  have c2 := one_cell hc.hfb
  have c3 := one_cell hc.hmb
  have c4 : w.cell? ⟨pb, 3, none⟩ = some vB := by rw [cell_of_row _ _ _ _ _ _ hs.box]; rfl
  obtain ⟨ln, hln⟩ : ∃ q, q = l.length := ⟨_, rfl⟩
  rw [← hln] at c1 hpn hcap hl hfk
  have i1 : (ln : Int) ≤ 1024 := by omega
  have i2 : (p : Int) + (n : Int) ≤ (ln : Int) := by omega
  have i3 : (f : Int) + (k : Int) ≤ (ln : Int) := by omega
  have i4 : (ln : Int) ≤ (cap : Int) := by omega
  have i5 : 1 ≤ (n : Int) := by omega
  clear hA hTop
  go_enter Tryd.func20, Tryd.ntmps20
  go_wp2_with (go_at_call 21; refine (HA.out _).mono ?_; rintro e w1 ⟨rfl, rfl⟩)
  obtain ⟨va, vc, rfl⟩ := row_slice hs.row
  obtain ⟨dn, hdn⟩ : ∃ q, q = ds.length := ⟨_, rfl⟩
  have HDN := Lib.hid hdn
  rw [← hdn] at c4 hds
  have HSB := Lib.hid hs
  obtain ⟨i0, hi0, hz0, hz1, hz2⟩ := info_parts int_info
  have HI := Lib.hid hi0
  have HZ := Lib.hid hz0
  have HS := Lib.hid hz1
  have HY := Lib.hid hz2
  have w1 : IntKind.i64.wrap ((p : Int) + (n : Int)) = (p : Int) + (n : Int) := IntWalk.i64_in _ (by omega)
  have p0 : p ≠ cap := by omega
  have q1 : (0 : Int) ≤ (p : Int) + (n : Int) := by omega
  have q2' : (p : Int) + (n : Int) ≤ (cap : Int) := by omega
  have q3' : ((p : Int) + (n : Int)).toNat = p + n := by omega
  have p1 : ¬ cap = p := by omega
  have HRW : Hid (∀ w1, Fx bB w w1 → w1.ownsRow BB 3 1 (.slice va dn vc) dn (ds.map iv)) := fun w1 q => by rw [hdn]; exact row_fx hs.row q fun _ _ => rfl
  have HBXK : Hid (∀ w1, Fx bB w w1 → w1.heap[pb]? = some (.cells #[.int .i64 (n0 : Int), .int .i64 (f : Int), sl, .slice va dn vc] 25 (0, 0))) := fun w1 q => by rw [hdn]; exact q.kept _ _ hs.box rfl
  have HEND : Hid (∀ (v1 : Value) (T1 : List ByteArray) (d gg capp : Nat) (w1 w2 : World) (ob : Obj), (TrAt w1 bB b m v1 T1 tb ∧ Ext T T1 ∧ TopAt enc T1 ((l.drop p).take n) d ∧ T1.length ≤ T.length + (2 * n + 1) ∧ Fx bB w w1) → (w1.alloc ob).grownBy w2 (Value.slice va dn vc).ownBlock →
      w2.ownsRow BB 3 1 (.slice (some ⟨gg, 0, none⟩) (dn + 1) capp) (dn + 1) (ds.map iv ++ [.int .i64 (d : Int)]) → DownT w bB BB b m tb pb T n0 f (f + k) sl ds p ((l.drop p).take n) (2 * n + 1) (.returned (.tuple #[])) (w2.setCell ⟨pb, 3, none⟩ (.slice (some ⟨gg, 0, none⟩) (dn + 1) capp))) := by
    rintro v1 T1 d gg capp w1 w2 ob ⟨q1, q2, q3, q4, q5⟩ hgr hown
    rw [hdn] at hgr hown ⊢
    obtain ⟨e1, e2⟩ := (hs.fx q5 q1).push hgr hown
    exact ⟨rfl, v1, T1, _, [d], e1, .apart p _ d (by rw [hpl]; exact ha) q3, q2, q4, q5.fz.trans e2⟩
  clear hc hs hx hpl hi0 hz0 hz1 hz2 hdn ha
  go_region_law ((first
    | (go_simp; go_at_call 18; refine HTP.out.mono ?_; rintro e w1 ⟨v1, T1, d, rfl, q2, x2, t2, k2, f2⟩; have HQ := Lib.hid (And.intro q2 (And.intro x2 (And.intro t2 (And.intro k2 f2)))); have hbx1 := HBXK.out _ f2; have c4 : w1.cell? ⟨pb, 3, none⟩ = some (.slice va dn vc) := (by rw [cell_of_row _ _ _ _ _ _ hbx1]; rfl); have lp1 := lt_of_heap hbx1; have HBX1 := Lib.hid hbx1; have HR1 := Lib.hid (HRW.out _ f2); have HS1 := Lib.hid f2.size; clear q2 x2 t2 k2 f2 hbx1; (try dsimp only))
    | (refine step_append_lies _ (by rfl) _ _ _ (by rfl) BB 3 i0 _ 1 8 Tryd.underlying23 HI.out HZ.out HS.out HY.out rfl (by omega) (.slice va dn vc) dn (ds.map iv) (by rfl) (HR1.out.alloc _)
        ⟨w1.heap.size, 0, none⟩ 1 1 [.int .i64 (d : Int)] (by rfl) (by rfl) (World.news_of_block (cs := #[.int .i64 (d : Int)]) (t := 3) (fr := (0, 0)) (heap_alloc_new w1 _)) (by simp [Value.oneCell'])
        (by omega) (by unfold maxLen; omega) (by omega) (by have := HSB.out.le2; have := HS1.out; simp; omega) (w1.heap.size + 1) (by simp) ?_; intro gg capp w2 hown1 hgrow hat hlt; have HO := Lib.hid hown1; have HG := Lib.hid hgrow; have hbx2 := push_box HBX1.out HR1.out hgrow; have e0 : w2.cell? ⟨pb, 3, none⟩ = some (.slice va dn vc) := (by rw [cell_of_row _ _ _ _ _ _ hbx2]; rfl); have f2 : w2.frozen? ⟨pb, 3, none⟩ = false := (by unfold World.frozen?; rw [hbx2]; rfl); clear hown1 hgrow hat hbx2)))
  all_goals go_wp2_with fail
  all_goals go_end0
  all_goals exact HEND.out _ _ _ _ _ _ _ _ HQ.out HG.out HO.out
end Go.Proofs.YtlepjjcnlcnnfaaDoor.Merkle
