/- Merkle: Prove. -/
import Derived.Test.YtlepjjcnlcnnfaaDoorMkDown2
import Derived.Laws.EntriesVeiled
namespace Go.Proofs.YtlepjjcnlcnnfaaDoor.Merkle
open Go.RowKit Go.My

/-- entries to be copied, wherever -/
structure SrcE (w : World) (ax : Option Addr) (l : List Ent) : Prop where
  cells : l ≠ [] → ∃ ad, ax = some ad ∧ ∀ j u, (l.flatMap entL)[j]? = some u → w.cell? (ad.add j) = some u
theorem ents_one (l : List Ent) : ∀ u ∈ l.flatMap entL, u.oneCell' = true := by
  intro u hu
  obtain ⟨x, _, hx⟩ := List.mem_flatMap.1 hu
  exact ent_one x u hx
theorem ents_len (l : List Ent) : (l.flatMap entL).length = l.length * 3 := by
  induction l with
  | nil => rfl
  | cons x l ih => rw [List.flatMap_cons, List.length_append, ih, entL_len, List.length_cons]; omega
theorem append_none {w : World} (t ty e : TypeId) (i : TypeInfo) (ht : Tryd.prog.underlying t = some (.slice e)) (hi : Tryd.prog.info? e = some i) (g c : Nat) :
    (Builtin.append_ #[t, t] ty #[.slice (some ⟨g, 0, none⟩) 0 0, .slice none 0 c]).run Tryd.prog w = .ok (.slice (some ⟨g, 0, none⟩) 0 0) w := by
  simp [Builtin.append_, run_underlying ht, sizeOf, typeInfo, hi, Builtin.lenOf, Builtin.firstCells, storeCells]
theorem wp_append_e {w : World} {o : Oper} {a : Act} {K : Act → World → Prop} {Q : Exit → Act → World → Prop} (s x : Operand)
    (ho : o.op = .call { callee := .builtin .append, args := #[s, x], argTypes := #[22, 22] }) (base g0 : Nat) (hs : a.eval s = .slice (some ⟨g0, 0, none⟩) 0 0) (hg0 : w.heap[g0]? = some (.cells #[] 36 (0, 0))) (hb0 : base ≤ g0)
    (ax : Option Addr) (n c : Nat) (l : List Ent) (hn : n = l.length) (hx : a.eval x = .slice ax n c) (hsrc : SrcE w ax l) (hM : l.length ≤ 1000000) (hbase : base ≤ w.heap.size)
    (h : ∀ va vc w', w'.ownsRow base 36 3 (.slice va n vc) n (l.flatMap entL) → w.grownBy w' (some g0) → K (a.put o.dst (.slice va n vc)) w') : Oper.wp Tryd.prog o a w K Q := by
  obtain ⟨i0, hi0, hz0, hz1, hz2⟩ := info_parts ent_info
  have hown : w.ownsRow base 36 3 (.slice (some ⟨g0, 0, none⟩) 0 0) 0 [] := ⟨by simp, .inr ⟨g0, 0, #[], rfl, hb0, hg0, Nat.le_refl _, by unfold maxLen; omega, by simp, by simp⟩⟩
  subst hn
  cases ax with
  | none =>
    have hM0 : l = [] := by
      by_cases h0 : l = []
      · exact h0
      · obtain ⟨ad, h1, _⟩ := hsrc.cells h0
        cases h1
    subst hM0
    have hrun := append_none (w := w) 22 o.type 36 i0 Tryd.underlying22 hi0 g0 c
    have hk := h (some ⟨g0, 0, none⟩) 0 w hown (World.grownBy.refl w _)
    simp only [List.length_nil] at hx hk
    unfold Oper.wp
    simp [execOp, ho, resolve, invoke, builtin, hs, hx, hrun, Result.andThen]
    exact hk
  | some ad =>
    refine wp_append_own w s x 22 ho base 36 i0 _ 3 40 Tryd.underlying22 hi0 hz0 hz1 hz2 rfl (by decide) _ 0 [] hs hown ad l.length c (l.flatMap entL) hx (ents_len l) (fun j u hu => ?_) (ents_one l) (by unfold maxLen; omega) (by omega) hbase (fun v' w' h2 h3 h4 => ?_)
    · have h0 : l ≠ [] := fun e => by rw [e] at hu; simp at hu
      obtain ⟨ad', h1, h2⟩ := hsrc.cells h0
      cases h1
      exact h2 j u hu
    · rw [Nat.zero_add, List.nil_append] at h2
      obtain ⟨va, vc, rfl⟩ := row_slice h2
      exact h va vc w' h2 h3
theorem step_append_e {w : World} {ops : Array Oper} {o : Oper} {a : Act} {K : Act → World → Prop} {Q : Exit → Act → World → Prop} {E : Prop} (hgd : o.guard = none) (s x : Operand)
    (ho : o.op = .call { callee := .builtin .append, args := #[s, x], argTypes := #[22, 22] }) (base g0 : Nat) (hs : a.eval s = .slice (some ⟨g0, 0, none⟩) 0 0) (hg0 : w.heap[g0]? = some (.cells #[] 36 (0, 0))) (hb0 : base ≤ g0)
    (ax : Option Addr) (n c : Nat) (l : List Ent) (hn : n = l.length) (hx : a.eval x = .slice ax n c) (hsrc : SrcE w ax l) (hM : l.length ≤ 1000000) (hbase : base ≤ w.heap.size)
    (h : ∀ va vc w', w'.ownsRow base 36 3 (.slice va n vc) n (l.flatMap entL) → w.grownBy w' (some g0) → K (a.put o.dst (.slice va n vc)) w') : if Region.wanted o (yielded ops a.tmps) = true then Oper.wp Tryd.prog o a w K Q else E := by
  have hw : Region.wanted o (yielded ops a.tmps) = true := by simp [Region.wanted, hgd]
  rw [if_pos hw]
  exact wp_append_e s x ho base g0 hs hg0 hb0 ax n c l hn hx hsrc hM hbase h
def proofO (x0 x1 : Int) (u v : Value) : Obj := .cells #[.int .i64 x0, .int .i64 x1, u, v] 25
def prvW (w : World) (a : Option Addr) (cap n : Nat) (f k : Int) : World := (((w.alloc (.cells #[.slice a n cap] 22)).alloc (.cells #[.int .i64 f] 3)).alloc (.cells #[.int .i64 k] 3)).alloc (.cells #[.int .i64 0, .int .i64 0, .slice none 0 0, .slice none 0 0] 25)
theorem prvW_facts (w : World) (a : Option Addr) (cap n : Nat) (f k : Int) : Below w.heap.size w (prvW w a cap n f k) ∧ (prvW w a cap n f k).heap.size = w.heap.size + 4 ∧ (prvW w a cap n f k).heap[w.heap.size]? = some (.cells #[.slice a n cap] 22 (0, 0)) ∧ (prvW w a cap n f k).heap[w.heap.size + 1]? = some (.cells #[.int .i64 f] 3 (0, 0)) ∧
    (prvW w a cap n f k).heap[w.heap.size + 1 + 1]? = some (.cells #[.int .i64 k] 3 (0, 0)) ∧ (prvW w a cap n f k).heap[w.heap.size + 1 + 1 + 1]? = some (.cells #[.int .i64 0, .int .i64 0, .slice none 0 0, .slice none 0 0] 25 (0, 0)) := by
  have hn : ∀ (X : World) (o : Obj) (q : Nat), q = X.heap.size → (X.alloc o).heap[q]? = some o := fun X o q h => by rw [h]; exact heap_alloc_new X o
  unfold prvW
  refine ⟨((((Below.refl _ _).alloc (Nat.le_refl _) _).alloc (by simp) _).alloc (by simp <;> omega) _).alloc (by simp <;> omega) _, by simp, ?_, ?_, ?_, ?_⟩
  · rw [heap_alloc_old _ _ (by simp <;> omega), heap_alloc_old _ _ (by simp <;> omega), heap_alloc_old _ _ (by simp)]
    exact hn _ _ _ rfl
  · rw [heap_alloc_old _ _ (by simp <;> omega), heap_alloc_old _ _ (by simp)]
    exact hn _ _ _ (by simp)
  · rw [heap_alloc_old _ _ (by simp)]
    exact hn _ _ _ (by simp)
  · exact hn _ _ _ (by simp)
def zeroP : Value := .agg #[.int .i64 0, .int .i64 0, .slice none 0 0, .slice none 0 0]
set_option maxRecDepth 100000 in
set_option maxHeartbeats 1600000 in
theorem prove_no (b : Nat) (a : Option Addr) (cap : Nat) (l : List Ent) (f k : Int) (w : World) (hL : LiesAt w a 3 entL l) (hm : l.length ≤ 100000) (hs : Wide l) (hr : rightB l = false) :
    Calls Tryd.prog 11 #[.pointer (some ⟨b, 0, none⟩), .slice a l.length cap, .int .i64 f, .int .i64 k] w fun e w' => e = .returned (.tuple #[zeroP, wrongV 1]) ∧ Below w.heap.size w w' := by
  obtain ⟨hb, hsz, h1, h2, h3, h4⟩ := prvW_facts w a cap l.length f k
  have HR := Lib.hid (right_any a cap l (prvW w a cap l.length f k) (hL.below hb) hm fun x hx => (hs x hx).1)
  unfold RightLeft at HR
  rw [hr] at HR
  have HWR := Lib.hid (fun (W : World) => wrong_any 1 W rfl)
  have c0 := one_cell h1
  have HB := Lib.hid hb
  have HS := Lib.hid hsz
  have HRES := Lib.hid h4
  obtain ⟨W, hW⟩ : ∃ W : World, W = prvW w a cap l.length f k := ⟨_, rfl⟩
  obtain ⟨n, hn⟩ : ∃ n, n = l.length := ⟨_, rfl⟩
  rw [← hn] at hW c0 HR HB HRES ⊢
  rw [← hW] at c0 HR HB HRES
  have HW : Hid ((((w.alloc (.cells #[.slice a n cap] 22)).alloc (.cells #[.int .i64 f] 3)).alloc (.cells #[.int .i64 k] 3)).alloc (.cells #[.int .i64 0, .int .i64 0, .slice none 0 0, .slice none 0 0] 25) = W) := hW.symm
  clear hL hm hs hr hb hsz h1 h2 h3 h4 hW hn
  go_enter Tryd.func11, Tryd.ntmps11
  go_upto_region 1 with fail
  rw [HW.out]
  go_wp2_with fail
  refine HR.out.mono ?_
  rintro e w1 ⟨rfl, hb1⟩
  have hr1 := box_kept hb1 HRES.out
  have HB1 := Lib.hid hb1
  obtain ⟨rb, hrb⟩ : ∃ q, q = w.heap.size + 1 + 1 + 1 := ⟨_, rfl⟩
  rw [← hrb] at hr1
  have e0 : w1.cell? ⟨rb, 0, none⟩ = some (.int .i64 0) := by rw [cell_of_row _ _ _ _ _ _ hr1]; rfl
  have e1 : w1.cell? ⟨rb, 1, none⟩ = some (.int .i64 0) := by rw [cell_of_row _ _ _ _ _ _ hr1]; rfl
  have e2 : w1.cell? ⟨rb, 2, none⟩ = some (.slice none 0 0) := by rw [cell_of_row _ _ _ _ _ _ hr1]; rfl
  have e3 : w1.cell? ⟨rb, 3, none⟩ = some (.slice none 0 0) := by rw [cell_of_row _ _ _ _ _ _ hr1]; rfl
  have f0 : w1.frozen? ⟨rb, 0, none⟩ = false := by unfold World.frozen?; rw [hr1]; rfl
  have f1 : w1.frozen? ⟨rb, 1, none⟩ = false := by unfold World.frozen?; rw [hr1]; rfl
  have f2 : w1.frozen? ⟨rb, 2, none⟩ = false := by unfold World.frozen?; rw [hr1]; rfl
  have f3 : w1.frozen? ⟨rb, 3, none⟩ = false := by unfold World.frozen?; rw [hr1]; rfl
  have HRB := Lib.hid hrb
  clear hb1 hr1
  rw [← hrb]
  clear hrb c0
  go_wp2_with (go_at_call 16; refine (HWR.out _).mono ?_; rintro e w2 ⟨rfl, rfl⟩)
  refine bodyPost_ret (v := .tuple #[.agg #[.int .i64 0, .int .i64 0, .slice none 0 0, .slice none 0 0], wrongV 1]) (by simp [results, Tryd.results11, go_sem, e0, e1, e2, e3]) rfl ⟨rfl, ?_⟩
  have hwr : Wrote [rb] w1 ((((w1.setCell ⟨rb, 0, none⟩ (.int .i64 0)).setCell ⟨rb, 1, none⟩ (.int .i64 0)).setCell ⟨rb, 2, none⟩ (.slice none 0 0)).setCell ⟨rb, 3, none⟩ (.slice none 0 0)) := ((((Wrote.refl _ _).setCell (.inl (by simp)) _).setCell (.inl (by simp)) _).setCell (.inl (by simp)) _).setCell (.inl (by simp)) _
  refine (HB.out.trans (HB1.out.mono HB.out.size)).trans (hwr.below (Nat.le_trans HB.out.size HB1.out.size) fun q hq => ?_)
  have e : q = rb := by simpa using hq
  rw [e, HRB.out]
  omega
theorem bl_alloc (B : World) (o : Obj) : Below B.heap.size B (B.alloc o) := (Below.refl _ B).alloc (Nat.le_refl _) o
theorem below_grown {W X w3 : World} {o : Obj} (h : Below W.heap.size W X) (hg : (X.alloc o).grownBy w3 (some X.heap.size)) : Below W.heap.size W w3 :=
  h.trans ((Wrote.below (S := []) (((Wrote.refl [] X).alloc o).grown hg fun q hq => .inr (by cases hq; exact Nat.le_refl _)) (Nat.le_refl _) (by simp)).mono h.size)
theorem below_grown2 {W X w3 : World} {o o2 : Obj} {g0 : Nat} (h : Below W.heap.size W X) (hg : ((X.alloc o).alloc o2).grownBy w3 (some g0)) (hge : X.heap.size ≤ g0) : Below W.heap.size W w3 :=
  h.trans ((Wrote.below (S := []) ((((Wrote.refl [] X).alloc o).alloc o2).grown hg fun q hq => .inr (by cases hq; exact hge)) (Nat.le_refl _) (by simp)).mono h.size)
theorem zkB {X w3 : World} {e z : Obj} (hg : ((X.alloc e).alloc z).drew.grownBy w3 (some X.heap.size)) : w3.heap[X.heap.size + 1]? = some z := by
  refine (hg.block _ (by simp) (by simp)).trans ?_
  show ((X.alloc e).alloc z).heap[X.heap.size + 1]? = _
  have := heap_alloc_new (X.alloc e) z
  simpa using this
theorem set4 {N p : Nat} {W w3 : World} {u0 u1 u2 u3 : Value} (h : Below N W w3) (hN : N ≤ W.heap.size) (hp : N ≤ p) : Below N W ((((w3.setCell ⟨p, 0, none⟩ u0).setCell ⟨p, 1, none⟩ u1).setCell ⟨p, 2, none⟩ u2).setCell ⟨p, 3, none⟩ u3) := by
  have hw : Wrote [p] w3 ((((w3.setCell ⟨p, 0, none⟩ u0).setCell ⟨p, 1, none⟩ u1).setCell ⟨p, 2, none⟩ u2).setCell ⟨p, 3, none⟩ u3) := ((((Wrote.refl _ _).setCell (.inl (by simp)) _).setCell (.inl (by simp)) _).setCell (.inl (by simp)) _).setCell (.inl (by simp)) _
  exact h.trans (hw.below (Nat.le_trans hN h.size) fun k hk => by have e : k = p := (by simpa using hk); rw [e]; exact hp)
theorem zkC {X w3 : World} {e z : Obj} (hg : ((X.alloc z).alloc e).drew.grownBy w3 (some (X.heap.size + 1))) : w3.heap[X.heap.size]? = some z := by
  refine (hg.block _ (by simp <;> omega) (by simp)).trans ?_
  show ((X.alloc z).alloc e).heap[X.heap.size]? = _
  rw [heap_alloc_old _ _ (by simp)]
  exact heap_alloc_new X z
theorem hgC (X : World) (z e : Obj) : ((X.alloc z).alloc e).heap[X.heap.size + 1]? = some e := by
  have := heap_alloc_new (X.alloc z) e
  simpa using this
theorem hgB (X : World) (z e : Obj) : ((X.alloc e).alloc z).heap[X.heap.size]? = some e := by
  rw [heap_alloc_old _ _ (by simp)]
  exact heap_alloc_new X e
theorem zero_cells {w : World} {q : Nat} (h : w.heap[q]? = some (.cells #[.int .i64 0, .int .i64 0, .slice none 0 0, .slice none 0 0] 25 (0, 0))) : w.cell? ⟨q, 0, none⟩ = some (.int .i64 0) ∧ w.cell? ⟨q, 1, none⟩ = some (.int .i64 0) ∧ w.cell? ⟨q, 2, none⟩ = some (.slice none 0 0) ∧ w.cell? ⟨q, 3, none⟩ = some (.slice none 0 0) ∧
    w.frozen? ⟨q, 0, none⟩ = false ∧ w.frozen? ⟨q, 1, none⟩ = false ∧ w.frozen? ⟨q, 2, none⟩ = false ∧ w.frozen? ⟨q, 3, none⟩ = false := by
  have hf : ∀ i, i < 4 → w.frozen? ⟨q, i, none⟩ = false := fun i hi => by
    unfold World.frozen?
    rw [h]
    simp
  exact ⟨by rw [cell_of_row _ _ _ _ _ _ h]; rfl, by rw [cell_of_row _ _ _ _ _ _ h]; rfl, by rw [cell_of_row _ _ _ _ _ _ h]; rfl, by rw [cell_of_row _ _ _ _ _ _ h]; rfl, hf 0 (by omega), hf 1 (by omega), hf 2 (by omega), hf 3 (by omega)⟩
/-- the proof's variable, new -/
structure PvNew (W2 : World) (pb : Nat) (va : Option Addr) (vc n f k : Nat) (sub : List Ent) (wx : World) : Prop where
  box : wx.heap[pb]? = some (.cells #[.int .i64 (n : Int), .int .i64 (f : Int), .slice va k vc, .slice none 0 0] 25 (0, 0))
  row : wx.ownsRow W2.heap.size 36 3 (.slice va k vc) k (sub.flatMap entL)
  below : Below W2.heap.size W2 wx
  ge : W2.heap.size ≤ pb
theorem pvA {W2 w3 : World} {va : Option Addr} {vc n f k : Nat} {sub : List Ent} (hr : w3.ownsRow W2.heap.size 36 3 (.slice va k vc) k (sub.flatMap entL)) (hb : Below W2.heap.size W2 w3) :
    PvNew W2 w3.heap.size va vc n f k sub (w3.alloc (.cells #[.int .i64 (n : Int), .int .i64 (f : Int), .slice va k vc, .slice none 0 0] 25)) :=
  ⟨heap_alloc_new _ _, row_below hr (bl_alloc _ _), hb.trans ((bl_alloc _ _).mono hb.size), hb.size⟩
theorem pvB {W2 w3 : World} {va : Option Addr} {vc n f k p : Nat} {sub : List Ent} (hr : w3.ownsRow W2.heap.size 36 3 (.slice va k vc) k (sub.flatMap entL)) (hb : Below W2.heap.size W2 w3)
    (hz : w3.heap[p]? = some (.cells #[.int .i64 0, .int .i64 0, .slice none 0 0, .slice none 0 0] 25 (0, 0))) (hp : W2.heap.size ≤ p) :
    PvNew W2 p va vc n f k sub ((((w3.setCell ⟨p, 0, none⟩ (.int .i64 (n : Int))).setCell ⟨p, 1, none⟩ (.int .i64 (f : Int))).setCell ⟨p, 2, none⟩ (.slice va k vc)).setCell ⟨p, 3, none⟩ (.slice none 0 0)) := by
  have hne : (Value.slice va k vc).ownBlock ≠ some p := fun e => by
    obtain ⟨_, cur, hc⟩ := row_block hr e
    rw [hz] at hc
    cases hc
  refine ⟨?_, ?_, set4 hb (Nat.le_refl _) hp, hp⟩
  · obtain ⟨hlt, hgt⟩ := Array.getElem?_eq_some_iff.1 hz
    simp [World.setCell, Array.getElem?_modify, hz]
  · exact ownsRow_setCell_other (ownsRow_setCell_other (ownsRow_setCell_other (ownsRow_setCell_other hr (a := ⟨p, 0, none⟩) hne _) (a := ⟨p, 1, none⟩) hne _) (a := ⟨p, 2, none⟩) hne _) (a := ⟨p, 3, none⟩) hne _
/-- what Prove leaves -/
def ProveT (w : World) (bB b m : Nat) (T : List ByteArray) (l : List Ent) (f k : Nat) (e : Ending) (w' : World) : Prop :=
  ∃ v' T' a1 c1 a2 c2 ds, e = .returned (.tuple #[.agg #[.int .i64 (l.length : Int), .int .i64 (f : Int), .slice a1 k c1, .slice a2 ds.length c2], .nilIface]) ∧ BkT w' bB b m v' T' ∧ Ext T T' ∧ BesideAt enc T' f (f + k) 0 l ds ∧ EntsAt w' bB a1 ((l.drop f).take k) ∧
    LiesAt w' a2 1 numN ds ∧ (∀ g o, a2 = some ⟨g, o, none⟩ → ds ≠ [] → Safe bB w' g) ∧ ds.length ≤ c2 ∧ T'.length ≤ T.length + (3 * l.length + 1) ∧ Fx bB w w'
theorem row_cap {w : World} {base : Nat} {e : TypeId} {c n cap : Nat} {a : Option Addr} {xs : List Value} (h : w.ownsRow base e c (.slice a n cap) n xs) : n ≤ cap := by
  rcases h with ⟨_, ⟨h, _⟩ | ⟨g, cp, cur, h1, _, _, h4, _⟩⟩
  · cases h
    exact Nat.le_refl _
  · cases h1
    exact h4
theorem prove_end {w W5 w6 : World} {bB b m tb pb n f k c base rs vc : Nat} {T : List ByteArray} {va : Option Addr} {l sub : List Ent} {e : Ending} (hbB : bB ≤ w.heap.size) (hb : Below w.heap.size w W5) (hd : DownT W5 bB W5.heap.size b m tb pb T n f (f + k) (.slice va k vc) [] 0 l c e w6)
    (hres : W5.heap[rs]? = some (.cells #[.int .i64 0, .int .i64 0, .slice none 0 0, .slice none 0 0] 25 (0, 0))) (hrow : W5.ownsRow base 36 3 (.slice va k vc) k (sub.flatMap entL)) (hpw : w.heap.size ≤ pb) (hrw : w.heap.size ≤ rs) (hrp : rs ≠ pb) (hk : k = sub.length) (hsub : sub = (l.drop f).take k) (hn : n = l.length) (hc : c ≤ 3 * l.length + 1) {cs5 : Array Value} (hp5 : W5.heap[pb]? = some (.cells cs5 25 (0, 0))) :
    e = .returned (.tuple #[]) ∧ ∃ a2 c2 dn, w6.heap[rs]? = some (.cells #[.int .i64 0, .int .i64 0, .slice none 0 0, .slice none 0 0] 25 (0, 0)) ∧ w6.heap[pb]? = some (.cells #[.int .i64 (n : Int), .int .i64 (f : Int), .slice va k vc, .slice a2 dn c2] 25 (0, 0)) ∧ w6.heap[tb]? = some (.cells #[.pointer (some ⟨b, 0, none⟩), .nilIface] 53 (0, 0)) ∧
      (∀ (q : Nat) (u : Value), W5.heap[q]? = some (.cells #[u] 51 (0, 0)) → w6.heap[q]? = some (.cells #[u] 51 (0, 0))) ∧
      ProveT w bB b m T l f k (.returned (.tuple #[.agg #[.int .i64 (n : Int), .int .i64 (f : Int), .slice va k vc, .slice a2 dn c2], .nilIface])) ((((w6.setCell ⟨rs, 0, none⟩ (.int .i64 (n : Int))).setCell ⟨rs, 1, none⟩ (.int .i64 (f : Int))).setCell ⟨rs, 2, none⟩ (.slice va k vc)).setCell ⟨rs, 3, none⟩ (.slice a2 dn c2)) := by
  obtain ⟨he, v', T', vB', es, q1, q2, q3, q4, q5⟩ := hd
  rw [List.nil_append] at q1
  obtain ⟨a2, c2, rfl⟩ := row_slice q1.row
  have keep : ∀ (k : Nat) (o : Obj), W5.heap[k]? = some o → (∀ cs fr, o ≠ .cells cs 25 fr) → Kd o = false → w6.heap[k]? = some o := fun k o ho hno hkd => q5.kept k o (fun e => by rw [e, hp5] at ho; cases ho; exact hno _ _ rfl) ho hkd (.inl (lt_of_heap ho))
  have hr6 : w6.heap[rs]? = some (.cells #[.int .i64 0, .int .i64 0, .slice none 0 0, .slice none 0 0] 25 (0, 0)) := q5.kept _ _ hrp hres rfl (.inl (lt_of_heap hres))
  have hw : Wrote [rs] w6 ((((w6.setCell ⟨rs, 0, none⟩ (.int .i64 (n : Int))).setCell ⟨rs, 1, none⟩ (.int .i64 (f : Int))).setCell ⟨rs, 2, none⟩ (.slice va k vc)).setCell ⟨rs, 3, none⟩ (.slice a2 es.length c2)) := ((((Wrote.refl _ _).setCell (.inl (by simp)) _).setCell (.inl (by simp)) _).setCell (.inl (by simp)) _).setCell (.inl (by simp)) _
  have hno6 : ∀ (k : Nat) (o : Obj), w6.heap[k]? = some o → (∀ cs fr, o ≠ .cells cs 25 fr) → k ∉ [rs] := fun k o ho hno hm => by
    have e : k = rs := by simpa using hm
    rw [e, hr6] at ho
    cases ho
    exact hno _ _ rfl
  have hrow6 : w6.ownsRow base 36 3 (.slice va k vc) k (sub.flatMap entL) := by
    rcases hrow with ⟨hl, h | ⟨x, cp, cur, h1, h2, h3, h4⟩⟩
    · exact ⟨hl, .inl h⟩
    · exact ⟨hl, .inr ⟨x, cp, cur, h1, h2, keep _ _ h3 (fun _ _ e => by cases e) rfl, h4⟩⟩
  have hrow7 := row_wrote hrow6 hw fun g hg => by
    obtain ⟨_, cur, hcc⟩ := row_block hrow6 hg
    exact hno6 g _ hcc fun _ _ e => by cases e
  have hds7 := row_wrote q1.row hw fun g hg => by
    obtain ⟨_, cur, hcc⟩ := row_block q1.row hg
    exact hno6 g _ hcc fun _ _ e => by cases e
  refine ⟨he, a2, c2, es.length, hr6, q1.box, q1.tr.blk, fun q u h => keep q _ h (fun _ _ e => by cases e) rfl, v', T', va, vc, a2, c2, es, by rw [hn], ⟨book_wrote q1.tr.book hw (hno6 b _ q1.tr.book.blk fun _ _ e => by cases e) ?_ ?_, q1.tr.nd⟩, q3, q2, ?_, ?_, ?_, row_cap q1.row, by omega, ?_, ?_⟩
  · obtain ⟨ees, cl, hee, _⟩ := q1.tr.book.map.len
    exact hno6 m _ hee fun _ _ e => by cases e
  · intro g hg
    obtain ⟨_, cur, hcc⟩ := row_block q1.tr.book.row hg
    exact hno6 g _ hcc fun _ _ e => by cases e
  · rw [← hsub]
    refine ⟨row_liesAt hrow7 entL_len hk, fun g o e hne => ?_⟩
    have hg : (Value.slice va k vc).ownBlock = some g := by
      rw [e]
      rcases hrow7 with ⟨hl, h | ⟨x, cp, cur, h1, _⟩⟩
      · have := h.2
        exact absurd (List.length_eq_zero_iff.1 (by omega)) hne
      · rw [e] at h1
        cases h1
        rfl
    obtain ⟨_, cur, hcc⟩ := row_block hrow7 hg
    exact ⟨lt_of_heap hcc, .inr ⟨_, hcc, rfl⟩⟩
  · have h3 := row_lies1 (e := iv) hds7 rfl
    exact h3
  · intro g o e hne
    have hg : (Value.slice a2 es.length c2).ownBlock = some g := by
      rw [e]
      rcases hds7 with ⟨hl, h | ⟨x, cp, cur, h1, _⟩⟩
      · have := h.2
        exact absurd (List.length_eq_zero_iff.1 this) hne
      · rw [e] at h1
        cases h1
        rfl
    obtain ⟨_, cur, hcc⟩ := row_block hds7 hg
    exact ⟨lt_of_heap hcc, .inr ⟨_, hcc, rfl⟩⟩
  · exact ((hb.mono hbB).trans q5.below).trans (hw.below (Nat.le_trans hbB (Nat.le_trans hb.size q5.size)) fun q hq => by have e : q = rs := (by simpa using hq); rw [e]; exact Nat.le_trans hbB hrw)
  · intro q o hq ho
    have h5 : W5.heap[q]? = some o := (hb.block q (lt_of_heap hq)).trans hq
    have h6 := q5.kept q o (fun e => by have := lt_of_heap hq; omega) h5 ho (.inl (lt_of_heap h5))
    exact hw.heap h6 (fun hm => by have e : q = rs := (by simpa using hm); have := lt_of_heap hq; omega)
set_option maxRecDepth 100000 in
set_option maxHeartbeats 6400000 in
theorem prove_yes (bB b m : Nat) (v : Value) (T : List ByteArray) (a : Option Addr) (cap : Nat) (l : List Ent) (f k : Nat) (w : World) (h : BkT w bB b m v T) (he : EntsAt w bB a l) (hs : Wide l) (hr : rightB l = true) (hcap : l.length ≤ cap) (hc9 : cap ≤ maxLen) (hfk : f + k ≤ l.length) (hT : T.length ≤ 50000) :
    Calls Tryd.prog 11 #[.pointer (some ⟨b, 0, none⟩), .slice a l.length cap, .int .i64 (f : Int), .int .i64 (k : Int)] w (ProveT w bB b m T l f k) := by
  obtain ⟨hb, hsz, h1, h2, h3, h4⟩ := prvW_facts w a cap l.length (f : Int) (k : Int)
  have hlen := right_len hr
  have hg := right_good hr hs
  have HR := Lib.hid (right_any a cap l (prvW w a cap l.length f k) (he.lies.below hb) (by omega) fun x hx => (hs x hx).1)
  unfold RightLeft at HR
  rw [hr] at HR
  have c0 := one_cell h1
  have c1 := one_cell h2
  have c2 := one_cell h3
  obtain ⟨W, hW⟩ : ∃ W : World, W = prvW w a cap l.length f k := ⟨_, rfl⟩
  obtain ⟨n, hn⟩ : ∃ n, n = l.length := ⟨_, rfl⟩
  rw [← hn] at hW c0 c1 c2 HR hb hsz h1 h2 h3 h4 hlen hcap hfk ⊢
  rw [← hW] at c0 c1 c2 HR hb hsz h1 h2 h3 h4
  have HW : Hid ((((w.alloc (.cells #[.slice a n cap] 22)).alloc (.cells #[.int .i64 (f : Int)] 3)).alloc (.cells #[.int .i64 (k : Int)] 3)).alloc (.cells #[.int .i64 0, .int .i64 0, .slice none 0 0, .slice none 0 0] 25) = W) := hW.symm
  unfold maxLen at hc9
  have i1 : (n : Int) ≤ 1024 := by omega
  have i2 : (f : Int) + (k : Int) ≤ (n : Int) := by omega
  have i3 : (n : Int) ≤ (cap : Int) := by omega
  have i4 : (cap : Int) ≤ 9223372036854775807 := by omega
  have t1 : decide ((f : Int) < 0) = false := by simp
  have t2 : decide ((k : Int) < 0) = false := by simp
  have t3 : decide (n < f) = false := by simp; omega
  have t4 : decide ((n : Int) - (f : Int) < (k : Int)) = false := by simp; omega
  obtain ⟨lb, hlb⟩ : ∃ q, q = w.heap.size := ⟨_, rfl⟩
  have HLB := Lib.hid hlb.symm
  rw [← hlb] at c0 c1 c2 h1 h2 h3 h4
  have HALL := Lib.hid (And.intro hb (And.intro hsz (And.intro h1 (And.intro h2 (And.intro h3 h4)))))
  have HIN := Lib.hid (And.intro h (And.intro he (And.intro hg hn)))
  clear h he hs hr hb hsz h1 h2 h3 h4 hW hn hlb hg
  go_enter Tryd.func11, Tryd.ntmps11
  go_upto_region 1 with fail
  rw [HW.out, HLB.out]
  go_wp2_with fail
  refine HR.out.mono ?_
  rintro e w1 ⟨rfl, hb1⟩
  have HB1 := Lib.hid hb1
  have d0 := one_cell (box_kept hb1 HALL.out.2.2.1)
  have d1 := one_cell (box_kept hb1 HALL.out.2.2.2.1)
  have d2 := one_cell (box_kept hb1 HALL.out.2.2.2.2.1)
  have lw1 : lb + 1 + 1 + 1 < w1.heap.size := by have := hb1.size; have := HALL.out.2.1; have := HLB.out; omega
  clear hb1 c0 c1 c2
  go_upto_region 4 with fail
  obtain ⟨W2, hW2⟩ : ∃ W2 : World, W2 = (w1.alloc (.cells #[.pointer (some ⟨b, 0, none⟩), .nilIface] 53)).alloc (.cells #[.pointer (some ⟨w1.heap.size, 0, none⟩)] 51) := ⟨_, rfl⟩
  have hb12 : Below w1.heap.size w1 W2 := by rw [hW2]; exact ((Below.refl _ _).alloc (Nat.le_refl _) _).alloc (by simp) _
  have hsz2 : W2.heap.size = w1.heap.size + 2 := by rw [hW2]; simp
  have htree : W2.heap[w1.heap.size]? = some (.cells #[.pointer (some ⟨b, 0, none⟩), .nilIface] 53 (0, 0)) := by rw [hW2, heap_alloc_old _ _ (by simp)]; exact heap_alloc_new w1 _
  have hbt : W2.heap[w1.heap.size + 1]? = some (.cells #[.pointer (some ⟨w1.heap.size, 0, none⟩)] 51 (0, 0)) := by
    rw [hW2]
    have := heap_alloc_new (w1.alloc (.cells #[.pointer (some ⟨b, 0, none⟩), .nilIface] 53)) (.cells #[.pointer (some ⟨w1.heap.size, 0, none⟩)] 51)
    simpa using this
  have H2 := Lib.hid (And.intro hb12 (And.intro hsz2 (And.intro htree hbt)))
  rw [← hW2]
  have g0 := (hb12.cell (p := ⟨lb, _, none⟩) (by show lb < _; omega)).trans d0
  have g1 := (hb12.cell (p := ⟨lb + 1, _, none⟩) (by show lb + 1 < _; omega)).trans d1
  have g2 := (hb12.cell (p := ⟨lb + 1 + 1, _, none⟩) (by show lb + 1 + 1 < _; omega)).trans d2
  have HKEEP : Hid (∀ X, Below W2.heap.size W2 X → X.cell? ⟨lb, 0, none⟩ = some (.slice a n cap) ∧ X.cell? ⟨lb + 1, 0, none⟩ = some (.int .i64 (f : Int)) ∧ X.cell? ⟨lb + 1 + 1, 0, none⟩ = some (.int .i64 (k : Int))) := fun X hX => ⟨(hX.cell (p := ⟨lb, _, none⟩) (by show lb < _; omega)).trans g0, (hX.cell (p := ⟨lb + 1, _, none⟩) (by show lb + 1 < _; omega)).trans g1, (hX.cell (p := ⟨lb + 1 + 1, _, none⟩) (by show lb + 1 + 1 < _; omega)).trans g2⟩
  obtain ⟨ab, hab⟩ : ∃ ab, (if cap = f then a else Option.map (fun x => x.add (f * 3)) a) = ab := ⟨_, rfl⟩
  have HSRC : Hid (∀ X, Below W2.heap.size W2 X → SrcE X ab ((l.drop f).take k)) := fun X hX => ⟨fun hne => by
    have hl : l ≠ [] := fun e => hne (by rw [e]; simp)
    have hfk0 : f < l.length := by
      rcases Nat.lt_or_ge f l.length with h | h
      · exact h
      · rw [List.drop_eq_nil_of_le h] at hne
        simp at hne
    obtain ⟨x, hx⟩ : ∃ x, l[0]? = some x := ⟨_, List.getElem?_eq_getElem (by omega)⟩
    have hnl : n = l.length := HIN.out.2.2.2
    have hbX : Below w.heap.size w X := by
      have q1 := HALL.out.1
      have q2 := q1.trans (HB1.out.mono q1.size)
      have q3 := q2.trans (hb12.mono q2.size)
      exact q3.trans (hX.mono q3.size)
    have he := HIN.out.2.1.below hbX HIN.out.1.le
    obtain ⟨g, o, ha, -, -⟩ := he.at hx
    subst ha
    rw [if_neg (by omega)] at hab
    refine ⟨_, hab.symm, fun j u hj => ?_⟩
    have hp := he.part (p := f) (n := k)
    have hrow : ∀ (i : Nat) x, ((l.drop f).take k)[i]? = some x → ∀ (j : Nat) u, (entL x)[j]? = some u → X.cell? ⟨g, o + f * 3 + i * 3 + j, none⟩ = some u := fun i x hi j u hu => by
      obtain ⟨g', o', e, _, hc⟩ := hp.lies i x hi
      cases e
      exact hc j u hu
    have hjl : j / 3 < ((l.drop f).take k).length := by
      have := (List.getElem?_eq_some_iff.1 hj).1
      rw [ents_len] at this
      omega
    have hget := List.getElem?_eq_getElem hjl
    have hff := flat_get entL 3 entL_len ((l.drop f).take k) (j / 3) (j % 3) _ hget (by omega)
    rw [show j / 3 * 3 + j % 3 = j by omega, hj] at hff
    have := hrow (j / 3) _ hget (j % 3) u hff.symm
    rw [show o + f * 3 + j / 3 * 3 + j % 3 = o + f * 3 + j by omega] at this
    show X.cell? (((⟨g, o, none⟩ : Addr).add (f * 3)).add j) = some u
    rw [Addr.add_lit, Addr.add_lit]
    exact this⟩
  have HLEN : Hid (k = ((l.drop f).take k).length) := by
    show _ = _
    rw [List.length_take, List.length_drop]
    have hnl : n = l.length := HIN.out.2.2.2
    omega
  have q1 : (0 : Int) ≤ (f : Int) + (k : Int) := by omega
  have q2 : (f : Int) + (k : Int) ≤ (cap : Int) := by omega
  have q3 : ((f : Int) + (k : Int)).toNat = f + k := by omega
  have w1' : IntKind.i64.wrap ((f : Int) + (k : Int)) = (f : Int) + (k : Int) := IntWalk.i64_in _ (by omega)
  have HDD := Lib.hid (drew_below W2)
  have HG0 : Hid (∀ X : World, (X.alloc (.cells #[] 36)).heap[X.heap.size]? = some (.cells #[] 36 (0, 0))) := fun X => heap_alloc_new X _
  have k9 := HKEEP.out _ HDD.out
  have HKN : Hid (k ≤ 1024) := by show _ ≤ _; omega
  clear hW2 hb12 hsz2 htree hbt d0 d1 d2
  go_cut [11] from 43 to 54 (fun u wx => ∃ (pb : Nat) (va : Option Addr) (vc : Nat), u = .pointer (some ⟨pb, 0, none⟩) ∧ PvNew W2 pb va vc n f k ((l.drop f).take k) wx)
  case first =>
    go_region_held3 (fun w' => w'.cell? ⟨lb, 0, none⟩ = some (.slice a n cap) ∧ w'.cell? ⟨lb + 1, 0, none⟩ = some (.int .i64 (f : Int)) ∧ w'.cell? ⟨lb + 1 + 1, 0, none⟩ = some (.int .i64 (k : Int))) (first | assumption | exact HKEEP.out _ (set4 HB3.out (Nat.le_refl _) (Nat.le_refl _)) | exact HKEEP.out _ (set4 HB3.out (Nat.le_refl _) (Nat.le_succ _)) | go_keep)
      ((refine step_append_e (by rfl) (.tmp 46) (.tmp 52) (by rfl) W2.heap.size _ (by rfl) ?_ ?_ ab k (cap - f) ((l.drop f).take k) HLEN.out (by rfl) ?_ ?_ ?_ ?_; (next => (first | exact HG0.out W2.drew | exact hgC _ _ _ | exact hgB _ _ _)); (next => simp); (next => (first | exact HSRC.out _ (HDD.out.trans (bl_alloc W2.drew _)) | exact HSRC.out _ (HDD.out.trans (((Below.refl _ W2.drew).alloc (Nat.le_refl _) _).alloc (by simp) _)))); (next => (have := HKN.out; have := HLEN.out; omega)); (next => (simp <;> omega)); (intro va vc w3 hrow hgrow; have HROW := Lib.hid hrow; have HGR := Lib.hid hgrow; have hb3 := (by first | exact below_grown HDD.out hgrow | exact below_grown2 HDD.out hgrow (by simp)); have HB3 := Lib.hid hb3; have k0 := HKEEP.out w3 hb3; (first | (have hz : w3.heap[W2.heap.size + 1]? = _ := zkB hgrow; have HZP := Lib.hid hz; obtain ⟨z0, z1, z2, z3, y0, y1, y2, y3⟩ := zero_cells hz; clear hz) | (have hz : w3.heap[W2.heap.size]? = _ := zkC hgrow; have HZP := Lib.hid hz; obtain ⟨z0, z1, z2, z3, y0, y1, y2, y3⟩ := zero_cells hz; clear hz) | skip); clear hrow hgrow hb3)))
    all_goals
      go_wp2_with fail
      go_meet
      first
        | exact ⟨_, va, vc, rfl, pvA HROW.out HB3.out⟩
        | exact ⟨_, va, vc, rfl, pvB HROW.out HB3.out HZP.out (Nat.le_refl _)⟩
        | exact ⟨_, va, vc, rfl, pvB HROW.out HB3.out HZP.out (Nat.le_succ _)⟩
  case rest =>
    obtain ⟨pb, va, vc, rfl, hp⟩ := hcut
    have HPV := Lib.hid hp
    clear hp
    obtain ⟨W5, hW5⟩ : ∃ W5 : World, W5 = wc.alloc (.cells #[downV (lb + 1) (lb + 1 + 1) pb (w1.heap.size + 1) lb wc.heap.size] 58) := ⟨_, rfl⟩
    obtain ⟨hb12, hsz2, htree, hbt⟩ := H2.out
    obtain ⟨hb0, hsz0, h1, h2, h3, h4⟩ := HALL.out
    obtain ⟨hbk, hents, hgd, hnl⟩ := HIN.out
    have hb2c := HPV.out.below
    have hbc5 : Below wc.heap.size wc W5 := by rw [hW5]; exact bl_alloc _ _
    have hb25 : Below W2.heap.size W2 W5 := hb2c.trans (hbc5.mono hb2c.size)
    have hb15 : Below w1.heap.size w1 W5 := hb12.trans (hb25.mono hb12.size)
    have hbW5 : Below W.heap.size W W5 := HB1.out.trans (hb15.mono HB1.out.size)
    have hbw5 : Below w.heap.size w W5 := hb0.trans (hbW5.mono hb0.size)
    have hlbw : w.heap.size = lb := HLB.out
    have hpbc := lt_of_heap HPV.out.box
    have hge := HPV.out.ge
    have hsc := hb2c.size
    have hs1 := HB1.out.size
    have hs5 : W5.heap.size = wc.heap.size + 1 := by rw [hW5]; simp
    have htr5 : TrAt W5 bB b m v T w1.heap.size := ⟨(hbk.below hbw5).book, hbk.nd, box_kept hb25 htree, Nat.le_trans hbk.le (by omega)⟩
    have hbt5 := box_kept hb25 hbt
    have hres5 := box_kept hbW5 h4
    have hbox5 := box_kept hbc5 HPV.out.box
    have hCap : Cap W5 bB w1.heap.size (w1.heap.size + 1) lb (lb + 1) (lb + 1 + 1) pb wc.heap.size a cap l f k := ⟨hbt5, by rw [← hnl]; exact box_kept hbW5 h1, box_kept hbW5 h2, box_kept hbW5 h3, by rw [hW5]; exact heap_alloc_new wc _, hents.below hbw5 hbk.le⟩
    have hSt : PrvSt W5 bB W5.heap.size b m w1.heap.size pb v T n f (.slice va k vc) (.slice none 0 0) [] := ⟨htr5, hbox5, World.ownsRow_nil _ _ _ _, by have := hbk.le; omega, Nat.le_refl _, by have := hbk.le; omega⟩
    have hDown : ∃ c, c ≤ 3 * l.length + 1 ∧ Calls Tryd.prog 20 #[.int .i64 0, .int .i64 (n : Int), .pointer (some ⟨lb + 1, 0, none⟩), .pointer (some ⟨lb + 1 + 1, 0, none⟩), .pointer (some ⟨pb, 0, none⟩), .pointer (some ⟨w1.heap.size + 1, 0, none⟩), .pointer (some ⟨lb, 0, none⟩), .pointer (some ⟨wc.heap.size, 0, none⟩)] W5
        (DownT W5 bB W5.heap.size b m w1.heap.size pb T n f (f + k) (.slice va k vc) [] 0 l c) := by
      rcases Nat.lt_or_ge 0 n with h0 | h0
      · have hd := down_any bB W5.heap.size b m w1.heap.size (w1.heap.size + 1) lb (lb + 1) (lb + 1 + 1) pb wc.heap.size a cap l n f k (.slice va k vc) hgd (by omega) (by omega) (by omega) ⟨by omega, by omega, by omega, by omega, by omega⟩ ⟨by omega, by omega⟩
          (fun x o e hl => by have := (hents.safe x o e hl).1; omega) n 0 v T (.slice none 0 0) [] W5 hCap hSt (by omega) (by omega) (by omega) (by simp; omega)
        rw [List.drop_zero, hnl, List.take_length] at hd
        rw [hnl]
        exact ⟨3 * l.length, by omega, hd⟩
      · have el : l = [] := List.length_eq_zero_iff.1 (by omega)
        have ef : f = 0 := by omega
        have ek : k = 0 := by omega
        have en : n = 0 := by omega
        subst el
        subst ef
        subst ek
        subst en
        exact ⟨1, by omega, down_none bB W5.heap.size b m w1.heap.size (w1.heap.size + 1) lb (lb + 1) (lb + 1 + 1) pb wc.heap.size v T a cap 0 _ _ [] W5 hCap hSt (by omega) (by simp)⟩
    obtain ⟨c, hcl, hDn⟩ := hDown
    have HDN := Lib.hid hDn
    have HEND : Hid (∀ (e : Ending) (w6 : World), DownT W5 bB W5.heap.size b m w1.heap.size pb T n f (f + k) (.slice va k vc) [] 0 l c e w6 → _) := fun e w6 hd => prove_end (w := w) (base := W2.heap.size) (sub := (l.drop f).take k) (rs := lb + 1 + 1 + 1) hbk.le hbw5 hd hres5 (row_below HPV.out.row hbc5) (by omega) (by omega) (by omega) HLEN.out rfl hnl hcl hbox5
    have g7 := one_cell hCap.hdb
    have g8 := one_cell hCap.hlb
    rw [← hnl] at g8
    have HW5 : Hid (wc.alloc (.cells #[.func (.func 20) #[] #[.pointer (some ⟨lb + 1, 0, none⟩), .pointer (some ⟨lb + 1 + 1, 0, none⟩), .pointer (some ⟨pb, 0, none⟩), .pointer (some ⟨w1.heap.size + 1, 0, none⟩), .pointer (some ⟨lb, 0, none⟩), .pointer (some ⟨wc.heap.size, 0, none⟩)]] 58) = W5) := hW5.symm
    have HBT5 := Lib.hid hbt5
    unfold downV at g7
    clear hW5 hb12 hsz2 htree hbt hb0 hsz0 h1 h2 h3 h4 hbk hents hgd hnl hb2c hbc5 hb25 hb15 hbW5 hbw5 hlbw hpbc hge hsc hs1 hs5 htr5 hbt5 hres5 hbox5 hCap hSt hDn hcl
    go_upto_region 7 with fail
    rw [HW5.out]
    go_wp2_with fail
    refine HDN.out.mono ?_
    rintro e w6 hd
    obtain ⟨rfl, a2, c2, dn, r6, x6, t6, k6, hfin⟩ := HEND.out e w6 hd
    obtain ⟨e0, e1, e2, e3, f0, f1, f2, f3⟩ := zero_cells r6
    have y0 : w6.cell? ⟨pb, 0, none⟩ = some (.int .i64 (n : Int)) := by rw [cell_of_row _ _ _ _ _ _ x6]; rfl
    have y1 : w6.cell? ⟨pb, 1, none⟩ = some (.int .i64 (f : Int)) := by rw [cell_of_row _ _ _ _ _ _ x6]; rfl
    have y2 : w6.cell? ⟨pb, 2, none⟩ = some (.slice va k vc) := by rw [cell_of_row _ _ _ _ _ _ x6]; rfl
    have y3 : w6.cell? ⟨pb, 3, none⟩ = some (.slice a2 dn c2) := by rw [cell_of_row _ _ _ _ _ _ x6]; rfl
    have y4 := one_cell (k6 _ _ HBT5.out)
    have y5 : w6.cell? ⟨w1.heap.size, 1, none⟩ = some .nilIface := by rw [cell_of_row _ _ _ _ _ _ t6]; rfl
    have HFN := Lib.hid hfin
    clear hd r6 x6 t6 k6 hfin
    go_wp2_with fail
    refine bodyPost_ret (v := .tuple #[.agg #[.int .i64 (n : Int), .int .i64 (f : Int), .slice va k vc, .slice a2 dn c2], .nilIface]) (by simp [results, Tryd.results11, go_sem, e0, e1, e2, e3]) rfl HFN.out
end Go.Proofs.YtlepjjcnlcnnfaaDoor.Merkle
