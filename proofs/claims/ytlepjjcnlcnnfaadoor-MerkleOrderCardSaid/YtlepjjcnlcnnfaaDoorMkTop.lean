/- Merkle: the top of leaves. -/
import Derived.Test.YtlepjjcnlcnnfaaDoorMkLeaf
namespace Go.Proofs.YtlepjjcnlcnnfaaDoor.Merkle
open Go.RowKit Go.My

theorem drew_below (w : World) : Below w.heap.size w w.drew := ⟨rfl, rfl, rfl, Nat.le_refl _, fun _ _ => rfl⟩
/-- a block that no digest writes to -/
def Safe (bB : Nat) (w : World) (g : Nat) : Prop := g < w.heap.size ∧ (g < bB ∨ ∃ o, w.heap[g]? = some o ∧ Kd o = false)
/-- entries in memory, where no digest writes to -/
structure EntsAt (w : World) (bB : Nat) (a : Option Addr) (l : List Ent) : Prop where
  lies : LiesAt w a 3 entL l
  safe : ∀ g o, a = some ⟨g, o, none⟩ → l ≠ [] → Safe bB w g
section
variable {w w' : World} {bB g : Nat} {a : Option Addr} {l : List Ent}
theorem Safe.fx (h : Safe bB w g) (f : Fx bB w w') : w'.heap[g]? = w.heap[g]? := by
  rcases h.2 with h1 | ⟨o, h1, h2⟩
  · exact f.below.block g h1
  · rw [f.kept g o h1 h2, h1]
theorem Safe.keep (h : Safe bB w g) (f : Fx bB w w') : Safe bB w' g := by
  refine ⟨Nat.lt_of_lt_of_le h.1 f.size, h.2.imp_right ?_⟩
  rintro ⟨o, h1, h2⟩
  exact ⟨o, f.kept g o h1 h2, h2⟩
theorem EntsAt.keep (h : EntsAt w bB a l) (f : Fx bB w w') : EntsAt w' bB a l := by
  refine ⟨fun i x hi => ?_, fun g o e hne => (h.safe g o e hne).keep f⟩
  obtain ⟨g, o, rfl, hg, hc⟩ := h.lies i x hi
  have hs := h.safe g o rfl (fun e => by rw [e] at hi; simp at hi)
  refine ⟨g, o, rfl, Nat.lt_of_lt_of_le hg f.size, fun j v hv => ?_⟩
  rw [World.cell?_of_block (a := ⟨g, o + i * 3 + j, none⟩) (hs.fx f)]
  exact hc j v hv
theorem EntsAt.below (h : EntsAt w bB a l) (hb : Below w.heap.size w w') (hB : bB ≤ w.heap.size) : EntsAt w' bB a l := h.keep (Fx.of_below hb hB)
theorem EntsAt.at (h : EntsAt w bB a l) {i : Nat} {x : Ent} (hi : l[i]? = some x) : ∃ g o, a = some ⟨g, o, none⟩ ∧ g < w.heap.size ∧ w.cell? ⟨g, o + i * 3, none⟩ = some (.string x.key) ∧ w.cell? ⟨g, o + i * 3 + 1, none⟩ = some (.string x.value) ∧ w.cell? ⟨g, o + i * 3 + 2, none⟩ = some (.int .i64 x.ver) := by
  obtain ⟨g, o, rfl, hg, hc⟩ := h.lies i x hi
  exact ⟨g, o, rfl, hg, hc 0 _ rfl, hc 1 _ rfl, hc 2 _ rfl⟩
/-- a captured variable -/
theorem one_cell {k : Nat} {u : Value} {t : TypeId} (h : w.heap[k]? = some (.cells #[u] t (0, 0))) : w.cell? ⟨k, 0, none⟩ = some u := by rw [cell_of_row _ _ _ _ _ _ h]; rfl
end
set_option maxRecDepth 100000 in
set_option maxHeartbeats 800000 in
theorem top2_any (bB b m tb bt lb p : Nat) (v : Value) (T : List ByteArray) (a : Option Addr) (cap : Nat) (l : List Ent) (x : Ent) (w : World) (h : TrAt w bB b m v T tb) (hbt : w.heap[bt]? = some (.cells #[.pointer (some ⟨tb, 0, none⟩)] 51 (0, 0)))
    (hbl : w.heap[lb]? = some (.cells #[.slice a l.length cap] 22 (0, 0))) (he : EntsAt w bB a l) (hp : l[p]? = some x) (hx : Good x) (hn : T.length < 65536) :
    Calls Tryd.prog 33 #[.int .i64 (p : Int), .pointer (some ⟨bt, 0, none⟩), .pointer (some ⟨lb, 0, none⟩)] w (DigT w bB b m tb T (leafT x)) := by
  have HD := Lib.hid (leaf_any bB b m tb v T x w.drew (h.below (drew_below w)) hx hn)
  have HF := Lib.hid (fun e w' (q : DigT _ bB b m tb T (leafT x) e w') => DigT.from q (drew_below w) h.le)
  have c0 := one_cell hbt
  have c1 := one_cell hbl
  obtain ⟨g, o, rfl, hg, d0, d1, d2⟩ := he.at hp
  have hlt : p < l.length := (List.getElem?_eq_some_iff.1 hp).1
  obtain ⟨n, hn⟩ : ∃ n, n = l.length := ⟨_, rfl⟩
  rw [← hn] at c1 hlt
  have hp0 : (0 : Int) ≤ (p : Int) := by omega
  have hp1 : (p : Int) < (n : Int) := by omega
  unfold entV at HD
  obtain ⟨k, u, z⟩ := x
  simp only at d0 d1 d2 HD HF
  clear h hbt hbl he hp hx hn hg
  go_enter Tryd.func33, Tryd.ntmps33
  go_wp2_with fail
  refine wp_region_tail 5 (by kernel_rfl) (by kernel_rfl) ?_
  simp only [List.take_succ_cons, List.take_zero, List.drop_succ_cons, List.drop_zero]
  repeat still_step
  refine wpStill_nil ?_
  go_wp2_with fail
  refine HD.out.mono ?_
  rintro e w1 hd
  have HE := Lib.hid (HF.out _ _ hd)
  obtain ⟨_, _, d, rfl, _⟩ := hd
  go_wp2_with fail
  go_ret
  exact HE.out
/-- what a top leaves -/
def TopT (w : World) (bB b m tb : Nat) (T : List ByteArray) (l : List Ent) (k : Nat) (e : Ending) (w' : World) : Prop :=
  ∃ v' T' d, e = .returned (.int .i64 ((d : Nat) : Int)) ∧ TrAt w' bB b m v' T' tb ∧ Ext T T' ∧ TopAt enc T' l d ∧ T'.length ≤ T.length + k ∧ Fx bB w w'
theorem DigT.leaf {w w' : World} {bB b m tb : Nat} {T : List ByteArray} {x : Ent} {e : Ending} (h : DigT w bB b m tb T (leafT x) e w') : TopT w bB b m tb T [x] 1 e w' := by
  obtain ⟨v', T', d, h1, h2, h3, h4, h5, h6⟩ := h
  exact ⟨v', T', d, h1, h2, h3, .leaf x d h4, h5, h6⟩
theorem DigT.none {w w' : World} {bB b m tb : Nat} {T : List ByteArray} {e : Ending} (h : DigT w bB b m tb T noneT e w') : TopT w bB b m tb T [] 1 e w' := by
  obtain ⟨v', T', d, h1, h2, h3, h4, h5, h6⟩ := h
  exact ⟨v', T', d, h1, h2, h3, .none d h4, h5, h6⟩
set_option maxRecDepth 100000 in
theorem top1_pos (n p : Int) (bt : Nat) (w : World) (hn : 0 < n) : Calls Tryd.prog 32 #[.int .i64 p, .int .i64 n, .pointer (some ⟨bt, 0, none⟩)] w fun e w' => e = .returned (.tuple #[.int .i64 0, .bool false]) ∧ w = w' := by
  go_enter Tryd.func32, Tryd.ntmps32
  go_wp2
  go_ret2
  exact ⟨rfl, rfl⟩
def NoneT (w : World) (bB b m tb : Nat) (T : List ByteArray) (e : Ending) (w' : World) : Prop := ∃ d : Nat, e = .returned (.tuple #[.int .i64 (d : Int), .bool true]) ∧ TopT w bB b m tb T [] 1 (.returned (.int .i64 (d : Int))) w'
set_option maxRecDepth 100000 in
theorem top1_none (bB b m tb bt : Nat) (p : Int) (v : Value) (T : List ByteArray) (w : World) (h : TrAt w bB b m v T tb) (hbt : w.heap[bt]? = some (.cells #[.pointer (some ⟨tb, 0, none⟩)] 51 (0, 0))) (hn : T.length < 65536) :
    Calls Tryd.prog 32 #[.int .i64 p, .int .i64 0, .pointer (some ⟨bt, 0, none⟩)] w (NoneT w bB b m tb T) := by
  have hb : Below w.heap.size w (w.alloc (.cells #[.string ⟨#[110, 111, 110, 101]⟩] 9)) := (Below.refl _ _).alloc (Nat.le_refl _) _
  have l1 : LiesAt (w.alloc (.cells #[.string ⟨#[110, 111, 110, 101]⟩] 9)) (some ⟨w.heap.size, 0, none⟩) 1 strs [noneW] := by
    have := lies_new w Value.string [noneW] 9
    show LiesAt _ _ 1 (fun x => [Value.string x]) _
    simpa [noneW] using this
  have ht : encS [noneW] = txt noneW := by simp [encS]
  have hsz : noneW.size = 4 := rfl
  have hD := digest_any bB b m tb v T _ none 1 0 [noneW] [] _ (h.below hb) l1 (LiesAt.nil _ _ _ _) hn (by rw [ht, txt_len, hsz]; simp) (by rw [ht, txt_len]; omega) (by simp)
  have hs : ofL (encS [noneW] ++ encZ []) = noneT := by
    unfold noneT
    rw [ht]
    simp [encZ]
  rw [hs] at hD
  have HD := Lib.hid hD
  have HF := Lib.hid (fun e w' (q : DigT _ bB b m tb T noneT e w') => (DigT.from q hb h.le).none)
  have c0 := one_cell hbt
  clear hs hD ht l1 hb hsz h hbt
  go_enter Tryd.func32, Tryd.ntmps32
  go_wp2_with fail
  refine HD.out.mono ?_
  rintro e w1 hd
  have ht := HF.out _ _ hd
  obtain ⟨_, _, d, rfl, _⟩ := hd
  have HE : Hid (NoneT w bB b m tb T (.returned (.tuple #[.int .i64 (d : Int), .bool true])) w1) := ⟨d, rfl, ht⟩
  clear ht
  go_wp2_with fail
  go_ret2
  exact HE.out
end Go.Proofs.YtlepjjcnlcnnfaaDoor.Merkle
