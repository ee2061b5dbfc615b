/- Merkle: what is told again is the same. -/
import Derived.Test.YtlepjjcnlcnnfaaDoorMkHasL
import Derived.Test.YtlepjjcnlcnnfaaDoorAs4
import Derived.Deep.RegionHeld3
namespace Go.Proofs.YtlepjjcnlcnnfaaDoor.Merkle
open Go.RowKit Go.My

/-- what Root tells, by a table of texts -/
def RootSame (T : List ByteArray) (l : List Ent) (z : Int) (ev : Value) : Prop :=
  (rightB l = false ∧ z = -1 ∧ ev = wrongV 1) ∨ (rightB l = true ∧ ev = .nilIface ∧ ∃ t d : Nat, z = d ∧ TopAt enc T l t ∧ At T d (rootT l.length t))
theorem RootSame.one {T T' : List ByteArray} {l : List Ent} {z z' : Int} {ev ev' : Value} (hn : T'.Nodup) (he : Ext T T') (h : RootSame T l z ev) (h' : RootSame T' l z' ev') : z = z' ∧ ev = ev' := by
  rcases h with ⟨h0, rfl, rfl⟩ | ⟨h0, rfl, t, d, rfl, ht, hd⟩
  · rcases h' with ⟨_, rfl, rfl⟩ | ⟨h1, _⟩
    · exact ⟨rfl, rfl⟩
    · rw [h0] at h1
      cases h1
  · rcases h' with ⟨h1, _⟩ | ⟨_, rfl, t', d', rfl, ht', hd'⟩
    · rw [h0] at h1
      cases h1
    · obtain rfl := (ht.ext he).uniq hn ht'
      exact ⟨by rw [(he _ _ hd).inj hn hd'], rfl⟩
def RootSome (w : World) (bB b m : Nat) (T : List ByteArray) (l : List Ent) (e : Ending) (w' : World) : Prop :=
  ∃ z ev v' T', e = .returned (.tuple #[.int .i64 z, ev]) ∧ RootSame T' l z ev ∧ BkT w' bB b m v' T' ∧ Ext T T' ∧ T'.length ≤ T.length + 2100 ∧ Fx bB w w'
theorem root_some (bB b m : Nat) (v : Value) (T : List ByteArray) (a : Option Addr) (cap : Nat) (l : List Ent) (w : World) (h : BkT w bB b m v T) (he : EntsAt w bB a l) (hs : Wide l) (hl : l.length ≤ 6000) (hT : T.length ≤ 50000) :
    Calls Tryd.prog 9 #[.pointer (some ⟨b, 0, none⟩), .slice a l.length cap] w (RootSome w bB b m T l) := by
  cases hr : rightB l with
  | false =>
    refine (root_no b a cap l w he.lies (by omega) hs hr).mono ?_
    rintro e w' ⟨rfl, hb⟩
    exact ⟨-1, _, v, T, rfl, .inl ⟨hr, rfl, rfl⟩, h.below hb, Ext.refl _, by omega, Fx.of_below hb h.le⟩
  | true =>
    refine (root_yes bB b m v T a cap l w h he hs hr hT).mono ?_
    rintro e w' ⟨v', T', d, t, rfl, q1, q2, q3, q4, q5, q6⟩
    have := right_len hr
    exact ⟨d, _, v', T', rfl, .inr ⟨hr, rfl, t, d, rfl, q3, q4⟩, q1, q2, by omega, q6⟩
def ProveSome (w : World) (bB b m : Nat) (T : List ByteArray) (l : List Ent) (e : Ending) (w' : World) : Prop :=
  ∃ (i1 i2 : Int) (s1 : Option Addr) (k1 c1 : Nat) (s2 : Option Addr) (k2 c2 : Nat) (ev : Value) (v' : Value) (T' : List ByteArray), e = .returned (.tuple #[.agg #[.int .i64 i1, .int .i64 i2, .slice s1 k1 c1, .slice s2 k2 c2], ev]) ∧ (rightB l = false ∧ ev = wrongV 1 ∨ rightB l = true ∧ ev = .nilIface) ∧ BkT w' bB b m v' T' ∧ Ext T T' ∧ T'.length ≤ T.length + 3100 ∧ Fx bB w w'
/-- what Prove tells of all -/
theorem prove_some (bB b m : Nat) (v : Value) (T : List ByteArray) (a : Option Addr) (cap : Nat) (l : List Ent) (k : Nat) (w : World) (h : BkT w bB b m v T) (he : EntsAt w bB a l) (hs : Wide l) (hl : l.length ≤ 6000) (hT : T.length ≤ 50000) (hcap : l.length ≤ cap) (hc9 : cap ≤ maxLen) (hk : k ≤ l.length) :
    Calls Tryd.prog 11 #[.pointer (some ⟨b, 0, none⟩), .slice a l.length cap, .int .i64 0, .int .i64 (k : Int)] w (ProveSome w bB b m T l) := by
  cases hr : rightB l with
  | false =>
    have hp := prove_no b a cap l 0 (k : Int) w he.lies (by omega) hs hr
    refine hp.mono ?_
    rintro e w' ⟨rfl, hb⟩
    exact ⟨_, _, _, _, _, _, _, _, _, v, T, rfl, .inl ⟨hr, rfl⟩, h.below hb, Ext.refl _, by omega, Fx.of_below hb h.le⟩
  | true =>
    have hp := prove_yes bB b m v T a cap l 0 k w h he hs hr hcap hc9 (by omega) hT
    rw [show ((0 : Nat) : Int) = 0 from rfl] at hp
    refine hp.mono ?_
    rintro e w' ⟨v', T', p1, g1, p2, g2, ds, rfl, q1, q2, _, _, _, _, _, q3, q4⟩
    have := right_len hr
    exact ⟨_, _, _, _, _, _, _, _, _, v', T', rfl, .inr ⟨hr, rfl⟩, q1, q2, by omega, q4⟩
/-- what Has tells, by a table of texts -/
def HasSame (T : List ByteArray) (p : Prf) (root : Int) (key : ByteArray) (V : Value) : Prop :=
  (¬ (∃ n f, Shaped p n f) ∧ V = .tuple #[zeroE, .bool false, wrongV 62]) ∨
  ∃ n f t d, Told T p n f t d ∧ V = if ((d : Nat) : Int) = root then hasV p.L n f key else .tuple #[zeroE, .bool false, wrongV 61]
theorem HasSame.one {T T' : List ByteArray} {p : Prf} {root : Int} {key : ByteArray} {V V' : Value} (hn : T'.Nodup) (he : Ext T T') (h : HasSame T p root key V) (h' : HasSame T' p root key V') : V = V' := by
  rcases h with ⟨h0, rfl⟩ | ⟨n, f, t, d, ht, rfl⟩
  · rcases h' with ⟨_, rfl⟩ | ⟨n, f, t, d, ht, _⟩
    · rfl
    · exact absurd ⟨n, f, ht.shaped⟩ h0
  · rcases h' with ⟨h0, _⟩ | ⟨n', f', t', d', ht', rfl⟩
    · exact absurd ⟨n, f, ht.shaped⟩ h0
    · have e1 := ht.shaped.many
      have e2 := ht'.shaped.many
      have e3 := ht.shaped.first
      have e4 := ht'.shaped.first
      obtain rfl : n = n' := by omega
      obtain rfl : f = f' := by omega
      obtain ⟨rfl, _⟩ := ht.made.uniq hn he ht'.made
      obtain rfl := (he _ _ ht.root).inj hn ht'.root
      rfl
theorem has_form {T : List ByteArray} {p : Prf} {root : Int} {key : ByteArray} {V : Value} (h : HasSame T p root key V) : ∃ xk xv xn is ev, V = .tuple #[.agg #[.string xk, .string xv, .int .i64 xn], .bool is, ev] ∧ (ev = .nilIface ∨ ∃ n, ev = wrongV n) := by
  rcases h with ⟨_, rfl⟩ | ⟨n, f, t, d, _, rfl⟩
  · exact ⟨_, _, _, _, _, rfl, .inr ⟨62, rfl⟩⟩
  · by_cases hd : ((d : Nat) : Int) = root
    · rw [if_pos hd]
      unfold hasV
      cases p.L.find? fun x => decide (x.key = key) with
      | some x => exact ⟨_, _, _, _, _, rfl, .inl rfl⟩
      | none =>
        simp only
        by_cases hc : (lowH p.L n f key && highH p.L n f key) = true
        · rw [if_pos hc]
          exact ⟨_, _, _, _, _, rfl, .inl rfl⟩
        · rw [if_neg hc]
          exact ⟨_, _, _, _, _, rfl, .inr ⟨62, rfl⟩⟩
    · rw [if_neg hd]
      exact ⟨_, _, _, _, _, rfl, .inr ⟨61, rfl⟩⟩
theorem has_some (bB b m : Nat) (v : Value) (T : List ByteArray) (root : Int) (key : ByteArray) (p : Prf) (a1 a2 : Option Addr) (c1 c2 : Nat) (w : World) (hbk : BkT w bB b m v T) (h : PrfAt w bB p a1 a2) (hc : p.B.length ≤ c2) (hT : T.length ≤ 50000) :
    Calls Tryd.prog 10 #[.pointer (some ⟨b, 0, none⟩), .int .i64 root, .string key, prfV p a1 c1 a2 c2] w fun e w' => ∃ V v' T', e = .returned V ∧ HasSame T' p root key V ∧ BkT w' bB b m v' T' ∧ Ext T T' ∧ T'.length ≤ T.length + 2100 ∧ Fx bB w w' := by
  by_cases hs : ∃ n f, Shaped p n f
  · obtain ⟨n, f, hs⟩ := hs
    refine (has_shaped bB b m v T root key p n f a1 a2 c1 c2 w hbk h hc hs hT).mono ?_
    rintro e w' ⟨v', T', t, d, rfl, q1, q2, q3, q4, q5⟩
    have := hs.small
    exact ⟨_, v', T', rfl, .inr ⟨n, f, t, d, q3, rfl⟩, q1, q2, by omega, q5⟩
  · refine (has_unshaped bB b m v T root key p a1 a2 c1 c2 w hbk h hs).mono ?_
    rintro e w' ⟨rfl, q1, q2⟩
    exact ⟨_, v, T, rfl, .inl ⟨hs, rfl⟩, q1, Ext.refl _, by omega, q2⟩
/-- fault.Code of what the tree tells -/
theorem code_wrong {w : World} (hg : TypeIs w) {ev : Value} (h : ev = .nilIface ∨ ∃ n, ev = wrongV n) : ∃ c : Int, ∀ X, Below w.heap.size w X → Calls Tryd.prog 12 #[ev] X fun e X' => e = .returned (.int .i64 c) ∧ Below X.heap.size X X' := by
  rcases h with rfl | ⟨n, rfl⟩
  · exact ⟨0, fun X _ => code_nil X⟩
  · exact ⟨n, fun X hX => code_of n [(merkW, 0)] X (hg.below hg.lt hX)⟩
theorem code_w {w : World} (hg : TypeIs w) (n : Int) (X : World) (hX : Below w.heap.size w X) : Calls Tryd.prog 12 #[wrongV n] X fun e X' => e = .returned (.int .i64 n) ∧ Below X.heap.size X X' :=
  code_of n [(merkW, 0)] X (hg.below hg.lt hX)
theorem bl3 {A B C : World} (h : Below A.heap.size A B) (k : Below B.heap.size B C) : Below A.heap.size A C := h.trans (k.mono h.size)
/-- what the law of asking again holds -/
structure AgSt (w W : World) (bB b m q : Nat) (p : Prf) (a1 a2 : Option Addr) (c1 c2 : Nat) (v : Value) (T : List ByteArray) (a a9 : Option Addr) (l o : List Ent) (N : Nat) : Prop where
  law : LawAt w W bB b m v T a l
  box : W.heap[q]? = some (boxC p a1 c1 a2 c2)
  ents : EntsAt W bB a9 o
  prf : PrfAt W bB p a1 a2
  len : T.length ≤ N
theorem AgSt.next {w W W' : World} {bB b m q N N' : Nat} {p : Prf} {a1 a2 : Option Addr} {c1 c2 : Nat} {v v' : Value} {T T' : List ByteArray} {a a9 : Option Addr} {l o : List Ent} (h : AgSt w W bB b m q p a1 a2 c1 c2 v T a a9 l o N) (hb : BkT W' bB b m v' T') (hf : Fx bB W W') (hn : T'.length ≤ N') : AgSt w W' bB b m q p a1 a2 c1 c2 v' T' a a9 l o N' :=
  ⟨h.law.next hb hf, hf.kept _ _ h.box rfl, h.ents.keep hf, h.prf.keep hf, hn⟩
theorem AgSt.low {w W W' : World} {bB b m q N : Nat} {p : Prf} {a1 a2 : Option Addr} {c1 c2 : Nat} {v : Value} {T : List ByteArray} {a a9 : Option Addr} {l o : List Ent} (h : AgSt w W bB b m q p a1 a2 c1 c2 v T a a9 l o N) (hf : Below W.heap.size W W') : AgSt w W' bB b m q p a1 a2 c1 c2 v T a a9 l o N :=
  h.next (h.law.bk.below hf) (Fx.of_below hf h.law.bk.le) h.len
def entC (xk xv : ByteArray) (xn : Int) : Obj := .cells #[.string xk, .string xv, .int .i64 xn] 36 (0, 0)
theorem entC_cell {W : World} {q : Nat} {xk xv : ByteArray} {xn : Int} (h : W.heap[q]? = some (entC xk xv xn)) : W.cell? ⟨q, 0, none⟩ = some (.string xk) ∧ W.cell? ⟨q, 1, none⟩ = some (.string xv) ∧ W.cell? ⟨q, 2, none⟩ = some (.int .i64 xn) :=
  ⟨by rw [cell_of_row _ _ _ _ _ _ h]; rfl, by rw [cell_of_row _ _ _ _ _ _ h]; rfl, by rw [cell_of_row _ _ _ _ _ _ h]; rfl⟩
end Go.Proofs.YtlepjjcnlcnnfaaDoor.Merkle
