/- A judge, as plain data: what is seen of a member, and how it lies in memory. -/
import Derived.Test.YtpcmkifgfokdpaaAtM
namespace Go.Proofs.Ytpcmkifgfokdpaa
open Go.RowKit Go.My Go.My.Model Go.Deep

structure Sl where
  a : Option Addr
  n : Nat
  cap : Nat
def Sl.v (s : Sl) : Value := .slice s.a s.n s.cap
structure Ran where
  num : Int
  digest : Int
structure Say where
  kind : Int
  txn : Int
  yes : Bool
  frm : ByteArray
  upto : ByteArray
  epoch : Int
  shard : Int
  target : Int
  root : Int
structure Rec where
  txn : Int
  state : Int
  keys : Sl
  shards : Sl
  voted : Sl
  roots : Sl
  client : Int
  num : Int
  reads : Sl
  writes : Sl
structure Hel where
  frm : ByteArray
  upto : ByteArray
  epoch : Int
  frozen : Bool
  target : Int
structure Seen where
  view : Int
  normal : Bool
  done : Int
  stable : Int
  pending : Int
  ranS : Sl
  saysS : Sl
  recsS : Sl
  entsS : Sl
  heldS : Sl
  piecesS : Sl
  movesS : Sl
  ran : List Ran
  says : List Say
  recs : List Rec
  ents : List Ent
  held : List Hel
def ranL (r : Ran) : List Value := [.int .i64 r.num, .int .i64 r.digest]
def sayL (s : Say) : List Value := [.int .i64 s.kind, .int .i64 s.txn, .bool s.yes, .string s.frm, .string s.upto, .int .i64 s.epoch, .int .i64 s.shard, .int .i64 s.target, .int .i64 s.root]
def recL (r : Rec) : List Value := [.int .i64 r.txn, .int .i64 r.state, r.keys.v, r.shards.v, r.voted.v, r.roots.v, .int .i64 r.client, .int .i64 r.num, r.reads.v, r.writes.v]
def helL (h : Hel) : List Value := [.string h.frm, .string h.upto, .int .i64 h.epoch, .bool h.frozen, .int .i64 h.target]
def etL (e : Ent) : List Value := [.string e.key, .string e.value, .int .i64 e.ver]
def seenL (s : Seen) : List Value := [.int .i64 s.view, .bool s.normal, .int .i64 s.done, .int .i64 s.stable, .int .i64 s.pending, s.ranS.v, s.saysS.v, s.recsS.v, s.entsS.v, s.heldS.v, s.piecesS.v, s.movesS.v]
/-- A list lies at a place: its elements' cells, one behind the other. -/
def Lies {α : Type} (w : World) (a : Option Addr) (c : Nat) (f : α → List Value) (l : List α) : Prop := ∀ (i : Nat) x, l[i]? = some x → ∃ g o, a = some ⟨g, o, none⟩ ∧ g < w.heap.size ∧ ∀ (j : Nat) v, (f x)[j]? = some v → w.cell? ⟨g, o + i * c + j, none⟩ = some v
theorem Lies.below {α : Type} {w w' : World} {a : Option Addr} {c : Nat} {f : α → List Value} {l : List α} (h : Lies w a c f l) (hb : Below w.heap.size w w') : Lies w' a c f l := fun i x hi => by
  obtain ⟨g, o, h1, h2, h3⟩ := h i x hi
  exact ⟨g, o, h1, Nat.lt_of_lt_of_le h2 hb.size, fun j v hj => (hb.cell (p := ⟨g, _, none⟩) h2).trans (h3 j v hj)⟩
theorem Lies.take {α : Type} {w : World} {a : Option Addr} {c : Nat} {f : α → List Value} {l : List α} (h : Lies w a c f l) (k : Nat) : Lies w a c f (l.take k) := fun i x hi => by
  rw [List.getElem?_take] at hi
  split at hi
  · exact h i x hi
  · cases hi
/-- What is seen of a member lies in memory. -/
structure SeenIn (w : World) (s : Seen) : Prop where
  ranN : s.ranS.n = s.ran.length
  saysN : s.saysS.n = s.says.length
  recsN : s.recsS.n = s.recs.length
  entsN : s.entsS.n = s.ents.length
  heldN : s.heldS.n = s.held.length
  ran : Lies w s.ranS.a 2 ranL s.ran
  says : Lies w s.saysS.a 9 sayL s.says
  recs : Lies w s.recsS.a 10 recL s.recs
  ents : Lies w s.entsS.a 3 etL s.ents
  held : Lies w s.heldS.a 5 helL s.held
theorem SeenIn.below {w w' : World} {s : Seen} (h : SeenIn w s) (hb : Below w.heap.size w w') : SeenIn w' s :=
  ⟨h.ranN, h.saysN, h.recsN, h.entsN, h.heldN, h.ran.below hb, h.says.below hb, h.recs.below hb, h.ents.below hb, h.held.below hb⟩
/-- so many -/
structure Few (s : Seen) : Prop where
  ran : s.ran.length ≤ 1000
  says : s.says.length ≤ 1000
  recs : s.recs.length ≤ 1000
  ents : s.ents.length ≤ 1000
  held : s.held.length ≤ 1000
def ranDiff (x y : Ran) : Bool := decide (x.num = y.num) && !decide (x.digest = y.digest)
def recDiff (x y : Rec) : Bool := decide (x.txn = y.txn) && decide (min x.state y.state = 3) && decide (max x.state y.state = 4)
def helDiff (x y : Hel) : Bool := decide (x.epoch = y.epoch) && !x.frozen && !y.frozen && (decide (x.upto = ByteArray.empty) || Op.bytesLess y.frm.toList x.upto.toList) && (decide (y.upto = ByteArray.empty) || Op.bytesLess x.frm.toList y.upto.toList)
def BoolLeft (w : World) (b : Bool) (e : Ending) (w' : World) : Prop := e = .returned (.bool b) ∧ Below w.heap.size w w'
def IdxB (w : World) (b : Bool) (e : Ending) (w' : World) : Prop := ∃ z : Int, e = .returned (.int .i64 z) ∧ decide (0 ≤ z) = b ∧ Below w.heap.size w w'
def ranA (r : Ran) : Value := .agg #[.int .i64 r.num, .int .i64 r.digest]
def recA (r : Rec) : Value := .agg #[.int .i64 r.txn, .int .i64 r.state, .slice r.keys.a r.keys.n r.keys.cap, .slice r.shards.a r.shards.n r.shards.cap, .slice r.voted.a r.voted.n r.voted.cap, .slice r.roots.a r.roots.n r.roots.cap, .int .i64 r.client, .int .i64 r.num, .slice r.reads.a r.reads.n r.reads.cap, .slice r.writes.a r.writes.n r.writes.cap]
def helA (h : Hel) : Value := .agg #[.string h.frm, .string h.upto, .int .i64 h.epoch, .bool h.frozen, .int .i64 h.target]
theorem any_idx {α : Type} {l : List α} {p : α → Bool} {j : Nat} {x : α} (hx : l[j]? = some x) (hp : p x = true) : l.any p = true := List.any_eq_true.2 ⟨x, List.mem_of_getElem? hx, hp⟩
theorem any_take {α : Type} {l : List α} {p : α → Bool} {j : Nat} {x : α} (hx : l[j]? = some x) : (l.take (j + 1)).any p = ((l.take j).any p || p x) := by
  rw [List.take_add_one, hx]
  simp
end Go.Proofs.Ytpcmkifgfokdpaa
