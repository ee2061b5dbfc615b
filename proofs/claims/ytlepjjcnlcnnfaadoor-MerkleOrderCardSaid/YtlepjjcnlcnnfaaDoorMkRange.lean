/- Merkle: Range. -/
import Derived.Test.YtlepjjcnlcnnfaaDoorMkHas
namespace Go.Proofs.YtlepjjcnlcnnfaaDoor.Merkle
open Go.RowKit Go.My

theorem ent_info : (Tryd.prog.info? 36).map (fun i => (i.zero, i.size, i.bytes)) = some (some (.agg #[.string ⟨#[]⟩, .string ⟨#[]⟩, .int .i64 0]), 3, 40) := by kernel_rfl
theorem ent_one (x : Ent) : ∀ u ∈ entL x, u.oneCell' = true := by
  intro u hu
  simp only [entL, List.mem_cons, List.not_mem_nil, or_false] at hu
  rcases hu with rfl | rfl | rfl <;> rfl
def geB (tk k : ByteArray) : Bool := !decide (tk.size = 0) && !lessK k tk
def inB (fr tk k : ByteArray) : Bool := !lessK k fr && !geB tk k
def lowR (L : List Ent) (f : Nat) (fr : ByteArray) : Bool := decide (f = 0) || L.any fun x => lessK x.key fr
def highR (L : List Ent) (n f : Nat) (tk : ByteArray) : Bool := decide (f + L.length = n) || L.any fun x => geB tk x.key
/-- what Range tells of a proof that is taken -/
def RangeT (L : List Ent) (n f : Nat) (fr tk : ByteArray) (Q : World → Prop) (e : Ending) (w' : World) : Prop :=
  ∃ w1, Q w1 ∧ Below w1.heap.size w1 w' ∧ (((lowR L f fr && highR L n f tk) = false ∧ e = .returned (.tuple #[.slice none 0 0, wrongV 62])) ∨
    ((lowR L f fr && highR L n f tk) = true ∧ ∃ a cap, e = .returned (.tuple #[.slice a (L.filter fun x => inB fr tk x.key).length cap, .nilIface]) ∧ LiesAt w' a 3 entL (L.filter fun x => inB fr tk x.key)))
/-- what Check tells ahead of Range's walk -/
def RngCh (w : World) (p : Prf) (a1 : Option Addr) (c1 : Nat) (a2 : Option Addr) (c2 : Nat) (Te : TypeId) (ev : Value) (Q Q2 : World → Prop) (e : Ending) (w' : World) : Prop :=
  (e = .returned (.iface Te ev) ∧ Q2 w') ∨
  (e = .returned .nilIface ∧ Q w' ∧ w'.heap[w.heap.size]? = some (.cells #[.int .i64 p.many, .int .i64 p.first, .slice a1 p.L.length c1, .slice a2 p.B.length c2] 25 (0, 0)) ∧ LiesAt w' a1 3 entL p.L)
def RngTwo (Te : TypeId) (ev : Value) (L : List Ent) (n f : Nat) (fr tk : ByteArray) (Q Q2 : World → Prop) (e : Ending) (w' : World) : Prop :=
  RangeT L n f fr tk Q e w' ∨ (e = .returned (.tuple #[.slice none 0 0, .iface Te ev]) ∧ Q2 w')
def rngW (w : World) (p : Prf) (a1 : Option Addr) (c1 : Nat) (a2 : Option Addr) (c2 : Nat) : World := w.alloc (.cells #[.int .i64 p.many, .int .i64 p.first, .slice a1 p.L.length c1, .slice a2 p.B.length c2] 25)
theorem rngW_below (w : World) (p : Prf) (a1 : Option Addr) (c1 : Nat) (a2 : Option Addr) (c2 : Nat) : Below w.heap.size w (rngW w p a1 c1 a2 c2) := (Below.refl _ _).alloc (Nat.le_refl _) _
theorem rngW_box (w : World) (p : Prf) (a1 : Option Addr) (c1 : Nat) (a2 : Option Addr) (c2 : Nat) : (rngW w p a1 c1 a2 c2).heap[w.heap.size]? = some (.cells #[.int .i64 p.many, .int .i64 p.first, .slice a1 p.L.length c1, .slice a2 p.B.length c2] 25 (0, 0)) := heap_alloc_new w _
theorem take_filter {L : List Ent} {j : Nat} {x : Ent} (h : L[j]? = some x) (g : Ent → Bool) : (L.take (j + 1)).filter g = if g x = true then (L.take j).filter g ++ [x] else (L.take j).filter g := by
  rw [List.take_add_one, h, List.filter_append]
  by_cases hx : g x = true <;> simp [hx]
/-- what the round of Range keeps -/
structure RgRel (L : List Ent) (fr tk : ByteArray) (lo hi : Bool) (w1 : World) (j : Nat) (x y : Bool) (u : Value) (wr : World) : Prop where
  low : x = (lo || (L.take j).any fun x => lessK x.key fr)
  high : y = (hi || (L.take j).any fun x => geB tk x.key)
  row : wr.ownsRow w1.heap.size 36 3 u ((L.take j).filter fun x => inB fr tk x.key).length (((L.take j).filter fun x => inB fr tk x.key).flatMap entL)
  below : Below w1.heap.size w1 wr
theorem RgRel.next {L : List Ent} {fr tk : ByteArray} {lo hi : Bool} {w1 : World} {j : Nat} {x y : Bool} {u u' : Value} {wr W : World} {k s : ByteArray} {z : Int} (h : RgRel L fr tk lo hi w1 j x y u wr) (hx : L[j]? = some ⟨k, s, z⟩)
    (hb : Below w1.heap.size w1 W) (hr : W.ownsRow w1.heap.size 36 3 u' ((L.take (j + 1)).filter fun x => inB fr tk x.key).length (((L.take (j + 1)).filter fun x => inB fr tk x.key).flatMap entL)) {x' y' : Bool} (h1 : x' = (x || lessK k fr)) (h2 : y' = (y || geB tk k)) : RgRel L fr tk lo hi w1 (j + 1) x' y' u' W :=
  ⟨by rw [h1, h.low, take_any hx]; simp [Bool.or_assoc], by rw [h2, h.high, take_any hx]; simp [Bool.or_assoc], hr, hb⟩
theorem RgRel.skip {L : List Ent} {fr tk : ByteArray} {lo hi : Bool} {w1 : World} {j : Nat} {x y : Bool} {u : Value} {wr W : World} {k s : ByteArray} {z : Int} (h : RgRel L fr tk lo hi w1 j x y u wr) (hx : L[j]? = some ⟨k, s, z⟩)
    (hb : Below wr.heap.size wr W) (hi' : inB fr tk k = false) {x' y' : Bool} (h1 : x' = (x || lessK k fr)) (h2 : y' = (y || geB tk k)) : RgRel L fr tk lo hi w1 (j + 1) x' y' u W := by
  refine h.next hx (h.below.trans (hb.mono h.below.size)) ?_ h1 h2
  rw [take_filter hx, if_neg (by simp [hi'])]
  exact row_below h.row hb
theorem RgRel.app {L : List Ent} {fr tk : ByteArray} {lo hi : Bool} {w1 : World} {j : Nat} {x y : Bool} {u u' : Value} {wr W w3 : World} {k s : ByteArray} {z : Int} {ob : Obj} (h : RgRel L fr tk lo hi w1 j x y u wr) (hx : L[j]? = some ⟨k, s, z⟩)
    (hb : Below wr.heap.size wr W) (hown : w3.ownsRow w1.heap.size 36 3 u' (((L.take j).filter fun x => inB fr tk x.key).length + 1) (((L.take j).filter fun x => inB fr tk x.key).flatMap entL ++ [.string k, .string s, .int .i64 z])) (hg : (W.alloc ob).grownBy w3 u.ownBlock) (hi' : inB fr tk k = true)
    {x' y' : Bool} (h1 : x' = (x || lessK k fr)) (h2 : y' = (y || geB tk k)) : RgRel L fr tk lo hi w1 (j + 1) x' y' u' w3 := by
  refine h.next hx ?_ ?_ h1 h2
  · refine h.below.trans ?_
    exact ((((Wrote.of_below (S := []) hb).mono (T := u.ownBlock.toList) (by simp)).alloc ob).trans (Wrote.of_grown hg)).below h.below.size fun g hg => (row_block h.row (by simpa using hg)).1
  · rw [take_filter hx, if_pos (by simpa using hi'), List.length_append, List.flatMap_append]
    simpa [entL] using hown
theorem RgRel.box {L : List Ent} {fr tk : ByteArray} {lo hi : Bool} {w1 : World} {j : Nat} {x y : Bool} {u : Value} {wr W w3 : World} {ob o2 : Obj} {xb : Nat} (h : RgRel L fr tk lo hi w1 j x y u wr) (hx : W.heap[xb]? = some o2) (hge : wr.heap.size ≤ xb)
    (hg : (W.alloc ob).grownBy w3 u.ownBlock) : w3.heap[xb]? = some o2 := by
  have h1 : (W.alloc ob).heap[xb]? = some o2 := (Below.heap_alloc W ob xb (lt_of_heap hx)).trans hx
  refine (hg.block xb (lt_of_heap h1) (fun e => ?_)).trans h1
  have := row_lt h.row xb e.symm
  omega
end Go.Proofs.YtlepjjcnlcnnfaaDoor.Merkle
