/- General laws: the operations on maps in the walk's own form. Nothing here names a program. -/
import Derived.Test.YtpcmkifgfokdpaaGen
import Derived.WalkKit
import Derived.Maps.Own
import Derived.Maps.OwnOps
import Derived.Maps.OwnSet
import Derived.StillTailTactics
import Derived.Deep.Draws
namespace Go.My
open Go.RowKit
section
variable {K V : Type} [DecidableEq K] {P : Program} {ek : K → Value} {ev : V → Value} {ops : Array Oper} {rest : List Oper} {o : Oper} {a : Act} {Q : Exit → Act → World → Prop}

theorem wpList_update (w : World) (hg : o.guard = none) (m x v : Operand) (t : TypeId) (hop : o.op = Op.mapUpdate t m x v) {k e : TypeId} (hk : KeyOk P k ek) (ht : P.underlying t = some (.map k e))
    (b : Nat) (l : List (K × V)) (hat : MapAt w b ek ev l) (hm : a.eval m = .map (some b)) (x' : K) (v' : V) (hx : a.eval x = ek x') (hv : a.eval v = ev v')
    (hK : ∀ w', MapAt w' b ek ev (aput l x' v') → Wrote [b] w w' → wpList P ops Q rest (a.put o.dst undef) w') : wpList P ops Q (o :: rest) a w := by
  refine wpList_plain hg fun K' hK' => ?_
  obtain ⟨w', hrun, h1, h2⟩ := hat.update hk ht x' v'
  unfold Oper.wp
  simp [execOp, hop, hm, hx, hv, hrun, Result.andThen]
  exact hK' _ _ (hK w' h1 h2)

theorem wpList_delete (w : World) (hg : o.guard = none) (m x : Operand) (t t2 : TypeId) (hop : o.op = Op.call { callee := Callee.builtin Builtin.delete, args := #[m, x], argTypes := #[t, t2] }) {k e : TypeId} (hk : KeyOk P k ek) (ht : P.underlying t = some (.map k e))
    (b : Nat) (l : List (K × V)) (hat : MapAt w b ek ev l) (hm : a.eval m = .map (some b)) (x' : K) (hx : a.eval x = ek x')
    (hK : ∀ w', MapAt w' b ek ev (adel l x') → Wrote [b] w w' → wpList P ops Q rest (a.put o.dst (.tuple #[])) w') : wpList P ops Q (o :: rest) a w := by
  refine wpList_plain hg fun K' hK' => ?_
  obtain ⟨w', hrun, h1, h2⟩ := hat.delete (ty := o.type) (t2 := t2) hk ht x'
  unfold Oper.wp
  simp [execOp, hop, resolve, invoke, builtin, hm, hx, hrun, Result.andThen]
  exact hK' _ _ (hK w' h1 h2)

theorem wpList_clear (w : World) (hg : o.guard = none) (m : Operand) (t : TypeId) (hop : o.op = Op.call { callee := Callee.builtin Builtin.clear, args := #[m], argTypes := #[t] }) {d : TypeDesc} (ht : P.underlying t = some d)
    (b : Nat) (l : List (K × V)) (hat : MapAt w b ek ev l) (hm : a.eval m = .map (some b))
    (hK : ∀ w', MapAt w' b ek ev ([] : List (K × V)) → Wrote [b] w w' → wpList P ops Q rest (a.put o.dst (.tuple #[])) w') : wpList P ops Q (o :: rest) a w := by
  refine wpList_plain hg fun K' hK' => ?_
  obtain ⟨w', hrun, h1, h2⟩ := hat.clear (ty := o.type) ht
  unfold Oper.wp
  simp [execOp, hop, resolve, invoke, builtin, hm, hrun, Result.andThen]
  exact hK' _ _ (hK w' h1 h2)

theorem lenMap_run {w : World} {b : Nat} {l : List (K × V)} (hat : MapAt w b ek ev l) {t ty : TypeId} {k e : TypeId} (ht : P.underlying t = some (.map k e)) :
    (Builtin.len_ #[t] ty #[.map (some b)]).run P w = .ok (.int .i64 (l.length : Int)) w := by
  obtain ⟨es, c, hh, hs⟩ := hat.len
  simp [Builtin.len_, run_underlying ht, getObj, Sem.run, hh, hs, goInt]

/-- a region that draws: reads, then a tail in one order -/
theorem wp_region_tail {id : Nat} {w : World} {l : List Oper} (n : Nat) (hm : P.follows .mixedOrders = true) (hB : Region.lexTailB .any l.toArray n = true)
    (h : wpStill P l.toArray w.drew (fun a' => wpList P l.toArray Q (l.drop n) a' w.drew) (l.take n) a) : (Code.region id l.toArray true).wp P Q a w := wp_region_still_tail n hm hB h
end
end Go.My
