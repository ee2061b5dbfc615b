/- A judge: two members, of groups; what may be wrong with them. -/
import Derived.Test.YtpcmkifgfokdpaaCross
namespace Go.Proofs.Ytpcmkifgfokdpaa
open Go.RowKit Go.My Go.My.Model Go.Deep
/-- A member, of a group. -/
structure One where
  group : Int
  s : Seen
def oneL (e : One) : List Value := [.int .i64 e.group, .int .i64 e.s.view, .bool e.s.normal, .int .i64 e.s.done, .int .i64 e.s.stable, .int .i64 e.s.pending, .slice e.s.ranS.a e.s.ranS.n e.s.ranS.cap, .slice e.s.saysS.a e.s.saysS.n e.s.saysS.cap, .slice e.s.recsS.a e.s.recsS.n e.s.recsS.cap, .slice e.s.entsS.a e.s.entsS.n e.s.entsS.cap, .slice e.s.heldS.a e.s.heldS.n e.s.heldS.cap, .slice e.s.piecesS.a e.s.piecesS.n e.s.piecesS.cap, .slice e.s.movesS.a e.s.movesS.n e.s.movesS.cap]
def oneA (e : One) : Value := .agg #[.int .i64 e.group, .int .i64 e.s.view, .bool e.s.normal, .int .i64 e.s.done, .int .i64 e.s.stable, .int .i64 e.s.pending, .slice e.s.ranS.a e.s.ranS.n e.s.ranS.cap, .slice e.s.saysS.a e.s.saysS.n e.s.saysS.cap, .slice e.s.recsS.a e.s.recsS.n e.s.recsS.cap, .slice e.s.entsS.a e.s.entsS.n e.s.entsS.cap, .slice e.s.heldS.a e.s.heldS.n e.s.heldS.cap, .slice e.s.piecesS.a e.s.piecesS.n e.s.piecesS.cap, .slice e.s.movesS.a e.s.movesS.n e.s.movesS.cap]
def ranB (x y : One) : Bool := decide (x.group = y.group) && x.s.ran.any fun r => y.s.ran.any (ranDiff r)
def decB (x y : One) : Bool := x.s.recs.any fun r => y.s.recs.any (recDiff r)
def ownB (x y : One) : Bool := !decide (x.group = y.group) && decide (0 < min x.group y.group) && x.s.held.any fun r => y.s.held.any (helDiff r)
structure Verd where
  fault : Int
  a : Int
  b : Int
def verA (v : Verd) : Value := .agg #[.int .i64 v.fault, .int .i64 v.a, .int .i64 v.b]
def verd0 : Verd := ⟨0, 0, 0⟩
def badB (p : One → One → Bool) (x y : One) : Bool := decide (0 ≤ min x.group y.group) && p x y
def PairSpec (fault : Int) (L : List One) (p : One → One → Bool) (v : Verd) : Prop :=
  (v = verd0 ∧ ∀ (a b : Nat) x y, a < b → L[a]? = some x → L[b]? = some y → badB p x y = false) ∨
  (∃ (a b : Nat) (x y : One), a < b ∧ L[a]? = some x ∧ L[b]? = some y ∧ badB p x y = true ∧ v = ⟨fault, (a : Int), (b : Int)⟩)
def PairLeft (w : World) (fault : Int) (L : List One) (p : One → One → Bool) (e : Ending) (w' : World) : Prop := ∃ v, e = .returned (verA v) ∧ Below w.heap.size w w' ∧ PairSpec fault L p v
set_option maxRecDepth 100000 in
set_option maxHeartbeats 1600000 in
theorem is_20 (x y : One) (w : World) (hx : SeenIn w x.s) (hy : SeenIn w y.s) (fx : Few x.s) (fy : Few y.s) : Calls Try.prog 20 #[oneA x, oneA y] w (BoolLeft w (ranB x y)) := by
  have HC : Hid (∀ W, Below w.heap.size w W → Calls Try.prog 34 #[.slice x.s.ranS.a x.s.ranS.n x.s.ranS.cap, .slice y.s.ranS.a y.s.ranS.n y.s.ranS.cap, .func (.func 35) #[] #[]] W (BoolLeft W (x.s.ran.any fun r => y.s.ran.any (ranDiff r)))) := fun W hb => by
    rw [hx.ranN, hy.ranN]
    exact cross_34 _ _ _ _ _ _ W ((hx.below hb).ran) ((hy.below hb).ran) fx.ran fy.ran
  have HB0 : Hid (∀ o o', Below w.heap.size w ((w.alloc o).alloc o')) := fun o o' => ((Below.refl _ w).alloc (Nat.le_refl _) o).alloc (by simp) o'
  obtain ⟨c, hc⟩ : ∃ c, c = (x.s.ran.any fun r => y.s.ran.any (ranDiff r)) := ⟨_, rfl⟩
  unfold ranB oneA
  rw [← hc] at HC ⊢
  clear hx hy fx fy hc
  by_cases h : x.group = y.group
  · have e1 : (x.group == y.group) = true := by simpa using h
    have HD : Hid (decide (x.group = y.group) = true) := decide_eq_true h
    rw [HD.out, Bool.true_and]
    clear h
    go_enter Try.func20, Try.ntmps20
    go_wp2_with fail
    refine (HC.out _ (HB0.out _ _)).mono ?_
    rintro e w1 ⟨rfl, hb⟩
    have HB : Hid (Below w.heap.size w w1) := (HB0.out _ _).trans (hb.mono (HB0.out _ _).size)
    clear hb
    go_wp2_with fail
    go_ret
    exact ⟨rfl, HB.out⟩
  · have e1 : (x.group == y.group) = false := by simpa using h
    have HD : Hid (decide (x.group = y.group) = false) := decide_eq_false h
    rw [HD.out, Bool.false_and]
    clear h
    go_enter Try.func20, Try.ntmps20
    go_wp2_with fail
    go_ret
    exact ⟨rfl, HB0.out _ _⟩
set_option maxRecDepth 100000 in
set_option maxHeartbeats 1600000 in
theorem is_21 (x y : One) (w : World) (hx : SeenIn w x.s) (hy : SeenIn w y.s) (fx : Few x.s) (fy : Few y.s) : Calls Try.prog 21 #[oneA x, oneA y] w (BoolLeft w (decB x y)) := by
  have HC : Hid (∀ W, Below w.heap.size w W → Calls Try.prog 36 #[.slice x.s.recsS.a x.s.recsS.n x.s.recsS.cap, .slice y.s.recsS.a y.s.recsS.n y.s.recsS.cap, .func (.func 37) #[] #[]] W (BoolLeft W (x.s.recs.any fun r => y.s.recs.any (recDiff r)))) := fun W hb => by
    rw [hx.recsN, hy.recsN]
    exact cross_36 _ _ _ _ _ _ W ((hx.below hb).recs) ((hy.below hb).recs) fx.recs fy.recs
  have HB0 : Hid (∀ o o', Below w.heap.size w ((w.alloc o).alloc o')) := fun o o' => ((Below.refl _ w).alloc (Nat.le_refl _) o).alloc (by simp) o'
  obtain ⟨c, hc⟩ : ∃ c, c = (x.s.recs.any fun r => y.s.recs.any (recDiff r)) := ⟨_, rfl⟩
  unfold decB oneA
  rw [← hc] at HC ⊢
  clear hx hy fx fy hc
  go_enter Try.func21, Try.ntmps21
  go_wp2_with fail
  refine (HC.out _ (HB0.out _ _)).mono ?_
  rintro e w1 ⟨rfl, hb⟩
  have HB : Hid (Below w.heap.size w w1) := (HB0.out _ _).trans (hb.mono (HB0.out _ _).size)
  clear hb
  go_wp2_with fail
  go_ret
  exact ⟨rfl, HB.out⟩
set_option maxRecDepth 100000 in
set_option maxHeartbeats 1600000 in
theorem is_22 (x y : One) (w : World) (hx : SeenIn w x.s) (hy : SeenIn w y.s) (fx : Few x.s) (fy : Few y.s) : Calls Try.prog 22 #[oneA x, oneA y] w (BoolLeft w (ownB x y)) := by
  have HC : Hid (∀ W, Below w.heap.size w W → Calls Try.prog 38 #[.slice x.s.heldS.a x.s.heldS.n x.s.heldS.cap, .slice y.s.heldS.a y.s.heldS.n y.s.heldS.cap, .func (.func 39) #[] #[]] W (BoolLeft W (x.s.held.any fun r => y.s.held.any (helDiff r)))) := fun W hb => by
    rw [hx.heldN, hy.heldN]
    exact cross_38 _ _ _ _ _ _ W ((hx.below hb).held) ((hy.below hb).held) fx.held fy.held
  have HB0 : Hid (∀ o o', Below w.heap.size w ((w.alloc o).alloc o')) := fun o o' => ((Below.refl _ w).alloc (Nat.le_refl _) o).alloc (by simp) o'
  obtain ⟨c, hc⟩ : ∃ c, c = (x.s.held.any fun r => y.s.held.any (helDiff r)) := ⟨_, rfl⟩
  unfold ownB oneA
  rw [← hc] at HC ⊢
  clear hx hy fx fy hc
  by_cases h : x.group = y.group
  · have e1 : (x.group != y.group) = false := by simpa using h
    have HD : Hid (decide (x.group = y.group) = true) := decide_eq_true h
    rw [HD.out, Bool.not_true, Bool.false_and, Bool.false_and]
    clear h
    go_enter Try.func22, Try.ntmps22
    go_wp2_with fail
    go_ret
    exact ⟨rfl, HB0.out _ _⟩
  · have e1 : (x.group != y.group) = true := by simpa using h
    have HD : Hid (decide (x.group = y.group) = false) := decide_eq_false h
    rw [HD.out, Bool.not_false, Bool.true_and]
    clear h
    cases hm : decide (0 < min x.group y.group) with
    | true =>
      rw [Bool.true_and]
      go_enter Try.func22, Try.ntmps22
      go_wp2_with fail
      refine (HC.out _ (HB0.out _ _)).mono ?_
      rintro e w1 ⟨rfl, hb⟩
      have HB : Hid (Below w.heap.size w w1) := (HB0.out _ _).trans (hb.mono (HB0.out _ _).size)
      clear hb
      go_wp2_with fail
      go_ret
      exact ⟨rfl, HB.out⟩
    | false =>
      rw [Bool.false_and]
      go_enter Try.func22, Try.ntmps22
      go_wp2_with fail
      go_ret
      exact ⟨rfl, HB0.out _ _⟩
end Go.Proofs.Ytpcmkifgfokdpaa
