/- The open numbers in memory; the short calls. -/
import Derived.Test.YtelmgaaofighpaaChecked
import Derived.Test.YtelmgaaofighpaaGenw
import Derived.Test.YtelmgaaofighpaaSpec
import Derived.WalkSpells
import Derived.WalkLawsBesides
import Derived.Deep.QuietTactic
import Derived.BigQuiet
import Derived.StillTailTactics
import Derived.Lib.Hide
namespace Go.Proofs.Ytelmgaaofighpaa
open Go.RowKit Go.My Go.My.Slots

def i64 (n : Int) : Value := .int .i64 n
def bal (k : Int × Int × Int) : Value := .agg #[.int .i64 k.1, .int .i64 k.2.1, .int .i64 k.2.2]
def prep (p : Int × Int × Int) : Value := .agg #[.int .i64 p.1, .int .i64 p.2.1, .int .i64 p.2.2, .int .i64 0, .int .i64 0, .slice none 0 0]

theorem kInt : KeyOk Try.prog 2 i64 := key_int Try.underlying2
theorem stood64 : Try.prog.stoodInHeld 64 = false := by kernel_rfl
theorem kBal : KeyOk Try.prog 64 bal := by
  refine KeyOk.ofAsk _ Try.underlying64 (fun es x y v b => rfl) (fun w x y => ?_) (fun w em x => ?_) (fun x => by simp [Instr.sameBits, bal])
  · obtain ⟨a, b, c⟩ := x
    obtain ⟨a', b', c'⟩ := y
    have h := run_equalIn_agg (P := Try.prog) w 9999 64 #[.int .i64 a, .int .i64 b, .int .i64 c] #[.int .i64 a', .int .i64 b', .int .i64 c'] (by kernel_rfl) stood64
    unfold Op.equal Op.maxDepth bal
    rw [h]
    simp only [Program.fieldsOf, Try.underlying64]
    have e : ∀ (t : TypeId) (x y : Int), Try.prog.underlying t = some (.int .i64) → (Op.equalIn 9999 t (.int .i64 x) (.int .i64 y)).run Try.prog w = .ok (x == y) w := fun t x y ht => run_equalIn_int (P := Try.prog) w 9998 t .i64 .i64 x y ht
    have p0 : ∀ (x y z : Value), (part 3 #[x, y, z] 0).run Try.prog w = .ok x w := fun x y z => by kernel_rfl
    have p1 : ∀ (x y z : Value), (part 2 #[x, y, z] 1).run Try.prog w = .ok y w := fun x y z => by kernel_rfl
    have p2 : ∀ (x y z : Value), (part 3 #[x, y, z] 2).run Try.prog w = .ok z w := fun x y z => by kernel_rfl
    generalize 9999 = d at *
    simp [Op.eqFields, e 3 _ _ Try.underlying3, e 2 _ _ Try.underlying2, p0, p1, p2]
    by_cases h1 : a = a' <;> by_cases h2 : b = b' <;> by_cases h3 : c = c' <;> simp [h1, h2, h3]
  · unfold bal Instr.checkKey
    simp only [Sem.run_bind, run_underlying Try.underlying64, Result.andThen_ok]
    have p0 : ∀ (x y z : Value), (part 3 #[x, y, z] 0).run Try.prog w = .ok x w := fun x y z => by kernel_rfl
    have p1 : ∀ (x y z : Value), (part 2 #[x, y, z] 1).run Try.prog w = .ok y w := fun x y z => by kernel_rfl
    have p2 : ∀ (x y z : Value), (part 3 #[x, y, z] 2).run Try.prog w = .ok z w := fun x y z => by kernel_rfl
    have e : ∀ (t : TypeId) (x : Int), Try.prog.underlying t = some (.int .i64) → (Instr.checkKey em 9999 t (.int .i64 x)).run Try.prog w = .ok () w := fun t x ht => by
      unfold Instr.checkKey; simp [run_underlying ht]
    generalize 9999 = d at *
    simp [p0, p1, p2, e 3 _ Try.underlying3, e 2 _ Try.underlying2]

structure Ids where
  b : Nat
  ba : Nat
  bd : Nat
  bv : Nat
  bp : Nat
def Ids.list (I : Ids) : List Nat := [I.b, I.ba, I.bd, I.bv, I.bp]

structure SlotsAt (w : World) (I : Ids) (s : St) : Prop where
  blk : w.heap[I.b]? = some (.cells #[.int .i64 s.low, .int .i64 s.view, .map (some I.ba), .map (some I.bd), .map (some I.bv), .map (some I.bp)] 61 (0, 0))
  acc : MapAt w I.ba i64 i64 s.acc
  dec : MapAt w I.bd i64 i64 s.dec
  votes : MapAt w I.bv bal i64 s.votes
  proofs : MapAt w I.bp i64 prep s.proofs
  nd : I.list.Nodup

theorem zero3 (w : World) : (zeroValue 3).run Try.prog w = .ok (.int .i64 0) w := by kernel_rfl
theorem zero44 (w : World) : (zeroValue 44).run Try.prog w = .ok (prep (0, 0, 0)) w := by kernel_rfl

def Reads (b : Nat) (low : Int) (w : World) : Prop := w.cell? ⟨b, 0, none⟩ = some (.int .i64 low)

theorem SlotsAt.c0 {w : World} {I : Ids} {s : St} (h : SlotsAt w I s) : w.cell? ⟨I.b, 0, none⟩ = some (.int .i64 s.low) := by rw [cell_of_row w I.b 0 _ _ _ h.blk]; rfl
theorem SlotsAt.c1 {w : World} {I : Ids} {s : St} (h : SlotsAt w I s) : w.cell? ⟨I.b, 1, none⟩ = some (.int .i64 s.view) := by rw [cell_of_row w I.b 1 _ _ _ h.blk]; rfl
theorem SlotsAt.c2 {w : World} {I : Ids} {s : St} (h : SlotsAt w I s) : w.cell? ⟨I.b, 2, none⟩ = some (.map (some I.ba)) := by rw [cell_of_row w I.b 2 _ _ _ h.blk]; rfl
theorem SlotsAt.c3 {w : World} {I : Ids} {s : St} (h : SlotsAt w I s) : w.cell? ⟨I.b, 3, none⟩ = some (.map (some I.bd)) := by rw [cell_of_row w I.b 3 _ _ _ h.blk]; rfl
theorem SlotsAt.c4 {w : World} {I : Ids} {s : St} (h : SlotsAt w I s) : w.cell? ⟨I.b, 4, none⟩ = some (.map (some I.bv)) := by rw [cell_of_row w I.b 4 _ _ _ h.blk]; rfl
theorem SlotsAt.c5 {w : World} {I : Ids} {s : St} (h : SlotsAt w I s) : w.cell? ⟨I.b, 5, none⟩ = some (.map (some I.bp)) := by rw [cell_of_row w I.b 5 _ _ _ h.blk]; rfl
theorem SlotsAt.fz {w : World} {I : Ids} {s : St} (h : SlotsAt w I s) (i : Nat) : w.frozen? ⟨I.b, i, none⟩ = false := by simp [World.frozen?, h.blk]
theorem SlotsAt.lt {w : World} {I : Ids} {s : St} (h : SlotsAt w I s) : I.b < w.heap.size := lt_of_heap h.blk

/-- it stays what it is while other blocks are written -/
theorem SlotsAt.touch {S : List Nat} {w w' : World} {I : Ids} {s : St} (h : SlotsAt w I s) (ht : Wrote S w w') (hS : ∀ k ∈ I.list, k ∉ S) : SlotsAt w' I s :=
  ⟨ht.heap h.blk (hS _ (by simp [Ids.list])), h.acc.touch ht (hS _ (by simp [Ids.list])), h.dec.touch ht (hS _ (by simp [Ids.list])), h.votes.touch ht (hS _ (by simp [Ids.list])), h.proofs.touch ht (hS _ (by simp [Ids.list])), h.nd⟩
theorem SlotsAt.ids_lt {w : World} {I : Ids} {s : St} (h : SlotsAt w I s) : ∀ k ∈ I.list, k < w.heap.size := by
  intro k hk
  simp only [Ids.list, List.mem_cons, List.not_mem_nil, or_false] at hk
  rcases hk with rfl | rfl | rfl | rfl | rfl
  · exact h.lt
  · exact h.acc.lt
  · exact h.dec.lt
  · exact h.votes.lt
  · exact h.proofs.lt
/-- .. and while new ones are made -/
theorem SlotsAt.below {w w' : World} {I : Ids} {s : St} (h : SlotsAt w I s) (ht : Below w.heap.size w w') : SlotsAt w' I s :=
  ⟨(ht.block _ h.lt).trans h.blk, h.acc.keep (ht.block _ h.acc.lt), h.dec.keep (ht.block _ h.dec.lt), h.votes.keep (ht.block _ h.votes.lt), h.proofs.keep (ht.block _ h.proofs.lt), h.nd⟩
theorem SlotsAt.alloc {w : World} {I : Ids} {s : St} (h : SlotsAt w I s) (o : Obj) : SlotsAt (w.alloc o) I s := h.below ((Below.refl _ _).alloc (Nat.le_refl _) o)

/-- one of the four maps is written -/
theorem SlotsAt.setAcc {w w' : World} {I : Ids} {s : St} (h : SlotsAt w I s) (ht : Wrote [I.ba] w w') {l : List (Int × Int)} (hl : MapAt w' I.ba i64 i64 l) : SlotsAt w' I { s with acc := l } := by
  have hn := h.nd
  simp [Ids.list] at hn
  exact ⟨ht.heap h.blk (by simp; omega), hl, h.dec.touch ht (by simp; omega), h.votes.touch ht (by simp; omega), h.proofs.touch ht (by simp; omega), h.nd⟩
theorem SlotsAt.setDec {w w' : World} {I : Ids} {s : St} (h : SlotsAt w I s) (ht : Wrote [I.bd] w w') {l : List (Int × Int)} (hl : MapAt w' I.bd i64 i64 l) : SlotsAt w' I { s with dec := l } := by
  have hn := h.nd
  simp [Ids.list] at hn
  exact ⟨ht.heap h.blk (by simp; omega), h.acc.touch ht (by simp; omega), hl, h.votes.touch ht (by simp; omega), h.proofs.touch ht (by simp; omega), h.nd⟩
theorem SlotsAt.setVotes {w w' : World} {I : Ids} {s : St} (h : SlotsAt w I s) (ht : Wrote [I.bv] w w') {l : List ((Int × Int × Int) × Int)} (hl : MapAt w' I.bv bal i64 l) : SlotsAt w' I { s with votes := l } := by
  have hn := h.nd
  simp [Ids.list] at hn
  exact ⟨ht.heap h.blk (by simp; omega), h.acc.touch ht (by simp; omega), h.dec.touch ht (by simp; omega), hl, h.proofs.touch ht (by simp; omega), h.nd⟩
theorem SlotsAt.setProofs {w w' : World} {I : Ids} {s : St} (h : SlotsAt w I s) (ht : Wrote [I.bp] w w') {l : List (Int × Int × Int × Int)} (hl : MapAt w' I.bp i64 prep l) : SlotsAt w' I { s with proofs := l } := by
  have hn := h.nd
  simp [Ids.list] at hn
  exact ⟨ht.heap h.blk (by simp; omega), h.acc.touch ht (by simp; omega), h.dec.touch ht (by simp; omega), h.votes.touch ht (by simp; omega), hl, h.nd⟩

def openI (low n : Int) : Bool := decide (low < n) && decide (n - low ≤ 16)
theorem openB_eq (s : St) (n : Int) : openB s n = openI s.low n := rfl

theorem low_any (b : Nat) (low : Int) (w : World) (h0 : w.cell? ⟨b, 0, none⟩ = some (.int .i64 low)) :
    Calls Try.prog 17 #[.pointer (some ⟨b, 0, none⟩)] w fun e w' => e = .returned (.int .i64 low) ∧ w = w' := by
  go_enter Try.func17, Try.ntmps17
  go_wp2
  go_ret
  exact ⟨rfl, rfl⟩
theorem view_any (b : Nat) (view : Int) (w : World) (h0 : w.cell? ⟨b, 1, none⟩ = some (.int .i64 view)) :
    Calls Try.prog 15 #[.pointer (some ⟨b, 0, none⟩)] w fun e w' => e = .returned (.int .i64 view) ∧ w = w' := by
  go_enter Try.func15, Try.ntmps15
  go_wp2
  go_ret
  exact ⟨rfl, rfl⟩

theorem open_any (b : Nat) (low n : Int) (w : World) (h0 : w.cell? ⟨b, 0, none⟩ = some (.int .i64 low)) (hl : 0 ≤ low) (hn : n ≤ 9223372036854775807) :
    Calls Try.prog 16 #[.pointer (some ⟨b, 0, none⟩), .int .i64 n] w fun e w' => e = .returned (.bool (openI low n)) ∧ w = w' := by
  by_cases h : low < n
  · go_enter Try.func16, Try.ntmps16
    go_wp2
    go_ret
    refine ⟨?_, rfl⟩
    simp [openI, h]
  · have hb : decide (low < n) = false := by simpa using h
    have e : openI low n = false := by unfold openI; rw [hb]; rfl
    rw [e]
    go_enter Try.func16, Try.ntmps16
    go_wp2
    go_ret
    exact ⟨rfl, rfl⟩

theorem at_any (b : Nat) (l : List (Int × Int)) (n : Int) (w : World) (h : MapAt w b i64 i64 l) :
    Calls Try.prog 30 #[.map (some b), .int .i64 n] w fun e w' => e = .returned (.tuple #[.int .i64 ((aget l n).getD 0), .bool (aget l n).isSome]) ∧ w = w' := by
  have hlk := h.lookup kInt Try.underlying57 (zero3 w) n
  cases hg : aget l n with
  | none =>
    rw [hg] at hlk
    simp only [i64, Option.map_none, Option.getD_none, Option.isSome_none] at hlk ⊢
    clear h hg
    go_enter Try.func30, Try.ntmps30
    go_wp2
    go_ret2
    exact ⟨rfl, rfl⟩
  | some v =>
    rw [hg] at hlk
    simp only [i64, Option.map_some, Option.getD_some, Option.isSome_some] at hlk ⊢
    clear h hg
    go_enter Try.func30, Try.ntmps30
    go_wp2
    go_ret2
    exact ⟨rfl, rfl⟩

theorem accepted_any (I : Ids) (s : St) (n : Int) (w : World) (h : SlotsAt w I s) :
    Calls Try.prog 13 #[.pointer (some ⟨I.b, 0, none⟩), .int .i64 n] w fun e w' => e = .returned (.tuple #[.int .i64 ((aget s.acc n).getD 0), .bool (aget s.acc n).isSome]) ∧ w = w' := by
  have c2 := h.c2
  have hc := at_any I.ba s.acc n w h.acc
  have hc := Lib.hid hc
  clear h
  go_enter Try.func13, Try.ntmps13
  go_wp2_with (go_at_call 30; refine hc.out.mono ?_; rintro e w' ⟨rfl, rfl⟩)
  go_ret2
  exact ⟨rfl, rfl⟩
theorem decided_any (I : Ids) (s : St) (n : Int) (w : World) (h : SlotsAt w I s) :
    Calls Try.prog 14 #[.pointer (some ⟨I.b, 0, none⟩), .int .i64 n] w fun e w' => e = .returned (.tuple #[.int .i64 ((aget s.dec n).getD 0), .bool (aget s.dec n).isSome]) ∧ w = w' := by
  have c3 := h.c3
  have hc := at_any I.bd s.dec n w h.dec
  have hc := Lib.hid hc
  clear h
  go_enter Try.func14, Try.ntmps14
  go_wp2_with (go_at_call 30; refine hc.out.mono ?_; rintro e w' ⟨rfl, rfl⟩)
  go_ret2
  exact ⟨rfl, rfl⟩

def onceI (low : Int) (l : List (Int × Int)) (n d : Int) : Bool := openI low n && decide (0 ≤ d) && (match aget l n with | none => true | some x => decide (x = d))
def Once (w : World) (mb : Nat) (low : Int) (l : List (Int × Int)) (n d : Int) (e : Ending) (w' : World) : Prop :=
  e = .returned (.bool (onceI low l n d)) ∧ MapAt w' mb i64 i64 (if onceI low l n d then aput l n d else l) ∧ Wrote [mb] w w'

theorem once_no {w : World} {mb : Nat} {low : Int} {l : List (Int × Int)} {n d : Int} (hm : MapAt w mb i64 i64 l) (h : onceI low l n d = false) : Once w mb low l n d (.returned (.bool false)) w := by
  unfold Once
  rw [h]
  exact ⟨rfl, hm, Wrote.refl _ _⟩
theorem once_yes {w w' : World} {mb : Nat} {low : Int} {l : List (Int × Int)} {n d : Int} (hm : MapAt w' mb i64 i64 (aput l n d)) (ht : Wrote [mb] w w') (h : onceI low l n d = true) : Once w mb low l n d (.returned (.bool true)) w' := by
  unfold Once
  rw [h]
  exact ⟨rfl, hm, ht⟩

set_option maxRecDepth 100000 in
set_option maxHeartbeats 800000 in
theorem once_any (b : Nat) (low : Int) (mb : Nat) (l : List (Int × Int)) (n d : Int) (w : World) (h0 : w.cell? ⟨b, 0, none⟩ = some (.int .i64 low)) (hl : 0 ≤ low) (hn : n ≤ 9223372036854775807) (hm : MapAt w mb i64 i64 l) :
    Calls Try.prog 42 #[.pointer (some ⟨b, 0, none⟩), .map (some mb), .int .i64 n, .int .i64 d] w (Once w mb low l n d) := by
  have hlk := hm.lookup kInt Try.underlying57 (zero3 w) n
  have hop := open_any b low n w h0 hl hn
  have HM := Lib.hid hm
  clear hm h0 hn
  cases hg : aget l n with
  | none =>
    rw [hg] at hlk
    simp only [i64, Option.map_none, Option.getD_none, Option.isSome_none] at hlk
    have HG := Lib.hid hg
    clear hg
    cases ho : openI low n with
    | false =>
      rw [ho] at hop
      have HO := Lib.hid ho
      have hop := Lib.hid hop
      clear ho
      go_enter Try.func42, Try.ntmps42
      go_wp2_with (go_at_call 16; refine hop.out.mono ?_; rintro e w' ⟨rfl, rfl⟩)
      go_ret
      exact once_no HM.out (by simp [onceI, HO.out])
    | true =>
      rw [ho] at hop
      have HO := Lib.hid ho
      have hop := Lib.hid hop
      clear ho
      by_cases hd : 0 ≤ d
      · go_enter Try.func42, Try.ntmps42
        go_wp2_with (first | (go_at_call 16; refine hop.out.mono ?_; rintro e w' ⟨rfl, rfl⟩) | (at_mapUpdate; refine wpList_update w rfl _ _ _ 57 rfl kInt Try.underlying57 mb l HM.out rfl n d rfl rfl ?_; intro w1 hm1 ht1))
        go_ret
        exact once_yes hm1 ht1 (by simp [onceI, HO.out, HG.out, hd])
      · have HD := Lib.hid hd
        have hd1 : d < 0 := by omega
        clear hd
        go_enter Try.func42, Try.ntmps42
        go_wp2_with (go_at_call 16; refine hop.out.mono ?_; rintro e w' ⟨rfl, rfl⟩)
        go_ret
        exact once_no HM.out (by have := HD.out; simp [onceI, HO.out, HG.out]; omega)
  | some x =>
    rw [hg] at hlk
    simp only [i64, Option.map_some, Option.getD_some, Option.isSome_some] at hlk
    have HG := Lib.hid hg
    clear hg
    cases ho : openI low n with
    | false =>
      rw [ho] at hop
      have HO := Lib.hid ho
      have hop := Lib.hid hop
      clear ho
      go_enter Try.func42, Try.ntmps42
      go_wp2_with (go_at_call 16; refine hop.out.mono ?_; rintro e w' ⟨rfl, rfl⟩)
      go_ret
      exact once_no HM.out (by simp [onceI, HO.out])
    | true =>
      rw [ho] at hop
      have HO := Lib.hid ho
      have hop := Lib.hid hop
      clear ho
      by_cases hd : 0 ≤ d
      · by_cases hx : x = d
        · subst hx
          go_enter Try.func42, Try.ntmps42
          go_wp2_with (first | (go_at_call 16; refine hop.out.mono ?_; rintro e w' ⟨rfl, rfl⟩) | (at_mapUpdate; refine wpList_update w rfl _ _ _ 57 rfl kInt Try.underlying57 mb l HM.out rfl n x rfl rfl ?_; intro w1 hm1 ht1))
          go_ret
          exact once_yes hm1 ht1 (by simp [onceI, HO.out, HG.out, hd])
        · have hx1 : (x == d) = false := by simpa using hx
          have hx2 : (x != d) = true := by simpa using hx
          have HX := Lib.hid hx
          clear hx
          go_enter Try.func42, Try.ntmps42
          go_wp2_with (go_at_call 16; refine hop.out.mono ?_; rintro e w' ⟨rfl, rfl⟩)
          go_ret
          exact once_no HM.out (by simp [onceI, HO.out, HG.out, HX.out])
      · have HD := Lib.hid hd
        have hd1 : d < 0 := by omega
        clear hd
        go_enter Try.func42, Try.ntmps42
        go_wp2_with (go_at_call 16; refine hop.out.mono ?_; rintro e w' ⟨rfl, rfl⟩)
        go_ret
        exact once_no HM.out (by have := HD.out; simp [onceI, HO.out, HG.out]; omega)

/-- what a call of the open numbers leaves -/
def Left (w : World) (I : Ids) (x : Bool) (s' : St) (e : Ending) (w' : World) : Prop := e = .returned (.bool x) ∧ SlotsAt w' I s' ∧ Wrote I.list w w'

theorem accept_any (I : Ids) (s : St) (n d : Int) (w : World) (h : SlotsAt w I s) (hi : Inv s) (hn : n ≤ 9223372036854775807) :
    Calls Try.prog 26 #[.pointer (some ⟨I.b, 0, none⟩), .int .i64 n, .int .i64 d] w (Left w I (onceB s s.acc n d) (accept s n d)) := by
  have c2 := h.c2
  have hc := Lib.hid (once_any I.b s.low I.ba s.acc n d w h.c0 hi.low0 hn h.acc)
  have H := Lib.hid h
  clear h
  go_enter Try.func26, Try.ntmps26
  go_wp2_with (go_at_call 42; refine hc.out.mono ?_; rintro e w' ⟨rfl, hm1, ht1⟩)
  go_ret
  exact ⟨rfl, H.out.setAcc ht1 hm1, ht1.mono (by simp [Ids.list])⟩
theorem decide_any (I : Ids) (s : St) (n d : Int) (w : World) (h : SlotsAt w I s) (hi : Inv s) (hn : n ≤ 9223372036854775807) :
    Calls Try.prog 28 #[.pointer (some ⟨I.b, 0, none⟩), .int .i64 n, .int .i64 d] w (Left w I (onceB s s.dec n d) (decideS s n d)) := by
  have c3 := h.c3
  have hc := Lib.hid (once_any I.b s.low I.bd s.dec n d w h.c0 hi.low0 hn h.dec)
  have H := Lib.hid h
  clear h
  go_enter Try.func28, Try.ntmps28
  go_wp2_with (go_at_call 42; refine hc.out.mono ?_; rintro e w' ⟨rfl, hm1, ht1⟩)
  go_ret
  exact ⟨rfl, H.out.setDec ht1 hm1, ht1.mono (by simp [Ids.list])⟩
end Go.Proofs.Ytelmgaaofighpaa
