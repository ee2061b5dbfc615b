/- fault: the text of an error, whatever it is. -/
import Derived.Test.YtapeplcpgcbinaaDoorFhead
import Derived.Test.YtapeplcpgcbinaaDoorItoa
import Derived.Test.YtapeplcpgcbinaaDoorGenl
import Derived.Lib.ItoaLen
namespace Go.Proofs.YtapeplcpgcbinaaDoor
open Go.RowKit Go.My
theorem TabHere.lt {w : World} (h : TabHere w) : 1 < w.heap.size := by
  unfold TabHere Lib.TabIs World.var? at h
  rw [show Tryd.prog.globalNamed "internal/strconv.uint64pow10" = some 1 by kernel_rfl] at h
  simp only [Option.bind_some] at h
  rcases Nat.lt_or_ge 1 w.heap.size with h1 | h1
  · exact h1
  · rw [Array.getElem?_eq_none h1] at h
    cases h
theorem TabHere.below {N : Nat} {w w' : World} (h : TabHere w) (hN : 1 < N) (hb : Below N w w') : TabHere w' := by
  unfold TabHere Lib.TabIs World.var? at h ⊢
  rw [show Tryd.prog.globalNamed "internal/strconv.uint64pow10" = some 1 by kernel_rfl] at h ⊢
  simp only [Option.bind_some] at h ⊢
  rw [hb.block 1 hN]
  exact h
def In64 (n : Int) : Prop := -9223372036854775808 ≤ n ∧ n ≤ 9223372036854775807
def errB (n : Int) : ByteArray := ⟨#[99, 111, 104, 111, 114, 116, 58, 32, 101, 114, 114, 111, 114, 32]⟩ ++ numB n
def textB (n : Int) : List StepT → ByteArray
  | [] => errB n
  | s :: st => (((s.1 ++ ⟨#[32]⟩) ++ numB s.2) ++ ⟨#[58, 32]⟩) ++ textB n st
theorem numB_size {n : Int} (h : In64 n) : (numB n).size ≤ 21 := by
  have := Lib.itoa_length_le n h.1 h.2
  show (Lib.itoa n).toArray.size ≤ 21
  simpa using this
def szS : List StepT → Nat
  | [] => 0
  | s :: st => s.1.size + 24 + szS st
theorem textB_size {n : Int} (hn : In64 n) : ∀ {st : List StepT}, (∀ s ∈ st, In64 s.2) → (textB n st).size ≤ szS st + 35
  | [], _ => by
    have := numB_size hn
    simp [textB, errB, szS, ByteArray.size_append]
    show 14 + _ ≤ _
    omega
  | s :: st, hs => by
    have h1 := textB_size hn (st := st) fun x hx => hs x (List.mem_cons_of_mem _ hx)
    have h2 := numB_size (hs s (by simp))
    simp only [textB, ByteArray.size_append, szS]
    show _ + 1 + _ + 2 + _ ≤ _
    omega
set_option maxRecDepth 100000 in
theorem error_59 (n : Int) (hn : In64 n) (w : World) (ht : TabHere w) : Calls Tryd.prog 59 #[.int .i64 n] w fun e w' => e = .returned (.string (errB n)) ∧ Below w.heap.size w w' := by
  have hc := Lib.hid (itoa_19 n hn.1 hn.2 w ht)
  have hb := numB_size hn
  clear hn ht
  unfold errB
  generalize numB n = b at hc hb ⊢
  go_enter Tryd.func59, Tryd.ntmps59
  go_wp2_with fail
  refine hc.out.mono ?_
  rintro e w1 ⟨rfl, hb1⟩
  go_wp2_with fail
  go_ret
  exact ⟨rfl, hb1⟩
set_option maxRecDepth 100000 in
set_option maxHeartbeats 1600000 in
theorem error_60a (s : StepT) (hs : In64 s.2) (n : Int) (tx : ByteArray) (hsz : s.1.size ≤ 1000000) (htx : tx.size ≤ 10000000)
    (w : World) (ht : TabHere w) (hc : ∀ W, TabHere W → Calls Tryd.prog 59 #[.int .i64 n] W fun e w' => e = .returned (.string tx) ∧ Below W.heap.size W w') :
    Calls Tryd.prog 60 #[.agg #[.string s.1, .int .i64 s.2, .iface 22 (.int .i64 n)]] w fun e w' => e = .returned (.string ((((s.1 ++ ⟨#[32]⟩) ++ numB s.2) ++ ⟨#[58, 32]⟩) ++ tx)) ∧ Below w.heap.size w w' := by
  obtain ⟨W1, hW1⟩ : ∃ W1, W1 = w.alloc (.cells #[.string s.1, .int .i64 s.2, .iface 22 (.int .i64 n)] 44) := ⟨_, rfl⟩
  have hb1 : Below w.heap.size w W1 := by rw [hW1]; exact (Below.refl _ w).alloc (Nat.le_refl _) _
  have hrow : W1.heap[w.heap.size]? = some (.cells #[.string s.1, .int .i64 s.2, .iface 22 (.int .i64 n)] 44 (0, 0)) := by rw [hW1]; exact heap_alloc_new w _
  obtain ⟨xb, hxb⟩ : ∃ z, z = w.heap.size := ⟨_, rfl⟩
  rw [← hxb] at hrow
  have HB1 := Lib.hid hb1
  have h1 := ht.lt
  have ht1 : ∀ X : Later W1, TabHere X.1 := fun X => ht.below h1 (hb1.trans (X.2.mono hb1.size))
  have lx := lt_of_heap hrow
  have x0 : ∀ X : Later W1, X.1.cell? ⟨xb, 0, none⟩ = some (.string s.1) := fun X => by rw [cell_of_row _ _ _ _ _ _ ((X.2.block _ lx).trans hrow)]; rfl
  have x1 : ∀ X : Later W1, X.1.cell? ⟨xb, 1, none⟩ = some (.int .i64 s.2) := fun X => by rw [cell_of_row _ _ _ _ _ _ ((X.2.block _ lx).trans hrow)]; rfl
  have x2 : ∀ X : Later W1, X.1.cell? ⟨xb, 2, none⟩ = some (.iface 22 (.int .i64 n)) := fun X => by rw [cell_of_row _ _ _ _ _ _ ((X.2.block _ lx).trans hrow)]; rfl
  have HQ1 : Hid (∀ X : Later W1, Calls Tryd.prog 19 #[.int .i64 s.2] X.1 fun e w' => e = .returned (.string (numB s.2)) ∧ ∃ Y : Later W1, w' = Y.1) := fun X => later_call (itoa_19 s.2 hs.1 hs.2 X.1 (ht1 X))
  have HQ2 : Hid (∀ X : Later W1, Calls Tryd.prog 59 #[.int .i64 n] X.1 fun e w' => e = .returned (.string tx) ∧ ∃ Y : Later W1, w' = Y.1) := fun X => later_call (hc X.1 (ht1 X))
  have HEND : Hid (∀ X : Later W1, Below w.heap.size w X.1) := fun X => HB1.out.trans (X.2.mono HB1.out.size)
  have hnb := numB_size hs
  generalize numB s.2 = nb at HQ1 hnb ⊢
  have q1 : ¬ 9223372036854775807 < s.1.size + 1 := by omega
  have q2 : ¬ 9223372036854775807 < s.1.size + 1 + nb.size := by omega
  have q3 : ¬ 9223372036854775807 < s.1.size + 1 + nb.size + 2 := by omega
  have q4 : ¬ 9223372036854775807 < s.1.size + 1 + nb.size + 2 + tx.size := by omega
  have hm := mErr
  clear hb1 hrow ht1 hc hs ht h1
  go_enter Tryd.func60, Tryd.ntmps60
  go_wp2_with fail
  rw [← hW1, ← hxb]
  clear hW1 hxb
  have here := Later.here W1
  refine wp_region_later (by kernel_rfl) (by kernel_rfl) ?_
  iterate 15 (with_reducible refine wpQuiet_step (fun K hK => ?_); go_simp; first | (refine hK _ ?_; clear hK K) | (apply Exists.intro; refine ⟨fun _ => ?_, hK _ ?_⟩; (go_at_call 19; with_reducible exact HQ1.out _); clear hK K) | (apply Exists.intro; refine ⟨fun _ => ?_, hK _ ?_⟩; (go_at_call 59; with_reducible exact HQ2.out _); clear hK K))
  with_reducible refine wpQuiet_nil ?_
  intro X
  go_wp2_with fail
  go_ret
  exact ⟨rfl, HEND.out X⟩
set_option maxRecDepth 100000 in
set_option maxHeartbeats 1600000 in
theorem error_60b (s : StepT) (hs : In64 s.2) (x y z : Value) (tx : ByteArray) (hsz : s.1.size ≤ 1000000) (htx : tx.size ≤ 10000000)
    (w : World) (ht : TabHere w) (hc : ∀ W, TabHere W → Calls Tryd.prog 60 #[.agg #[x, y, z]] W fun e w' => e = .returned (.string tx) ∧ Below W.heap.size W w') :
    Calls Tryd.prog 60 #[.agg #[.string s.1, .int .i64 s.2, .iface 44 (.agg #[x, y, z])]] w fun e w' => e = .returned (.string ((((s.1 ++ ⟨#[32]⟩) ++ numB s.2) ++ ⟨#[58, 32]⟩) ++ tx)) ∧ Below w.heap.size w w' := by
  obtain ⟨W1, hW1⟩ : ∃ W1, W1 = w.alloc (.cells #[.string s.1, .int .i64 s.2, .iface 44 (.agg #[x, y, z])] 44) := ⟨_, rfl⟩
  have hb1 : Below w.heap.size w W1 := by rw [hW1]; exact (Below.refl _ w).alloc (Nat.le_refl _) _
  have hrow : W1.heap[w.heap.size]? = some (.cells #[.string s.1, .int .i64 s.2, .iface 44 (.agg #[x, y, z])] 44 (0, 0)) := by rw [hW1]; exact heap_alloc_new w _
  obtain ⟨xb, hxb⟩ : ∃ z, z = w.heap.size := ⟨_, rfl⟩
  rw [← hxb] at hrow
  have HB1 := Lib.hid hb1
  have h1 := ht.lt
  have ht1 : ∀ X : Later W1, TabHere X.1 := fun X => ht.below h1 (hb1.trans (X.2.mono hb1.size))
  have lx := lt_of_heap hrow
  have x0 : ∀ X : Later W1, X.1.cell? ⟨xb, 0, none⟩ = some (.string s.1) := fun X => by rw [cell_of_row _ _ _ _ _ _ ((X.2.block _ lx).trans hrow)]; rfl
  have x1 : ∀ X : Later W1, X.1.cell? ⟨xb, 1, none⟩ = some (.int .i64 s.2) := fun X => by rw [cell_of_row _ _ _ _ _ _ ((X.2.block _ lx).trans hrow)]; rfl
  have x2 : ∀ X : Later W1, X.1.cell? ⟨xb, 2, none⟩ = some (.iface 44 (.agg #[x, y, z])) := fun X => by rw [cell_of_row _ _ _ _ _ _ ((X.2.block _ lx).trans hrow)]; rfl
  have HQ1 : Hid (∀ X : Later W1, Calls Tryd.prog 19 #[.int .i64 s.2] X.1 fun e w' => e = .returned (.string (numB s.2)) ∧ ∃ Y : Later W1, w' = Y.1) := fun X => later_call (itoa_19 s.2 hs.1 hs.2 X.1 (ht1 X))
  have HQ2 : Hid (∀ X : Later W1, Calls Tryd.prog 60 #[.agg #[x, y, z]] X.1 fun e w' => e = .returned (.string tx) ∧ ∃ Y : Later W1, w' = Y.1) := fun X => later_call (hc X.1 (ht1 X))
  have HEND : Hid (∀ X : Later W1, Below w.heap.size w X.1) := fun X => HB1.out.trans (X.2.mono HB1.out.size)
  have hnb := numB_size hs
  generalize numB s.2 = nb at HQ1 hnb ⊢
  have q1 : ¬ 9223372036854775807 < s.1.size + 1 := by omega
  have q2 : ¬ 9223372036854775807 < s.1.size + 1 + nb.size := by omega
  have q3 : ¬ 9223372036854775807 < s.1.size + 1 + nb.size + 2 := by omega
  have q4 : ¬ 9223372036854775807 < s.1.size + 1 + nb.size + 2 + tx.size := by omega
  have hm := mWrap
  clear hb1 hrow ht1 hc hs ht h1
  go_enter Tryd.func60, Tryd.ntmps60
  go_wp2_with fail
  rw [← hW1, ← hxb]
  clear hW1 hxb
  have here := Later.here W1
  refine wp_region_later (by kernel_rfl) (by kernel_rfl) ?_
  iterate 15 (with_reducible refine wpQuiet_step (fun K hK => ?_); go_simp; first | (refine hK _ ?_; clear hK K) | (apply Exists.intro; refine ⟨fun _ => ?_, hK _ ?_⟩; (go_at_call 19; with_reducible exact HQ1.out _); clear hK K) | (apply Exists.intro; refine ⟨fun _ => ?_, hK _ ?_⟩; (go_at_call 60; with_reducible exact HQ2.out _); clear hK K))
  with_reducible refine wpQuiet_nil ?_
  intro X
  go_wp2_with fail
  go_ret
  exact ⟨rfl, HEND.out X⟩
def errF : List StepT → FuncId
  | [] => 59
  | _ :: _ => 60
def errX (n : Int) : List StepT → Value
  | [] => .int .i64 n
  | s :: st => .agg #[.string s.1, .int .i64 s.2, errOf n st]
theorem text_pack (n : Int) (hn : In64 n) : ∀ st : List StepT, (∀ s ∈ st, In64 s.2) → szS st ≤ 100000 → ∀ W, TabHere W → Calls Tryd.prog (errF st) #[errX n st] W fun e w' => e = .returned (.string (textB n st)) ∧ Below W.heap.size W w'
  | [], _, _, W, h => error_59 n hn W h
  | [s], hs, hz, W, ht => by
    have h1 : s.1.size ≤ 1000000 := by simp only [szS] at hz; omega
    have h2 : (errB n).size ≤ 10000000 := by have := textB_size hn (st := []) (by simp); simp only [textB, szS] at this; omega
    simp only [errF, errX, textB, errOf]
    exact error_60a s (hs s (by simp)) n (errB n) h1 h2 W ht fun W' h' => error_59 n hn W' h'
  | s :: s2 :: st, hs, hz, W, ht => by
    have hs2 : ∀ x ∈ s2 :: st, In64 x.2 := fun x hx => hs x (List.mem_cons_of_mem _ hx)
    have hz2 : szS (s2 :: st) ≤ 100000 := by simp only [szS] at hz ⊢; omega
    have ih := text_pack n hn (s2 :: st) hs2 hz2
    have h1 : s.1.size ≤ 1000000 := by simp only [szS] at hz; omega
    have h2 : (textB n (s2 :: st)).size ≤ 10000000 := by have := textB_size hn (st := s2 :: st) hs2; omega
    simp only [errF, errX] at ih ⊢
    rw [show textB n (s :: s2 :: st) = ((((s.1 ++ ⟨#[32]⟩) ++ numB s.2) ++ ⟨#[58, 32]⟩) ++ textB n (s2 :: st)) from rfl]
    rw [show errOf n (s2 :: st) = .iface 44 (.agg #[.string s2.1, .int .i64 s2.2, errOf n st]) from rfl]
    exact error_60b s (hs s (by simp)) _ _ _ (textB n (s2 :: st)) h1 h2 W ht fun W' h' => ih W' h'
set_option maxRecDepth 100000 in
theorem text_13 (n : Int) (hn : In64 n) (st : List StepT) (hst : ∀ s ∈ st, In64 s.2) (hz : szS st ≤ 100000) (w : World) (ht : TabHere w) :
    Calls Tryd.prog 13 #[errOf n st] w fun e w' => e = .returned (.string (textB n st)) ∧ Below w.heap.size w w' := by
  have HC := Lib.hid (text_pack n hn st hst hz w ht)
  generalize textB n st = b at HC ⊢
  clear hn hst ht hz
  cases st with
  | nil =>
    have hm := mErr
    have HC2 : Hid (Calls Tryd.prog 59 #[.int .i64 n] w fun e w' => e = .returned (.string b) ∧ Below w.heap.size w w') := HC
    clear HC
    rw [show errOf n [] = .iface 22 (.int .i64 n) from rfl]
    go_enter Tryd.func13, Tryd.ntmps13
    go_wp2_with (go_at_call 59; refine HC2.out.mono ?_; rintro e w' ⟨rfl, hb⟩)
    go_ret
    exact ⟨rfl, hb⟩
  | cons s st =>
    have hm := mWrap
    have HC2 : Hid (Calls Tryd.prog 60 #[.agg #[.string s.1, .int .i64 s.2, errOf n st]] w fun e w' => e = .returned (.string b) ∧ Below w.heap.size w w') := HC
    clear HC
    rw [show errOf n (s :: st) = .iface 44 (.agg #[.string s.1, .int .i64 s.2, errOf n st]) from rfl]
    generalize errOf n st = v at HC2 ⊢
    go_enter Tryd.func13, Tryd.ntmps13
    go_wp2_with (go_at_call 60; refine HC2.out.mono ?_; rintro e w' ⟨rfl, hb⟩)
    go_ret
    exact ⟨rfl, hb⟩
end Go.Proofs.YtapeplcpgcbinaaDoor
