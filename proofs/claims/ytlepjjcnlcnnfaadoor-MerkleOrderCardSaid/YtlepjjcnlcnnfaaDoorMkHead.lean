/- Merkle: the laws' live question. -/
import Derived.Test.YtlepjjcnlcnnfaaDoorMkMade
import Derived.Test.YtlepjjcnlcnnfaaDoorMkHas2
namespace Go.Proofs.YtlepjjcnlcnnfaaDoor.Merkle
open Go.RowKit Go.My

set_option maxRecDepth 100000 in
theorem itoa0 (w : World) : Calls Tryd.prog 78 #[.int .i64 0] w fun e w' => e = .returned (.string ⟨#[48]⟩) ∧ w = w' := by
  go_enter Tryd.func78, Tryd.ntmps78
  go_wp2
  go_ret
  exact ⟨rfl, rfl⟩
set_option maxRecDepth 100000 in
theorem itoa62 (w : World) : Calls Tryd.prog 78 #[.int .i64 62] w fun e w' => e = .returned (.string ⟨#[54, 50]⟩) ∧ w = w' := by
  go_enter Tryd.func78, Tryd.ntmps78
  go_wp2
  go_ret
  exact ⟨rfl, rfl⟩
set_option maxRecDepth 100000 in
theorem errno62 (w : World) : Calls Tryd.prog 77 #[.int .i64 62] w fun e w' => e = .returned (.string ⟨#[99, 111, 104, 111, 114, 116, 58, 32, 101, 114, 114, 111, 114, 32, 54, 50]⟩) ∧ w = w' := by
  have hc := Lib.hid (itoa62 w)
  go_enter Tryd.func77, Tryd.ntmps77
  go_wp2_with (go_at_call 78; refine hc.out.mono ?_; rintro e w' ⟨rfl, rfl⟩)
  go_ret
  exact ⟨rfl, rfl⟩
theorem mErr (e : Int) (w : World) : (method 263 41 (.int .i64 e) "Error").run Tryd.prog w = .ok (77, .int .i64 e) w := by kernel_rfl
theorem mWrap (v : Value) (w : World) : (method 263 88 v "Error").run Tryd.prog w = .ok (94, v) w := by kernel_rfl
/-- "merkle 0: cohort: error 62" -/
def mk62 : ByteArray := ⟨#[109, 101, 114, 107, 108, 101, 32, 48, 58, 32, 99, 111, 104, 111, 114, 116, 58, 32, 101, 114, 114, 111, 114, 32, 54, 50]⟩
theorem mk62_eq : (mk62.toList == [109, 101, 114, 107, 108, 101, 32, 48, 58, 32, 99, 111, 104, 111, 114, 116, 58, 32, 101, 114, 114, 111, 114, 32, 54, 50]) = true := by rw [Lib.toList_data]; decide
set_option maxRecDepth 100000 in
theorem wrapped62 (w : World) : Calls Tryd.prog 94 #[.agg #[.string ⟨#[109, 101, 114, 107, 108, 101]⟩, .int .i64 0, .iface 41 (.int .i64 62)]] w fun e w' => e = .returned (.string mk62) ∧ Below w.heap.size w w' := by
  have hm := mErr
  go_enter Tryd.func94, Tryd.ntmps94
  go_wp2_with fail
  refine wp_region_quiet_lit (by kernel_rfl) (by kernel_rfl) ?_
  repeat (quiet_step ((first | (go_at_call 78; exact Calls.quiet_of_same ((itoa0 _).mono fun _ _ h => ⟨h.1, h.2.symm⟩)) | (go_at_call 77; exact Calls.quiet_of_same ((errno62 _).mono fun _ _ h => ⟨h.1, h.2.symm⟩)))))
  refine wpQuiet_nil ?_
  rintro _ ⟨nq, rfl⟩
  go_wp2
  go_ret
  exact ⟨rfl, ⟨rfl, rfl, rfl, by simp, fun k hk => Below.heap_alloc _ _ _ hk⟩⟩
set_option maxRecDepth 100000 in
theorem text62 (w : World) : Calls Tryd.prog 14 #[wrongV 62] w fun e w' => e = .returned (.string mk62) ∧ Below w.heap.size w w' := by
  have hm := mWrap
  unfold wrongV merkW
  go_enter Tryd.func14, Tryd.ntmps14
  go_wp2_with (go_at_call 94; refine (wrapped62 _).mono ?_; rintro e w' ⟨rfl, hb⟩)
  go_ret
  exact ⟨rfl, hb⟩
/-- Has of a proof whose shape is right -/
def HasT (w : World) (bB b m : Nat) (T : List ByteArray) (root : Int) (p : Prf) (n f : Nat) (key : ByteArray) (e : Ending) (w' : World) : Prop :=
  ∃ v' T' t d, e = .returned (if ((d : Nat) : Int) = root then hasV p.L n f key else .tuple #[zeroE, .bool false, wrongV 61]) ∧ BkT w' bB b m v' T' ∧ Ext T T' ∧ Told T' p n f t d ∧ T'.length ≤ T.length + (2 * n + 1) ∧ Fx bB w w'
theorem bkt_wrote {w w' : World} {bB b m q : Nat} {v : Value} {T : List ByteArray} (h : BkT w bB b m v T) (hw : Wrote [q] w w') {cs : Array Value} {t : TypeId} (hq : w.heap[q]? = some (.cells cs t (0, 0))) (ht : Kd (.cells cs t (0, 0)) = false) : BkT w' bB b m v T := by
  have hno : ∀ (k : Nat) (o : Obj), w.heap[k]? = some o → Kd o = true → k ∉ [q] := fun k o ho hk hm => by
    have e : k = q := by simpa using hm
    rw [e, hq] at ho
    cases ho
    rw [ht] at hk
    cases hk
  refine ⟨book_wrote h.book hw (hno b _ h.book.blk rfl) ?_ ?_, h.nd⟩
  · obtain ⟨es, c, he, _⟩ := h.book.map.len
    exact hno m _ he rfl
  · intro g hg
    obtain ⟨_, cur, hc⟩ := row_block h.book.row hg
    exact hno g _ hc rfl
theorem has_shaped (bB b m : Nat) (v : Value) (T : List ByteArray) (root : Int) (key : ByteArray) (p : Prf) (n f : Nat) (a1 a2 : Option Addr) (c1 c2 : Nat) (w : World) (hbk : BkT w bB b m v T) (h : PrfAt w bB p a1 a2) (hc : p.B.length ≤ c2) (hs : Shaped p n f) (hT : T.length ≤ 50000) :
    Calls Tryd.prog 10 #[.pointer (some ⟨b, 0, none⟩), .int .i64 root, .string key, prfV p a1 c1 a2 c2] w (HasT w bB b m T root p n f key) := by
  have hbw := hasW_below w p a1 c1 a2 c2
  have hch := chk_yes bB b m v T root p n f a1 a2 c1 c2 (hasW w p a1 c1 a2 c2) (hbk.below hbw) (h.keep (Fx.of_below hbw hbk.le)) hc hs hT
  have hres := hasW_res w p a1 c1 a2 c2
  have hbox := hasW_box w p a1 c1 a2 c2
  let Q : World → Prop := fun w1 => ∃ v' T' t d, ((d : Nat) : Int) = root ∧ BkT w1 bB b m v' T' ∧ Ext T T' ∧ Told T' p n f t d ∧ T'.length ≤ T.length + (2 * n + 1) ∧ Fx bB (hasW w p a1 c1 a2 c2) w1 ∧ w1.heap[w.heap.size + 1]? = some (.cells #[.string ⟨#[]⟩, .string ⟨#[]⟩, .int .i64 0] 36 (0, 0))
  let Q2 : World → Prop := fun w1 => ∃ v' T' t d, ((d : Nat) : Int) ≠ root ∧ BkT w1 bB b m v' T' ∧ Ext T T' ∧ Told T' p n f t d ∧ T'.length ≤ T.length + (2 * n + 1) ∧ Fx bB (hasW w p a1 c1 a2 c2) w1 ∧ w1.heap[w.heap.size + 1]? = some (.cells #[.string ⟨#[]⟩, .string ⟨#[]⟩, .int .i64 0] 36 (0, 0))
  have hall := has_any b root key p n f a1 a2 c1 c2 w 88 (.agg #[.string merkW, .int .i64 0, .iface 41 (.int .i64 61)]) Q Q2 hs (hch.mono fun e w1 hq => by
    obtain ⟨v', T', t, d, h1, h2, h3, h4, h5, h6⟩ := hq
    have hr1 := h6.kept _ _ hres rfl
    by_cases hd : ((d : Nat) : Int) = root
    · rw [if_pos hd] at h1
      exact .inr ⟨h1, ⟨v', T', t, d, hd, h2, h3, h4, h5, h6, hr1⟩, hr1, h6.kept _ _ hbox rfl, ((h.keep (Fx.of_below hbw hbk.le)).keep h6).ents.lies⟩
    · rw [if_neg hd] at h1
      exact .inl ⟨h1, ⟨v', T', t, d, hd, h2, h3, h4, h5, h6, hr1⟩, hr1⟩)
  refine hall.mono fun e w2 hq => ?_
  have fin : ∀ w1, Fx bB (hasW w p a1 c1 a2 c2) w1 → Wrote [w.heap.size + 1] w1 w2 → Fx bB w w2 := fun w1 f1 hw => by
    refine ⟨((hbw.mono hbk.le).trans f1.below).trans (hw.below (Nat.le_trans hbk.le (Nat.le_trans hbw.size f1.size)) fun k hk => by have e : k = w.heap.size + 1 := (by simpa using hk); rw [e]; exact Nat.le_trans hbk.le (Nat.le_succ _)), fun k o hk ho => ?_⟩
    exact hw.heap (f1.kept k o (box_kept hbw hk) ho) (fun hm => by have e : k = w.heap.size + 1 := (by simpa using hm); have := lt_of_heap hk; omega)
  rcases hq with ⟨h1, w1, ⟨v', T', t, d, hd, q2, q3, q4, q5, q6, q7⟩, hw⟩ | ⟨h1, w1, ⟨v', T', t, d, hd, q2, q3, q4, q5, q6, q7⟩, hw⟩
  · exact ⟨v', T', t, d, by rw [if_pos hd]; exact h1, bkt_wrote q2 hw q7 rfl, q3, q4, q5, fin w1 q6 hw⟩
  · exact ⟨v', T', t, d, by rw [if_neg hd]; exact h1, bkt_wrote q2 hw q7 rfl, q3, q4, q5, fin w1 q6 hw⟩
end Go.Proofs.YtlepjjcnlcnnfaaDoor.Merkle
