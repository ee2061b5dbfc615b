/- fault: what the document says of an error is what the program says. -/
import Derived.Test.YtapeplcpgcbinaaDoorFtext
import Derived.Test.YtapeplcpgcbinaaDoorFlaws
import Derived.Laws.AppendOwnNone
import Derived.Laws.StructEq
namespace Go.Proofs.YtapeplcpgcbinaaDoor
open Go.RowKit Go.My
/-- steps that lie somewhere -/
def SL (w : World) (a : Option Addr) (L : List StepT) : Prop := ∀ (i : Nat) (s : StepT), L[i]? = some s → ∃ g o, a = some ⟨g, o, none⟩ ∧ g < w.heap.size ∧ w.cell? ⟨g, o + i * 2, none⟩ = some (.string s.1) ∧ w.cell? ⟨g, o + i * 2 + 1, none⟩ = some (.int .i64 s.2)
theorem SL.below {w w' : World} {a : Option Addr} {L : List StepT} (h : SL w a L) (hb : Below w.heap.size w w') : SL w' a L := fun i s hi => by
  obtain ⟨g, o, h1, h2, h3, h4⟩ := h i s hi
  exact ⟨g, o, h1, Nat.lt_of_lt_of_le h2 hb.size, (hb.cell (p := ⟨g, _, none⟩) h2).trans h3, (hb.cell (p := ⟨g, _, none⟩) h2).trans h4⟩
theorem SL.of_row {w : World} {base n cap : Nat} {a : Option Addr} {L : List StepT} (h : w.ownsRow base 31 2 (.slice a n cap) n (L.flatMap stepL)) (hn : n = L.length) : SL w a L := fun i s hi => by
  have hlt := (List.getElem?_eq_some_iff.1 hi).1
  obtain ⟨g, rfl, h1, h2⟩ := row_pos h (by omega)
  refine ⟨g, 0, rfl, h2, ?_, ?_⟩
  · have := row_cell h stepL_len hn hi (j := 0) (by omega)
    simpa [stepL] using this
  · have := row_cell h stepL_len hn hi (j := 1) (by omega)
    simpa [stepL] using this
theorem SL.of_args {w : World} {a : Option Addr} {L : List StepT} (h : StepsAt w a L) : SL w a L := fun i s hi => by
  obtain ⟨g, o, cs, h1, h2, _, h3, rfl, _⟩ := h i s hi
  exact ⟨g, o, h1, h2, h3 0 _ rfl, h3 1 _ rfl⟩
set_option maxRecDepth 100000 in
set_option maxHeartbeats 1600000 in
theorem same_15 (ra rb : Option Addr) (ca cb n : Nat) (L : List StepT) (w : World) (ha : SL w ra L) (hb : SL w rb L) (hn : n = L.length) (hn9 : n ≤ 100000) :
    Calls Tryd.prog 15 #[.slice ra n ca, .slice rb n cb] w fun e w' => e = .returned (.bool true) ∧ Below w.heap.size w w' := by
  have HA := Lib.hid ha
  have HB := Lib.hid hb
  have HN := Lib.hid hn
  have hn8 : (n : Int) ≤ 100000 := by omega
  clear ha hb hn hn9
  go_enter Tryd.func15, Tryd.ntmps15
  go_wp2_with fail
  go_loopw [5] (fun i W => ∃ m : Nat, m ≤ n ∧ i = .int .i64 m ∧ Hid (Below w.heap.size w W)) (fun i _ => n - (intOf i).toNat)
  case atStart => exact ⟨0, by omega, rfl, Below.refl _ _⟩
  case round =>
    obtain ⟨m, hm, rfl, HR⟩ := hrel
    by_cases hlt : m < n
    · obtain ⟨e, he⟩ : ∃ e, L[m]? = some e := ⟨_, List.getElem?_eq_getElem (by rw [← HN.out]; exact hlt)⟩
      obtain ⟨g, o, rfl, hg, d0, d1⟩ := HA.out.below HR.out m e he
      obtain ⟨g', o', rfl, hg', f0, f1⟩ := HB.out.below HR.out m e he
      have hm0 : (0 : Int) ≤ (m : Int) := by omega
      have hm1 : (m : Int) < (n : Int) := by omega
      have HND : Hid (∀ nq, Below w.heap.size w (wr.drewN nq)) := fun nq => HR.out.trans ⟨rfl, rfl, rfl, by simp, fun _ _ => rfl⟩
      clear he
      go_wp2_with fail
      go_quiet (fail)
      go_wp2_with fail
      exact ⟨⟨m + 1, by omega, by simp, HND.out _⟩, by simp [intOf]; omega⟩
    · obtain rfl : m = n := by omega
      go_wp2_with fail
      go_ret
      exact ⟨rfl, HR.out⟩
theorem szS_append : ∀ (a b : List StepT), szS (a ++ b) = szS a + szS b
  | [], b => by simp [szS]
  | s :: a, b => by rw [List.cons_append, szS, szS, szS_append a b]; omega
theorem szS_reverse : ∀ (a : List StepT), szS a.reverse = szS a
  | [] => rfl
  | s :: a => by rw [List.reverse_cons, szS_append, szS_reverse a]; simp only [szS]; omega
theorem szS_take (a : List StepT) (m : Nat) : szS (a.take m) ≤ szS a := by
  have h := szS_append (a.take m) (a.drop m)
  rw [List.take_append_drop] at h
  omega
theorem szS_mem {a : List StepT} {s : StepT} (h : s ∈ a) : s.1.size ≤ szS a := by
  induction a with
  | nil => cases h
  | cons x a ih =>
    simp only [szS]
    rcases List.mem_cons.1 h with rfl | h
    · omega
    · have := ih h; omega
def costS : List StepT → Nat
  | [] => 0
  | s :: st => 10 + min s.1.size 20000 + costS st
theorem costS_snoc (a : List StepT) (s : StepT) : costS (a ++ [s]) = costS a + (10 + min s.1.size 20000) := by
  induction a with
  | nil => simp [costS]
  | cons x a ih => rw [List.cons_append, costS, costS, ih]; omega
theorem costS_len : ∀ a : List StepT, 10 * a.length ≤ costS a
  | [] => by simp [costS]
  | s :: a => by have := costS_len a; simp only [costS, List.length_cons]; omega
theorem cost_sz : ∀ a : List StepT, costS a < 20000 → szS a ≤ costS a + 14 * a.length
  | [], _ => by simp [szS]
  | s :: a, h => by
    simp only [costS] at h
    have := cost_sz a (by omega)
    simp only [szS, costS, List.length_cons]
    omega
def GreatG (w : World) (l : List StepT) (e : Ending) (w' : World) : Prop := ∃ g : Bool, e = .returned (.bool g) ∧ w' = w ∧ (g = false → l.length ≤ 2000 ∧ szS l ≤ 50000)
set_option maxRecDepth 100000 in
set_option maxHeartbeats 1600000 in
theorem great_9b (a : Option Addr) (cap n : Nat) (l : List StepT) (w : World) (h : StepsAt w a l) (hn : n = l.length) (hg : (n : Int) ≤ 70368744177664) : Calls Tryd.prog 9 #[.slice a n cap] w (GreatG w l) := by
  have H := Lib.hid h
  have HN := Lib.hid hn
  clear h hn
  go_enter Tryd.func9, Tryd.ntmps9
  go_wp2_with fail
  go_loopw [3, 4] (fun x y wr => wr = w ∧ ∃ c m : Nat, x = .int .i64 c ∧ y = .int .i64 m ∧ c ≤ 40010 ∧ Hid (c = costS (l.take m)) ∧ m ≤ n) (fun _ y _ => n - (intOf y).toNat)
  case atStart => exact ⟨rfl, 0, 0, rfl, rfl, by omega, rfl, by omega⟩
  case round =>
    obtain ⟨ew, c, m, rfl, rfl, hc, HCM, hm⟩ := hrel
    obtain rfl : w = wr := ew.symm
    have hc9 : (c : Int) ≤ 40010 := by omega
    by_cases hlt : m < n
    · have hlt1 : (m : Int) < (n : Int) := by omega
      have hm0 : (0 : Int) ≤ (m : Int) := by omega
      by_cases hcc : (c : Int) < 20000
      · obtain ⟨o, ho⟩ : ∃ o, l[m]? = some o := ⟨_, List.getElem?_eq_getElem (by rw [← HN.out]; exact hlt)⟩
        have HCS : Hid (costS (l.take (m + 1)) = c + (10 + min o.1.size 20000)) := by
          show _ = _
          rw [List.take_add_one, ho, HCM.out]
          exact costS_snoc _ _
        obtain ⟨g, off, rfl, d0, d1, hsz⟩ := H.out.cells ho
        generalize o.1 = s at d0 hsz HCS
        have hq9 : (s.size : Int) ≤ 9223372036854775807 := by unfold maxLen at hsz; omega
        clear ho hsz d1
        by_cases hq : (s.size : Int) < 20000
        · have hmin : min (s.size : Int) 20000 = s.size := by omega
          have HMN : Hid (costS (l.take (m + 1)) = c + 10 + s.size) := by show _ = _; rw [HCS.out]; omega
          go_wp2_with fail
          exact ⟨⟨trivial, c + 10 + s.size, m + 1, by simp, by simp, by omega, HMN.out.symm, by omega⟩, by simp [intOf]; omega⟩
        · have hmin : min (s.size : Int) 20000 = 20000 := by omega
          have HMN : Hid (costS (l.take (m + 1)) = c + 10 + 20000) := by show _ = _; rw [HCS.out]; omega
          go_wp2_with fail
          exact ⟨⟨trivial, c + 10 + 20000, m + 1, by simp, by simp, by omega, HMN.out.symm, by omega⟩, by simp [intOf]; omega⟩
      · have hd : decide (20000 ≤ c) = true := decide_eq_true (by omega)
        go_wp2_with fail
        go_ret
        exact ⟨_, rfl, rfl, fun h => by cases h⟩
    · obtain rfl : m = n := by omega
      have HE : Hid (c < 20000 → l.length ≤ 2000 ∧ szS l ≤ 50000) := fun hc => by
        have h1 := HCM.out
        rw [List.take_of_length_le (by rw [HN.out]; exact Nat.le_refl _)] at h1
        have h2 := costS_len l
        have h3 := cost_sz l (by omega)
        omega
      go_wp2_with fail
      go_ret
      exact ⟨_, rfl, rfl, fun h => HE.out (by simp at h; omega)⟩
def accB (b : ByteArray) (s : StepT) : ByteArray := (((b ++ s.1) ++ ⟨#[32]⟩) ++ numB s.2) ++ ⟨#[58, 32]⟩
theorem acc_text (e : Int) : ∀ (L : List StepT) (b : ByteArray), L.foldl accB b ++ errB e = b ++ textB e L
  | [], b => rfl
  | s :: L, b => by
    rw [List.foldl_cons, acc_text e L, accB, textB]
    simp only [ByteArray.append_assoc]
theorem acc_size : ∀ (L : List StepT) (b : ByteArray), (∀ s ∈ L, In64 s.2) → (L.foldl accB b).size ≤ b.size + szS L
  | [], b, _ => by simp [szS]
  | s :: L, b, h => by
    have h1 := acc_size L (accB b s) fun x hx => h x (List.mem_cons_of_mem _ hx)
    have h2 := numB_size (h s (by simp))
    have h3 : (accB b s).size = b.size + s.1.size + 1 + (numB s.2).size + 2 := by simp only [accB, ByteArray.size_append]; rfl
    rw [List.foldl_cons]
    simp only [szS]
    omega
set_option maxRecDepth 100000 in
set_option maxHeartbeats 1600000 in
theorem rtext_16 (e : Int) (he : e ≠ 0) (hen : In64 e) (a : Option Addr) (n cap : Nat) (L : List StepT) (w : World) (ht : TabHere w) (ha : SL w a L) (hn : n = L.length) (hn9 : n ≤ 100000) (hL : ∀ s ∈ L, In64 s.2) (hz : szS L ≤ 100000) :
    Calls Tryd.prog 16 #[.int .i64 e, .slice a n cap] w fun r w' => r = .returned (.string (textB e L)) ∧ Below w.heap.size w w' := by
  have HT := Lib.hid ht
  have HA := Lib.hid ha
  have HN := Lib.hid hn
  have HL := Lib.hid hL
  have heb : (e == 0) = false := by simpa using he
  have hn8 : (n : Int) ≤ 100000 := by omega
  have HEN := Lib.hid hen
  have HZ := Lib.hid hz
  clear ht ha hn hn9 hL he hen hz
  go_enter Tryd.func16, Tryd.ntmps16
  go_wp2_with fail
  go_loopw [5, 6] (fun x i W => ∃ m : Nat, m ≤ n ∧ x = .string ((L.take m).foldl accB ⟨#[]⟩) ∧ i = .int .i64 m ∧ Hid (Below w.heap.size w W)) (fun _ i _ => n - (intOf i).toNat)
  case atStart => exact ⟨0, by omega, rfl, rfl, Below.refl _ _⟩
  case round =>
    obtain ⟨m, hm, rfl, rfl, HR⟩ := hrel
    by_cases hlt : m < n
    · obtain ⟨s, hs⟩ : ∃ e, L[m]? = some e := ⟨_, List.getElem?_eq_getElem (by rw [← HN.out]; exact hlt)⟩
      obtain ⟨g, o, rfl, hg, c0, c1⟩ := HA.out.below HR.out m s hs
      have hin := HL.out s (List.mem_of_getElem? hs)
      have hm0 : (0 : Int) ≤ (m : Int) := by omega
      have hm1 : (m : Int) < (n : Int) := by omega
      have d0 : ∀ X : Later wr, X.1.cell? ⟨g, o + m * 2, none⟩ = some (.string s.1) := fun X => (X.cell hg).trans c0
      have d1 : ∀ X : Later wr, X.1.cell? ⟨g, o + m * 2 + 1, none⟩ = some (.int .i64 s.2) := fun X => (X.cell hg).trans c1
      have HQ1 : Hid (∀ X : Later wr, Calls Tryd.prog 19 #[.int .i64 s.2] X.1 fun e w' => e = .returned (.string (numB s.2)) ∧ ∃ Y : Later wr, w' = Y.1) := fun X => later_call (itoa_19 s.2 hin.1 hin.2 X.1 (HT.out.below HT.out.lt (HR.out.trans (X.2.mono HR.out.size))))
      have HEND : Hid (∀ X : Later wr, Below w.heap.size w X.1) := fun X => HR.out.trans (X.2.mono HR.out.size)
      have HNX : Hid ((L.take (m + 1)).foldl accB ⟨#[]⟩ = ((((L.take m).foldl accB ⟨#[]⟩ ++ s.1) ++ ⟨#[32]⟩) ++ numB s.2) ++ ⟨#[58, 32]⟩) := by
        show _ = _
        rw [List.take_add_one, hs, List.foldl_append]
        rfl
      have hbz : ((L.take m).foldl accB ⟨#[]⟩).size ≤ 200000 := by
        have h1 := acc_size (L.take m) ⟨#[]⟩ fun x hx => HL.out x (List.mem_of_mem_take hx)
        have h2 := szS_take L m
        have := HZ.out
        have h0 : (⟨#[]⟩ : ByteArray).size = 0 := rfl
        omega
      have hsz : s.1.size ≤ 100000 := Nat.le_trans (szS_mem (List.mem_of_getElem? hs)) HZ.out
      have hnb := numB_size hin
      generalize (L.take m).foldl accB ⟨#[]⟩ = b at HNX hbz ⊢
      generalize numB s.2 = nb at HQ1 HNX hnb
      have q1 : ¬ 9223372036854775807 < b.size + s.1.size := by omega
      have q2 : ¬ 9223372036854775807 < b.size + s.1.size + 1 := by omega
      have q3 : ¬ 9223372036854775807 < b.size + s.1.size + 1 + nb.size := by omega
      have q4 : ¬ 9223372036854775807 < b.size + s.1.size + 1 + nb.size + 2 := by omega
      clear hs c0 c1 hin
      go_wp2_with fail
      have here := Later.here wr
      refine wp_region_later (by kernel_rfl) (by kernel_rfl) ?_
      iterate 17 (with_reducible refine wpQuiet_step (fun K hK => ?_); try go_simp; first | (refine hK _ ?_; clear hK K) | (apply Exists.intro; refine ⟨fun _ => ?_, hK _ ?_⟩; (go_at_call 19; with_reducible exact HQ1.out _); clear hK K))
      with_reducible refine wpQuiet_nil ?_
      intro X
      go_wp2_with fail
      exact ⟨⟨m + 1, by omega, by rw [HNX.out], by simp, HEND.out X⟩, by simp [intOf]; omega⟩
    · obtain rfl : m = n := by omega
      have HC := Lib.hid (itoa_19 e HEN.out.1 HEN.out.2 wr (HT.out.below HT.out.lt HR.out))
      have HX : Hid ((L.take m).foldl accB ⟨#[]⟩ ++ errB e = textB e L) := by
        show _ = _
        rw [acc_text, List.take_of_length_le (by rw [HN.out]; exact Nat.le_refl _)]
        exact ByteArray.empty_append
      unfold errB at HX
      have hbz : ((L.take m).foldl accB ⟨#[]⟩).size ≤ 200000 := by
        have h1 := acc_size (L.take m) ⟨#[]⟩ fun x hx => HL.out x (List.mem_of_mem_take hx)
        have h2 := szS_take L m
        have := HZ.out
        have h0 : (⟨#[]⟩ : ByteArray).size = 0 := rfl
        omega
      have hnb := numB_size HEN.out
      generalize (L.take m).foldl accB ⟨#[]⟩ = b at HX hbz ⊢
      generalize numB e = nb at HC HX hnb
      have q5 : ¬ 9223372036854775807 < b.size + 14 := by omega
      have q6 : ¬ 9223372036854775807 < b.size + 14 + nb.size := by omega
      go_wp2_with fail
      refine HC.out.mono ?_
      rintro r w1 ⟨rfl, hb1⟩
      have HB1 := Lib.hid (HR.out.trans (hb1.mono HR.out.size))
      clear hb1
      have HX2 : Hid ((b ++ ⟨#[99, 111, 104, 111, 114, 116, 58, 32, 101, 114, 114, 111, 114, 32]⟩) ++ nb = textB e L) := by show _ = _; rw [ByteArray.append_assoc]; exact HX.out
      go_wp2_with fail
      rw [HX2.out]
      go_ret
      exact ⟨rfl, HB1.out⟩
theorem one_cells {L : List StepT} : ∀ u ∈ L.flatMap stepL, u.oneCell' = true := by
  intro u hu
  obtain ⟨e, _, h⟩ := List.mem_flatMap.1 hu
  simp only [stepL, List.mem_cons, List.not_mem_nil, or_false] at h
  rcases h with rfl | rfl <;> rfl
theorem flatS_len (L : List StepT) : (L.flatMap stepL).length = L.length * 2 := by
  induction L with
  | nil => rfl
  | cons x L ih => rw [List.flatMap_cons, List.length_append, ih, stepL_len, List.length_cons]; omega
/-- 'append' of a row of the call's own, onto another one. -/
theorem append_steps {w : World} {ops : Array Oper} {rest : List Oper} {o : Oper} {a : Act} {Q : Exit → Act → World → Prop} (hgd : o.guard = none) (s x : Operand)
    (ho : o.op = .call { callee := .builtin .append, args := #[s, x], argTypes := #[23, 23] })
    (base : Nat) (v : Value) (R M : List StepT) (hs : a.eval s = v) (hown : w.ownsRow base 31 2 v R.length (R.flatMap stepL)) (vx : Value) (hx : a.eval x = vx) (b2 : Nat) (hsrc : w.ownsRow b2 31 2 vx M.length (M.flatMap stepL)) (hR : R.length ≤ 100000) (hM : M.length ≤ 100000) (hbase : base ≤ w.heap.size)
    (h : ∀ v' w', w'.ownsRow base 31 2 v' (R ++ M).length ((R ++ M).flatMap stepL) → w.grownBy w' v.ownBlock → wpList Tryd.prog ops Q rest (a.put o.dst v') w') : wpList Tryd.prog ops Q (o :: rest) a w := by
  obtain ⟨i0, hi0, hz0, hz1, hz2⟩ := info_parts step_info
  rcases hsrc.2 with ⟨rfl, h0⟩ | ⟨g, cap, cur, rfl, hb, hg, hle, hmx, hsz, htk⟩
  · have hM0 : M = [] := List.length_eq_zero_iff.1 h0
    subst hM0
    refine wpList_append_own_none hgd s x 23 ho base 31 i0 2 Tryd.underlying23 hi0 v R.length _ hs hown hx ?_
    exact h v w (by simpa using hown) (World.grownBy.refl w _)
  · refine wpList_append_own w hgd s x 23 ho base 31 i0 _ 2 24 Tryd.underlying23 hi0 hz0 hz1 hz2 rfl (by decide) v R.length _ hs hown ⟨g, 0, none⟩ M.length cap (M.flatMap stepL) hx (flatS_len M) (fun j u hj => ?_) one_cells (by unfold maxLen; omega) (by omega) hbase (fun v' w' h2 h3 _ => ?_)
    · rw [Addr.add_lit, Nat.zero_add]
      have hj2 := (List.getElem?_eq_some_iff.1 hj).1
      rw [flatS_len] at hj2
      rw [hsrc.cellAt j hj2, hj]
    · exact h v' w' (by simpa using h2) h3
set_option maxRecDepth 100000 in
set_option maxHeartbeats 3200000 in
theorem tells_any (e : Int) (a : Option Addr) (n cap : Nat) (l : List StepT) (w : World) (hg : TypeIs w) (ht : TabHere w) (he : In64 e) (hl : StepsAt w a l) (hl6 : ∀ s ∈ l, In64 s.2) (hn : n = l.length) (hn9 : (n : Int) ≤ 70368744177664) :
    Calls Tryd.prog 3 #[.int .i64 e, .slice a n cap] w fun r w' => r = .returned (.bool true) ∧ Below w.heap.size w w' := by
  have HG := Lib.hid hg
  have HT := Lib.hid ht
  have HE := Lib.hid he
  have HL6 := Lib.hid hl6
  have HH := Lib.hid (head_8 w hg)
  have HL := Lib.hid hl
  have HN := Lib.hid hn
  have HGR : Hid (∀ W, Below w.heap.size w W → Calls Tryd.prog 9 #[.slice a n cap] W (GreatG W l)) := fun W hW => great_9b a cap n l W (HL.out.below hW) HN.out hn9
  have HO : Hid (∀ W, Calls Tryd.prog 10 #[.int .i64 e] W fun r w' => r = .returned (errZ e []) ∧ w' = W) := of_z e
  clear hg hl hn ht he hl6
  go_enter Tryd.func3, Tryd.ntmps3
  go_wp2_with fail
  refine HH.out.mono ?_
  rintro r w1 ⟨rfl, hb1⟩
  have HB1 := Lib.hid hb1
  clear hb1
  go_wp2_with fail
  refine (HGR.out _ HB1.out).mono ?_
  rintro r w' ⟨g, rfl, hw, hsm⟩
  obtain rfl : w1 = w' := hw.symm
  cases g with
  | true =>
    clear hsm
    go_wp2_with fail
    go_ret
    exact ⟨rfl, HB1.out⟩
  | false =>
    have hn2 : n ≤ 2000 := by have := (hsm rfl).1; have := HN.out; omega
    have HZZ : Hid (szS l ≤ 50000) := (hsm rfl).2
    clear hsm
    go_wp2_with fail
    refine (HO.out _).mono ?_
    rintro r w' ⟨rfl, hw⟩
    obtain rfl : w1 = w' := hw.symm
    have P0 : Hid (Below w.heap.size w w1 ∧ w1.ownsRow w.heap.size 31 2 (.slice none 0 0) (l.take 0).reverse.length ((l.take 0).reverse.flatMap stepL)) := ⟨HB1.out, World.ownsRow_nil _ _ _ _⟩
    go_wp2_with fail
    go_loopw [6, 7, 8] (fun x v y wr => ∃ m : Nat, x = errZ e (l.take m).reverse ∧ y = .int .i64 m ∧ m ≤ n ∧ Hid (Below w.heap.size w wr ∧ wr.ownsRow w.heap.size 31 2 v (l.take m).reverse.length ((l.take m).reverse.flatMap stepL))) (fun _ _ y _ => n - (intOf y).toNat)
    case atStart => exact ⟨0, rfl, rfl, by omega, P0⟩
    case round =>
      clear P0
      obtain ⟨m, rfl, rfl, hm, HB⟩ := hrel
      by_cases hlt : m < n
      · obtain ⟨s, hs⟩ : ∃ s, l[m]? = some s := ⟨_, List.getElem?_eq_getElem (by rw [← HN.out]; exact hlt)⟩
        obtain ⟨gb, off, rfl, hgb, d0, d1⟩ := (SL.of_args HL.out).below HB.out.1 m s hs
        have hlt1 : (m : Int) < (n : Int) := by omega
        have hm0 : (0 : Int) ≤ (m : Int) := by omega
        have HR := Lib.hid (take_rev hs)
        have HW : Hid (∀ W, Calls Tryd.prog 11 #[errZ e (l.take m).reverse, .string s.1, .int .i64 s.2] W fun r w' => r = .returned (errZ e (l.take (m + 1)).reverse) ∧ w' = W) := fun W => by rw [HR.out]; exact wrap_z e _ _ _ W
        have HND : Hid (∀ nq, Below wr.heap.size wr (wr.drewN nq)) := fun nq => ⟨rfl, rfl, rfl, by simp, fun _ _ => rfl⟩
        have HLEN : Hid ((l.take m).reverse.length ≤ 2000) := by show _ ≤ _; rw [List.length_reverse, List.length_take]; omega
        generalize errZ e (l.take m).reverse = v at HW ⊢
        generalize (l.take m).reverse = M at HR HB HLEN
        clear hs
        go_wp2_with fail
        go_quiet ((go_at_call 11; exact Calls.quiet_of_same (HW.out _)))
        go_wp2_with (at_builtin; refine append_steps rfl _ _ rfl w.heap.size _ [s] M rfl (World.ownsRow_lit (wr.drewN nq) #[.string s.1, .int .i64 s.2] 1 (by simpa using HB.out.1.size) (by unfold maxLen; omega) rfl) _ rfl w.heap.size (row_below (row_below HB.out.2 (HND.out nq)) ((Below.refl _ _).alloc (Nat.le_refl _) _)) (by simp) (by have := HLEN.out; omega) (by have := HB.out.1.size; simp; omega) ?_)
        intro v' w3 hown hgrow
        have HB3 : Hid (Below w.heap.size w w3 ∧ w3.ownsRow w.heap.size 31 2 v' (l.take (m + 1)).reverse.length ((l.take (m + 1)).reverse.flatMap stepL)) := by
          rw [HR.out]
          refine ⟨?_, by simpa using hown⟩
          have hb := HB.out.1.trans (((HND.out nq).trans ((Below.refl _ (wr.drewN nq)).alloc (Nat.le_refl _) (.cells #[.string s.1, .int .i64 s.2] 31) |>.mono (HND.out nq).size)).mono HB.out.1.size)
          have hW : Wrote [(wr.drewN nq).heap.size] _ w3 := Wrote.of_grown hgrow
          exact hb.trans (hW.below hb.size fun g hg' => by
            obtain rfl : g = (wr.drewN nq).heap.size := by simpa using hg'
            simpa using HB.out.1.size)
        clear hown hgrow
        go_wp2_with fail
        exact ⟨⟨m + 1, rfl, by simp, by omega, HB3.out⟩, by simp [intOf]; omega⟩
      · obtain rfl : m = n := by omega
        obtain ⟨T, hT⟩ : ∃ T, T = (l.take m).reverse := ⟨_, rfl⟩
        rw [← hT] at HB ⊢
        have HTL : Hid (m = T.length) := by show _ = _; rw [hT, List.length_reverse, List.length_take, ← HN.out]; omega
        have HT6 : Hid (∀ s ∈ T, In64 s.2) := by
          show ∀ _, _
          rw [hT]
          intro s hs
          exact HL6.out s (List.mem_of_mem_take (List.mem_reverse.1 hs))
        have HTZ : Hid (szS T ≤ 100000) := by show _ ≤ _; rw [hT, szS_reverse]; have := szS_take l m; have := HZZ.out; omega
        have hm2 : (m : Int) ≤ 2000 := by omega
        clear hT
        by_cases h0 : e = 0
        · subst h0
          rw [show errZ 0 T = .nilIface from rfl]
          have HTR : Hid (∀ W, Calls Tryd.prog 12 #[.nilIface] W (TrailLeft W [])) := trail_nil
          have HX : Hid (∀ W, Calls Tryd.prog 13 #[.nilIface] W fun e w' => e = .returned (.string ⟨#[]⟩) ∧ W = w') := text_nil
          have HC : Hid (∀ W, Calls Tryd.prog 14 #[.nilIface] W fun e w' => e = .returned (.int .i64 0) ∧ Below W.heap.size W w') := code_nil
          have hes : ((⟨#[]⟩ : ByteArray).toList == []) = true := by rw [Lib.toList_data]; rfl
          have HBB := Lib.hid HB.out.1
          go_wp2_with fail
          refine (HTR.out _).mono ?_
          rintro r w2 ⟨u, rfl, hrow, hb2⟩
          obtain ⟨ra, rc, rfl, _⟩ := row_form hrow
          have HB2 := Lib.hid (HBB.out.trans (hb2.mono HBB.out.size))
          rw [show ([] : List StepT).length = 0 from rfl]
          clear hrow hb2
          go_wp2_with fail
          refine (HX.out _).mono ?_
          rintro r w' ⟨rfl, rfl⟩
          go_wp2_with fail
          refine (HC.out _).mono ?_
          rintro r w3 ⟨rfl, hb3⟩
          have HB3 := Lib.hid (HB2.out.trans (hb3.mono HB2.out.size))
          clear hb3
          go_wp2_with fail
          go_ret
          exact ⟨rfl, HB3.out⟩
        · have heb : (e == 0) = false := by simpa using h0
          have HNE := Lib.hid h0
          rw [show errZ e T = errOf e T from if_neg h0]
          clear h0
          have hgr := HG.out.below HG.out.lt HB.out.1
          have HC := Lib.hid (code_of e T wr hgr)
          have HTR : Hid (∀ W, Below wr.heap.size wr W → Calls Tryd.prog 12 #[errOf e T] W (TrailLeft W T)) := fun W hW => trail_of e T W (hgr.below hgr.lt hW) (by rw [← HTL.out]; omega)
          have HX : Hid (∀ W, Below wr.heap.size wr W → Calls Tryd.prog 13 #[errOf e T] W fun r w' => r = .returned (.string (textB e T)) ∧ Below W.heap.size W w') := fun W hW => text_13 e HE.out T HT6.out HTZ.out W (HT.out.below HT.out.lt (HB.out.1.trans (hW.mono HB.out.1.size)))
          have hee : (e == e) = true := by simp
          obtain ⟨ta, tc, rfl, _⟩ := row_form HB.out.2
          have HRX : Hid (∀ W, Below wr.heap.size wr W → Calls Tryd.prog 16 #[.int .i64 e, .slice ta m tc] W fun r w' => r = .returned (.string (textB e T)) ∧ Below W.heap.size W w') := fun W hW => rtext_16 e HNE.out HE.out ta m tc T W (HT.out.below HT.out.lt (HB.out.1.trans (hW.mono HB.out.1.size))) ((SL.of_row HB.out.2 rfl).below hW) HTL.out (by omega) HT6.out HTZ.out
          rw [← HTL.out]
          obtain ⟨T1, v1, hE1⟩ := errOf_form e T
          rw [hE1] at HC HTR HX ⊢
          generalize hXX : textB e T = tx at HX HRX
          have hxx : (tx.toList == tx.toList) = true := by simp
          clear hE1 hgr hXX
          go_wp2_with fail
          refine HC.out.mono ?_
          rintro r w2 ⟨rfl, hb2⟩
          have HB2 := Lib.hid hb2
          clear hb2
          go_wp2_with fail
          refine (HTR.out _ HB2.out).mono ?_
          rintro r w3 ⟨u, rfl, hrow, hb3⟩
          obtain ⟨ra, rc, rfl, _⟩ := row_form hrow
          have HB3 := Lib.hid (HB2.out.trans (hb3.mono HB2.out.size))
          have HS := Lib.hid (same_15 ra ta rc tc m T w3 (SL.of_row hrow rfl) ((SL.of_row HB.out.2 (by rfl)).below HB3.out) HTL.out (by omega))
          rw [← HTL.out]
          clear hrow hb3
          go_wp2_with fail
          refine HS.out.mono ?_
          rintro r w4 ⟨rfl, hb4⟩
          have HB4 := Lib.hid (HB3.out.trans (hb4.mono HB3.out.size))
          clear hb4
          go_wp2_with fail
          refine (HX.out _ HB4.out).mono ?_
          rintro r w5 ⟨rfl, hb5⟩
          have HB5 := Lib.hid (HB4.out.trans (hb5.mono HB4.out.size))
          clear hb5
          go_wp2_with fail
          refine (HRX.out _ HB5.out).mono ?_
          rintro r w6 ⟨rfl, hb6⟩
          have HB6 := Lib.hid (HB.out.1.trans ((HB5.out.trans (hb6.mono HB5.out.size)).mono HB.out.1.size))
          clear hb6
          go_wp2_with fail
          go_ret
          exact ⟨rfl, HB6.out⟩
end Go.Proofs.YtapeplcpgcbinaaDoor
