/- Seals: the laws that walk. -/
import Derived.Test.YtmkhoiobjgilkaaArgs
import Derived.Deep.DeepCutAuto
namespace Go.Proofs.Ytmkhoiobjgilkaa
open Go.RowKit Go.My

theorem signed_sign (l : Seals) (who d x y : Int) : signedB (signS l who d) x y = (signedB l x y || (okB who d && decide (who = x) && decide (d = y))) := by
  unfold signedB signS
  cases hk : okB who d with
  | false => simp
  | true =>
    simp only [if_true]
    rw [aget_aput]
    by_cases h : (who, d) = (x, y)
    · rw [if_pos h]
      injection h with h1 h2
      simp [h1, h2]
    · rw [if_neg h]
      by_cases h1 : who = x
      · have h2 : d ≠ y := fun e => h (by rw [h1, e])
        simp [h2]
      · simp [h1]
theorem length_sign (l : Seals) (who d : Int) : (signS l who d).length ≤ l.length + 1 := by
  unfold signS
  split
  · cases h : aget l (who, d) with
    | none => rw [length_aput_none _ h]; exact Nat.le_refl _
    | some x => rw [length_aput_some _ (by simp [h])]; omega
  · omega
theorem wrote_below {w wr w' : World} {m : Nat} (hb : Below w.heap.size w wr) (ht : Wrote [m] wr w') (hm : w.heap.size ≤ m) : Below w.heap.size w w' :=
  hb.trans (ht.below hb.size (fun k hk => by simp at hk; omega))

set_option maxRecDepth 100000 in
theorem stay_long (a : Option Addr) (len : Nat) (cap : Nat) (x y : Int) (w : World) (hl : 200 < len) :
    Calls Try.prog 4 #[.slice a len cap, .int .i64 x, .int .i64 y] w fun e w' => e = .returned (.bool true) ∧ Below w.heap.size w w' := by
  go_enter Try.func4, Try.ntmps4
  go_wp2_with (go_at_call 7; refine (head_any _).mono ?_; rintro e w1 ⟨rfl, hb1⟩; have B1 := Lib.hid hb1; clear hb1)
  refine (new_any _).mono ?_
  rintro e w2 ⟨b, m, rfl, hs, hb, hI⟩
  have B2 := Lib.hid hb
  clear hs hb hI
  go_wp2_with fail
  go_ret
  exact ⟨rfl, B1.out.trans (B2.out.mono B1.out.size)⟩

def StayRel (w : World) (b m : Nat) (x y : Int) (k : Nat) (is : Value) (wr : World) : Prop :=
  ∃ l : Seals, l.length ≤ k ∧ is = .bool (signedB l x y) ∧ SealsAt wr b m l ∧ Below w.heap.size w wr

theorem StayRel.later {w : World} {b m : Nat} {x y : Int} {k : Nat} {is : Value} {wr : World} (h : StayRel w b m x y k is wr) (X : Later wr) : StayRel w b m x y k is X.1 :=
  let ⟨l, h1, h2, h3, h4⟩ := h
  ⟨l, h1, h2, h3.below X.2, h4.trans (X.2.mono h4.size)⟩

set_option maxRecDepth 100000 in
set_option maxHeartbeats 3200000 in
theorem stay_law (a : Option Addr) (ops : List Op3) (cap : Nat) (x y : Int) (w : World) (ha : OpsAt w a ops) (hl : ops.length ≤ 200) :
    Calls Try.prog 4 #[.slice a ops.length cap, .int .i64 x, .int .i64 y] w fun e w' => e = .returned (.bool true) ∧ Below w.heap.size w w' := by
  obtain ⟨len, hlen⟩ : ∃ len, len = ops.length := ⟨_, rfl⟩
  rw [← hlen] at hl ⊢
  have HA := Lib.hid ha
  have HL := Lib.hid hlen
  clear ha hlen
  go_enter Try.func4, Try.ntmps4
  go_wp2_with (go_at_call 7; refine (head_any _).mono ?_; rintro e w1 ⟨rfl, hb1⟩; have B1 := Lib.hid hb1; clear hb1)
  refine (new_any _).mono ?_
  rintro e w2 ⟨b, m, rfl, hs, hb, hI⟩
  have H2 := Lib.hid hs
  have B2 := Lib.hid hb
  have HI := Lib.hid hI
  clear hs hb hI
  go_wp2_with fail
  go_loopw [9, 10] (fun is i wr => ∃ k : Nat, k ≤ len ∧ i = .int .i64 k ∧ StayRel w b m x y k is wr) (fun _ i _ => len - (intOf i).toNat)
  case atStart => exact ⟨0, by omega, rfl, [], by simp, rfl, H2.out, B1.out.trans (B2.out.mono B1.out.size)⟩
  case round =>
    obtain ⟨k, hk, rfl, l, hll, rfl, hs, hb⟩ := hrel
    have HS := Lib.hid hs
    have HB := Lib.hid hb
    have HLL := Lib.hid hll
    clear hs hb hll
    by_cases hlt : k < len
    · skip
      have hok : ops[k]? = some (ops[k]'(by rw [← HL.out]; exact hlt)) := List.getElem?_eq_getElem _
      obtain ⟨o, ho⟩ : ∃ o, o = ops[k]'(by rw [← HL.out]; exact hlt) := ⟨_, rfl⟩
      rw [← ho] at hok
      obtain ⟨hn, ab, off, rfl, hbl, d0, d1, d2⟩ := HA.out k o hok
      have HN := Lib.hid hn
      have cells : ∀ W : World, Below w.heap.size w W → (W.cell? ⟨ab, off + k * 3, none⟩ = some (.int .i64 o.what) ∧ W.cell? ⟨ab, off + k * 3 + 1, none⟩ = some (.int .i64 o.who) ∧ W.cell? ⟨ab, off + k * 3 + 2, none⟩ = some (.int .i64 o.d)) := by
        intro W hW
        have ht : ∀ j, W.cell? ⟨ab, j, none⟩ = w.cell? ⟨ab, j, none⟩ := fun j => hW.cell hbl
        rw [ht, ht, ht]
        exact ⟨d0, d1, d2⟩
      have HC := Lib.hid cells
      have HBL := Lib.hid hbl
      clear hok ho hn hbl d0 d1 d2 cells
      obtain ⟨c0, c1, c2⟩ := HC.out _ HB.out
      go_wp2_with fail
      refine wp_region_tail 11 (by kernel_rfl) (by kernel_rfl) ?_
      simp only [List.take_succ_cons, List.take_zero, List.drop_succ_cons, List.drop_zero]
      repeat still_step
      refine wpStill_nil ?_
      go_wp2_with fail
      refine (sign_any b m l o.who o.d _ (HS.out.below (Below.refl _ _).drew) HN.out (by have := HLL.out; omega)).mono ?_
      rintro e w3 ⟨rfl, hs3, ht3⟩
      have HS3 := Lib.hid hs3
      have HB3 := Lib.hid (wrote_below HB.out.drew ht3 (Nat.le_trans B1.out.size HI.out))
      have HX := Lib.hid (signed_sign l o.who o.d x y)
      have HY := Lib.hid (signed_sign l o.who o.d o.who o.d)
      have HR : Hid (StayRel w b m x y (k + 1) (.bool (signedB (signS l o.who o.d) x y)) w3) := ⟨_, by have := HLL.out; have := length_sign l o.who o.d; omega, rfl, hs3, HB3.out⟩
      clear hs3 ht3 c0 c1 c2
      obtain ⟨c0, c1, c2⟩ := HC.out _ HB3.out
      have HC3 : Hid (∀ X : Later w3, X.1.cell? ⟨ab, off + k * 3 + 1, none⟩ = some (.int .i64 o.who) ∧ X.1.cell? ⟨ab, off + k * 3 + 2, none⟩ = some (.int .i64 o.d)) := fun X => (HC.out _ (HB3.out.trans (X.2.mono HB3.out.size))).2
      have HQ1 : Hid (∀ X : Later w3, Calls Try.prog 16 #[.pointer (some ⟨b, 0, none⟩), .int .i64 x, .int .i64 y] X.1 fun e w' => e = .returned (.bool (signedB (signS l o.who o.d) x y)) ∧ ∃ Y : Later w3, w' = Y.1) := fun X => later_call (signed_any b m _ x y X.1 (HS3.out.below X.2))
      have HQ2 : Hid (∀ X : Later w3, Calls Try.prog 16 #[.pointer (some ⟨b, 0, none⟩), .int .i64 o.who, .int .i64 o.d] X.1 fun e w' => e = .returned (.bool (signedB (signS l o.who o.d) o.who o.d)) ∧ ∃ Y : Later w3, w' = Y.1) := fun X => later_call (signed_any b m _ o.who o.d X.1 (HS3.out.below X.2))
      cases hok : okB o.who o.d with
      | false =>
        rw [hok] at HX HY
        have e1 : signedB (signS l o.who o.d) x y = signedB l x y := by rw [HX.out]; simp
        rw [e1] at HQ1 HR
        have HE : Hid (errOf o.who false = wrapV ⟨#[115, 101, 97, 108, 115]⟩ o.who 1) := rfl
        rw [HE.out]
        unfold wrapV
        clear e1 hok HE
        generalize Value.agg #[.string ⟨#[115, 101, 97, 108, 115]⟩, .int .i64 o.who, .iface 47 (.int .i64 1)] = z
        cases hsx : signedB l x y with
        | true =>
          rw [hsx] at HQ1 HR
          clear hsx
          go_wp2_with fail
          have cc1 := fun X => (HC3.out X).1
          have cc2 := fun X => (HC3.out X).2
          have here := Later.here w3
          refine wp_region_later (by kernel_rfl) (by kernel_rfl) ?_
          iterate 25 (with_reducible refine wpQuiet_step (fun K hK => ?_); go_simp; first | (refine hK _ ?_; clear hK K) | (apply Exists.intro; refine ⟨fun _ => ?_, hK _ ?_⟩; (go_at_call 16; first | with_reducible exact HQ1.out _ | with_reducible exact HQ2.out _); clear hK K))
          with_reducible refine wpQuiet_nil ?_
          intro X
          go_wp2_with fail
          exact ⟨⟨k + 1, by omega, by simp, HR.out.later X⟩, by simp [intOf]; omega⟩
        | false =>
          rw [hsx] at HQ1 HR
          clear hsx
          go_wp2_with fail
          have cc1 := fun X => (HC3.out X).1
          have cc2 := fun X => (HC3.out X).2
          have here := Later.here w3
          refine wp_region_later (by kernel_rfl) (by kernel_rfl) ?_
          iterate 25 (with_reducible refine wpQuiet_step (fun K hK => ?_); go_simp; first | (refine hK _ ?_; clear hK K) | (apply Exists.intro; refine ⟨fun _ => ?_, hK _ ?_⟩; (go_at_call 16; first | with_reducible exact HQ1.out _ | with_reducible exact HQ2.out _); clear hK K))
          with_reducible refine wpQuiet_nil ?_
          intro X
          go_wp2_with fail
          exact ⟨⟨k + 1, by omega, by simp, HR.out.later X⟩, by simp [intOf]; omega⟩
      | true =>
        rw [hok] at HX HY
        have HE : Hid (errOf o.who true = .nilIface) := rfl
        rw [HE.out]
        have e2 : signedB (signS l o.who o.d) o.who o.d = true := by rw [HY.out]; simp
        rw [e2] at HQ2
        clear hok HE e2
        cases hsx : signedB l x y with
        | true =>
          have e1 : signedB (signS l o.who o.d) x y = true := by rw [HX.out, hsx]; rfl
          rw [e1] at HQ1 HR
          clear e1 hsx
          go_wp2_with fail
          have cc1 := fun X => (HC3.out X).1
          have cc2 := fun X => (HC3.out X).2
          have here := Later.here w3
          refine wp_region_later (by kernel_rfl) (by kernel_rfl) ?_
          iterate 25 (with_reducible refine wpQuiet_step (fun K hK => ?_); go_simp; first | (refine hK _ ?_; clear hK K) | (apply Exists.intro; refine ⟨fun _ => ?_, hK _ ?_⟩; (go_at_call 16; first | with_reducible exact HQ1.out _ | with_reducible exact HQ2.out _); clear hK K))
          with_reducible refine wpQuiet_nil ?_
          intro X
          go_wp2_with fail
          exact ⟨⟨k + 1, by omega, by simp, HR.out.later X⟩, by simp [intOf]; omega⟩
        | false =>
          by_cases h1 : o.who = x
          · by_cases h2 : o.d = y
            · have e1 : signedB (signS l o.who o.d) x y = true := by rw [HX.out]; simp [h1, h2]
              rw [e1] at HQ1 HR
              have f1 : (o.who == x) = true := by simp [h1]
              have f2 : (o.d == y) = true := by simp [h2]
              have F1 := Lib.hid h1
              have F2 := Lib.hid h2
              clear e1 hsx h1 h2
              go_wp2_with fail
              have cc1 := fun X => (HC3.out X).1
              have cc2 := fun X => (HC3.out X).2
              have here := Later.here w3
              refine wp_region_later (by kernel_rfl) (by kernel_rfl) ?_
              iterate 25 (with_reducible refine wpQuiet_step (fun K hK => ?_); go_simp; first | (refine hK _ ?_; clear hK K) | (apply Exists.intro; refine ⟨fun _ => ?_, hK _ ?_⟩; (go_at_call 16; first | with_reducible exact HQ1.out _ | with_reducible exact HQ2.out _); clear hK K))
              with_reducible refine wpQuiet_nil ?_
              intro X
              go_wp2_with fail
              exact ⟨⟨k + 1, by omega, by simp, HR.out.later X⟩, by simp [intOf]; omega⟩
            · have e1 : signedB (signS l o.who o.d) x y = false := by rw [HX.out, hsx]; simp [h2]
              rw [e1] at HQ1 HR
              have f1 : (o.who == x) = true := by simp [h1]
              have f2 : (o.d == y) = false := by simp [h2]
              clear e1 hsx h1 h2
              go_wp2_with fail
              have cc1 := fun X => (HC3.out X).1
              have cc2 := fun X => (HC3.out X).2
              have here := Later.here w3
              refine wp_region_later (by kernel_rfl) (by kernel_rfl) ?_
              iterate 25 (with_reducible refine wpQuiet_step (fun K hK => ?_); go_simp; first | (refine hK _ ?_; clear hK K) | (apply Exists.intro; refine ⟨fun _ => ?_, hK _ ?_⟩; (go_at_call 16; first | with_reducible exact HQ1.out _ | with_reducible exact HQ2.out _); clear hK K))
              with_reducible refine wpQuiet_nil ?_
              intro X
              go_wp2_with fail
              exact ⟨⟨k + 1, by omega, by simp, HR.out.later X⟩, by simp [intOf]; omega⟩
          · have e1 : signedB (signS l o.who o.d) x y = false := by rw [HX.out, hsx]; simp [h1]
            rw [e1] at HQ1 HR
            have f1 : (o.who == x) = false := by simp [h1]
            clear e1 hsx h1
            go_wp2_with fail
            have cc1 := fun X => (HC3.out X).1
            have cc2 := fun X => (HC3.out X).2
            have here := Later.here w3
            refine wp_region_later (by kernel_rfl) (by kernel_rfl) ?_
            iterate 25 (with_reducible refine wpQuiet_step (fun K hK => ?_); go_simp; first | (refine hK _ ?_; clear hK K) | (apply Exists.intro; refine ⟨fun _ => ?_, hK _ ?_⟩; (go_at_call 16; first | with_reducible exact HQ1.out _ | with_reducible exact HQ2.out _); clear hK K))
            with_reducible refine wpQuiet_nil ?_
            intro X
            go_wp2_with fail
            exact ⟨⟨k + 1, by omega, by simp, HR.out.later X⟩, by simp [intOf]; omega⟩
    · go_wp2_with fail
      go_ret
      exact ⟨rfl, HB.out⟩
end Go.Proofs.Ytmkhoiobjgilkaa
