/- Seals: the law of the others, walked. -/
import Derived.Test.YtmkhoiobjgilkaaLaws
namespace Go.Proofs.Ytmkhoiobjgilkaa
open Go.RowKit Go.My

set_option maxRecDepth 100000 in
theorem others_long (a : Option Addr) (len : Nat) (cap : Nat) (who dig oth d : Int) (w : World) (hl : 200 < len) :
    Calls Try.prog 6 #[.slice a len cap, .int .i64 who, .int .i64 dig, .int .i64 oth, .int .i64 d] w fun e w' => e = .returned (.bool true) ∧ Below w.heap.size w w' := by
  go_enter Try.func6, Try.ntmps6
  go_wp2_with (go_at_call 7; refine (head_any _).mono ?_; rintro e w1 ⟨rfl, hb1⟩; have B1 := Lib.hid hb1; clear hb1)
  refine (new_any _).mono ?_
  rintro e w2 ⟨b, m, rfl, hs, hb, hI⟩
  have B2 := Lib.hid hb
  clear hs hb hI
  go_wp2_with fail
  go_ret
  exact ⟨rfl, B1.out.trans (B2.out.mono B1.out.size)⟩

def OthRel (w : World) (b m : Nat) (k : Nat) (wr : World) : Prop := ∃ l : Seals, l.length ≤ k ∧ SealsAt wr b m l ∧ Below w.heap.size w wr
def OthOut (w : World) (v : Value) (w' : World) : Prop := v = .bool true ∧ Below w.heap.size w w'

set_option maxRecDepth 100000 in
set_option maxHeartbeats 3200000 in
theorem others_law (a : Option Addr) (ops : List Op3) (cap : Nat) (who dig oth d : Int) (w : World) (ha : OpsAt w a ops) (hl : ops.length ≤ 200) (hwho : who ≤ 9223372036854775807) :
    Calls Try.prog 6 #[.slice a ops.length cap, .int .i64 who, .int .i64 dig, .int .i64 oth, .int .i64 d] w fun e w' => e = .returned (.bool true) ∧ Below w.heap.size w w' := by
  obtain ⟨len, hlen⟩ : ∃ len, len = ops.length := ⟨_, rfl⟩
  rw [← hlen] at hl ⊢
  have HA := Lib.hid ha
  have HL := Lib.hid hlen
  have HW := Lib.hid hwho
  clear ha hlen hwho
  go_enter Try.func6, Try.ntmps6
  go_wp2_with (go_at_call 7; refine (head_any _).mono ?_; rintro e w1 ⟨rfl, hb1⟩; have B1 := Lib.hid hb1; clear hb1)
  refine (new_any _).mono ?_
  rintro e w2 ⟨b, m, rfl, hs, hb, hI⟩
  have H2 := Lib.hid hs
  have B2 := Lib.hid hb
  have HI := Lib.hid hI
  clear hs hb hI
  go_wp2_with fail
  go_loopw [13] (fun i wr => ∃ k : Nat, k ≤ len ∧ i = .int .i64 k ∧ OthRel w b m k wr) (fun i _ => len - (intOf i).toNat)
  case atStart => exact ⟨0, by omega, rfl, [], by simp, H2.out, B1.out.trans (B2.out.mono B1.out.size)⟩
  case round =>
    obtain ⟨k, hk, rfl, l, hll, hs, hb⟩ := hrel
    have HS := Lib.hid hs
    have HB := Lib.hid hb
    have HLL := Lib.hid hll
    clear hs hb hll
    by_cases hlt : k < len
    · have hok : ops[k]? = some (ops[k]'(by rw [← HL.out]; exact hlt)) := List.getElem?_eq_getElem _
      obtain ⟨o, ho⟩ : ∃ o, o = ops[k]'(by rw [← HL.out]; exact hlt) := ⟨_, rfl⟩
      rw [← ho] at hok
      obtain ⟨hn, ab, off, rfl, hbl, d0, d1, d2⟩ := HA.out k o hok
      have HN := Lib.hid hn
      have cells : ∀ W : World, Below w.heap.size w W → (W.cell? ⟨ab, off + k * 3 + 1, none⟩ = some (.int .i64 o.who) ∧ W.cell? ⟨ab, off + k * 3 + 2, none⟩ = some (.int .i64 o.d)) := by
        intro W hW
        have ht : ∀ j, W.cell? ⟨ab, j, none⟩ = w.cell? ⟨ab, j, none⟩ := fun j => hW.cell hbl
        rw [ht, ht]
        exact ⟨d1, d2⟩
      have HC := Lib.hid cells
      clear hok ho hn hbl d0 d1 d2 cells
      obtain ⟨c1, c2⟩ := HC.out _ HB.out
      go_wp2_with fail
      refine wp_region_tail 11 (by kernel_rfl) (by kernel_rfl) ?_
      simp only [List.take_succ_cons, List.take_zero, List.drop_succ_cons, List.drop_zero]
      repeat still_step
      refine wpStill_nil ?_
      go_wp2_with fail
      refine (sign_any b m l o.who o.d _ (HS.out.below (Below.refl _ _).drew) HN.out (by have := HLL.out; omega)).mono ?_
      rintro e w3 ⟨rfl, hs3, ht3⟩
      have HB3 := Lib.hid (wrote_below HB.out.drew ht3 (Nat.le_trans B1.out.size HI.out))
      have HR : Hid (OthRel w b m (k + 1) w3) := ⟨_, by have := HLL.out; have := length_sign l o.who o.d; omega, hs3, HB3.out⟩
      clear hs3 ht3 c1 c2
      go_wp2_with fail
      exact ⟨⟨k + 1, by omega, by simp, HR.out⟩, by simp [intOf]; omega⟩
    · go_wp2_with fail
      refine (signed_any b m l oth d _ HS.out).mono ?_
      rintro e w3 ⟨rfl, hb3⟩
      have HS1 := Lib.hid (HS.out.below hb3)
      have HB1 := Lib.hid (HB.out.trans (hb3.mono HB.out.size))
      clear hb3
      go_wp2_with fail
      refine (sign_any b m l who dig _ HS1.out HW.out (by have := HLL.out; omega)).mono ?_
      rintro e w4 ⟨rfl, hs4, ht4⟩
      have HS2 := Lib.hid hs4
      have HB4 := Lib.hid (wrote_below HB1.out ht4 (Nat.le_trans B1.out.size HI.out))
      clear hs4 ht4
      have HX := Lib.hid (signed_sign l who dig oth d)
      have HY := Lib.hid (signed_sign l who dig who dig)
      go_wp2_with fail
      refine (signed_any b m _ oth d _ HS2.out).mono ?_
      rintro e w5 ⟨rfl, hb5⟩
      have HS3 := Lib.hid (HS2.out.below hb5)
      have HB5 := Lib.hid (HB4.out.trans (hb5.mono HB4.out.size))
      clear hb5
      cases hok : okB who dig with
      | false =>
        rw [hok] at HX HY
        have e1 : signedB (signS l who dig) oth d = signedB l oth d := by rw [HX.out]; simp
        rw [e1]
        have HE : Hid (errOf who false = wrapV ⟨#[115, 101, 97, 108, 115]⟩ who 1) := rfl
        rw [HE.out]
        unfold wrapV
        clear e1 hok HE
        generalize Value.agg #[.string ⟨#[115, 101, 97, 108, 115]⟩, .int .i64 who, .iface 47 (.int .i64 1)] = z
        cases hsx : signedB l oth d with
        | true =>
          clear hsx
          go_wp2_with fail
          go_ret
          exact ⟨rfl, HB5.out⟩
        | false =>
          clear hsx
          go_wp2_with fail
          go_ret
          exact ⟨rfl, HB5.out⟩
      | true =>
        rw [hok] at HX HY
        have HE : Hid (errOf who true = .nilIface) := rfl
        rw [HE.out]
        have e2 : signedB (signS l who dig) who dig = true := by rw [HY.out]; simp
        clear hok HE
        cases hsx : signedB l oth d with
        | true =>
          have e1 : signedB (signS l who dig) oth d = true := by rw [HX.out, hsx]; rfl
          rw [e1]
          clear e1 hsx
          go_wp2_with (go_at_call 16; refine (signed_any b m _ who dig _ HS3.out).mono ?_; rintro e w6 ⟨rfl, hb6⟩; have HB6 := Lib.hid (HB5.out.trans (hb6.mono HB5.out.size)); rw [e2]; clear hb6)
          go_ret
          exact ⟨rfl, HB6.out⟩
        | false =>
          by_cases h1 : who = oth
          · by_cases h2 : dig = d
            · have e1 : signedB (signS l who dig) oth d = true := by rw [HX.out]; simp [h1, h2]
              rw [e1]
              have f1 : (who == oth) = true := by simp [h1]
              have f2 : (dig == d) = true := by simp [h2]
              clear e1 hsx h1 h2
              go_wp2_with (go_at_call 16; refine (signed_any b m _ who dig _ HS3.out).mono ?_; rintro e w6 ⟨rfl, hb6⟩; have HB6 := Lib.hid (HB5.out.trans (hb6.mono HB5.out.size)); rw [e2]; clear hb6)
              go_ret
              exact ⟨rfl, HB6.out⟩
            · have e1 : signedB (signS l who dig) oth d = false := by rw [HX.out, hsx]; simp [h2]
              rw [e1]
              have f1 : (who == oth) = true := by simp [h1]
              have f2 : (dig == d) = false := by simp [h2]
              clear e1 hsx h1 h2
              go_wp2_with (go_at_call 16; refine (signed_any b m _ who dig _ HS3.out).mono ?_; rintro e w6 ⟨rfl, hb6⟩; have HB6 := Lib.hid (HB5.out.trans (hb6.mono HB5.out.size)); rw [e2]; clear hb6)
              go_ret
              exact ⟨rfl, HB6.out⟩
          · have e1 : signedB (signS l who dig) oth d = false := by rw [HX.out, hsx]; simp [h1]
            rw [e1]
            have f1 : (who == oth) = false := by simp [h1]
            clear e1 hsx h1
            go_wp2_with (go_at_call 16; refine (signed_any b m _ who dig _ HS3.out).mono ?_; rintro e w6 ⟨rfl, hb6⟩; have HB6 := Lib.hid (HB5.out.trans (hb6.mono HB5.out.size)); rw [e2]; clear hb6)
            go_ret
            exact ⟨rfl, HB6.out⟩
end Go.Proofs.Ytmkhoiobjgilkaa
