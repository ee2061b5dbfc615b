/- Merkle: has a proof the parts that one must have? -/
import Derived.Test.YtlepjjcnlcnnfaaDoorMkRoot
namespace Go.Proofs.YtlepjjcnlcnnfaaDoor.Merkle
open Go.RowKit Go.My

structure Prf where
  many : Int
  first : Int
  L : List Ent
  B : List Int
structure Shaped (p : Prf) (n f : Nat) : Prop where
  many : p.many = n
  first : p.first = f
  small : n ≤ 1024
  right : rightB p.L = true
  fits : f + p.L.length ≤ n
  pos : ∀ z ∈ p.B, 0 ≤ z
  len : p.B.length = parts 0 n f (f + p.L.length)
def prfO (p : Prf) (a1 : Option Addr) (c1 : Nat) (a2 : Option Addr) (c2 : Nat) : List Value := [.int .i64 p.many, .int .i64 p.first, .slice a1 p.L.length c1, .slice a2 p.B.length c2]
/-- a proof in memory: where no digest writes to -/
structure PrfAt (w : World) (bB : Nat) (p : Prf) (a1 a2 : Option Addr) : Prop where
  ents : EntsAt w bB a1 p.L
  nums : LiesAt w a2 1 nums p.B
  safe : ∀ g o, a2 = some ⟨g, o, none⟩ → p.B ≠ [] → Safe bB w g
  wide : Wide p.L
  small : p.L.length ≤ 6000
  few : p.B.length ≤ 6000
  i64 : ∀ z ∈ p.B, z ≤ 9223372036854775807
theorem PrfAt.keep {w w' : World} {bB : Nat} {p : Prf} {a1 a2 : Option Addr} (h : PrfAt w bB p a1 a2) (f : Fx bB w w') : PrfAt w' bB p a1 a2 := by
  refine ⟨h.ents.keep f, fun i x hi => ?_, fun g o e hne => (h.safe g o e hne).keep f, h.wide, h.small, h.few, h.i64⟩
  obtain ⟨g, o, rfl, hg, hc⟩ := h.nums i x hi
  have hs := h.safe g o rfl (fun e => by rw [e] at hi; simp at hi)
  refine ⟨g, o, rfl, Nat.lt_of_lt_of_le hg f.size, fun j v hv => ?_⟩
  rw [World.cell?_of_block (a := ⟨g, o + i * 1 + j, none⟩) (hs.fx f)]
  exact hc j v hv
def ShapedLeft (w : World) (p : Prf) (e : Ending) (w' : World) : Prop := ∃ r : Bool, e = .returned (.bool r) ∧ (r = true → ∃ n f, Shaped p n f) ∧ (r = false → ¬ ∃ n f, Shaped p n f) ∧ Below w.heap.size w w'
theorem shaped_no {w w' : World} {p : Prf} (h : ¬ ∃ n f, Shaped p n f) (hb : Below w.heap.size w w') : ShapedLeft w p (.returned (.bool false)) w' := ⟨false, rfl, (fun e => by cases e), fun _ => h, hb⟩
set_option maxRecDepth 100000 in
set_option maxHeartbeats 6400000 in
theorem shaped_any (bB : Nat) (p : Prf) (a1 : Option Addr) (c1 : Nat) (a2 : Option Addr) (c2 : Nat) (w : World) (h : PrfAt w bB p a1 a2) (hB : bB ≤ w.heap.size) :
    Calls Tryd.prog 24 #[.agg #[.int .i64 p.many, .int .i64 p.first, .slice a1 p.L.length c1, .slice a2 p.B.length c2]] w (ShapedLeft w p) := by
  obtain ⟨W, hW⟩ : ∃ W : World, W = w.alloc (.cells #[.int .i64 p.many, .int .i64 p.first, .slice a1 p.L.length c1, .slice a2 p.B.length c2] 25) := ⟨_, rfl⟩
  obtain ⟨pb, hpb⟩ : ∃ k, k = w.heap.size := ⟨_, rfl⟩
  have hbx : W.heap[pb]? = some (.cells #[.int .i64 p.many, .int .i64 p.first, .slice a1 p.L.length c1, .slice a2 p.B.length c2] 25 (0, 0)) := by rw [hW, hpb]; exact heap_alloc_new w _
  have hbw : Below w.heap.size w W := by rw [hW]; exact (Below.refl _ _).alloc (Nat.le_refl _) _
  have HBW := Lib.hid hbw
  have H := Lib.hid (h.keep (Fx.of_below hbw hB))
  have HR := Lib.hid (right_any a1 c1 p.L W H.out.ents.lies (by have := H.out.small; omega) fun x hx => (H.out.wide x hx).1)
  unfold RightLeft at HR
  obtain ⟨pm, pf, L, B⟩ := p
  obtain ⟨ln, hln⟩ : ∃ k, k = L.length := ⟨_, rfl⟩
  obtain ⟨bn, hbn⟩ : ∃ k, k = B.length := ⟨_, rfl⟩
  have HLN := Lib.hid hln
  have HBN := Lib.hid hbn
  simp only at hW hbx HR H ⊢
  rw [← hln] at HR hbx hW ⊢
  rw [← hbn] at hbx hW ⊢
  have hl9 : (ln : Int) ≤ 6000 := by have := H.out.small; simp only at this; omega
  have hb9 : (bn : Int) ≤ 6000 := by have := H.out.few; simp only at this; omega
  have HC : Hid (∀ X, Below W.heap.size W X → X.cell? ⟨pb, 0, none⟩ = some (.int .i64 pm) ∧ X.cell? ⟨pb, 1, none⟩ = some (.int .i64 pf) ∧ X.cell? ⟨pb, 2, none⟩ = some (.slice a1 ln c1) ∧ X.cell? ⟨pb, 3, none⟩ = some (.slice a2 bn c2)) := fun X hX => by
    have hx := (hX.block _ (lt_of_heap hbx)).trans hbx
    exact ⟨by rw [cell_of_row _ _ _ _ _ _ hx]; rfl, by rw [cell_of_row _ _ _ _ _ _ hx]; rfl, by rw [cell_of_row _ _ _ _ _ _ hx]; rfl, by rw [cell_of_row _ _ _ _ _ _ hx]; rfl⟩
  have HW : Hid (w.alloc (.cells #[.int .i64 pm, .int .i64 pf, .slice a1 ln c1, .slice a2 bn c2] 25) = W ∧ w.heap.size = pb) := ⟨hW.symm, hpb.symm⟩
  obtain ⟨d0, d1, d2, d3⟩ := HC.out W (Below.refl _ _)
  clear h hB hW hpb hbx hbw hln hbn
  by_cases k1 : pm < 0
  · have HNO : Hid (¬ ∃ n f, Shaped ⟨pm, pf, L, B⟩ n f) := fun ⟨n, f, q⟩ => by have := q.many; simp only at this; omega
    go_enter Tryd.func24, Tryd.ntmps24
    go_upto_region 1 with fail
    rw [HW.out.1, HW.out.2]
    go_wp2_with fail
    go_ret
    exact shaped_no HNO.out HBW.out
  · by_cases k2 : 1024 < pm
    · have HNO : Hid (¬ ∃ n f, Shaped ⟨pm, pf, L, B⟩ n f) := fun ⟨n, f, q⟩ => by have := q.many; have := q.small; simp only at *; omega
      go_enter Tryd.func24, Tryd.ntmps24
      go_upto_region 1 with fail
      rw [HW.out.1, HW.out.2]
      go_wp2_with fail
      go_ret
      exact shaped_no HNO.out HBW.out
    · cases hr : rightB L with
      | false =>
        have HNO : Hid (¬ ∃ n f, Shaped ⟨pm, pf, L, B⟩ n f) := fun ⟨n, f, q⟩ => by have := q.right; simp only at this; rw [hr] at this; cases this
        rw [hr] at HR
        clear hr
        go_enter Tryd.func24, Tryd.ntmps24
        go_upto_region 1 with fail
        rw [HW.out.1, HW.out.2]
        go_wp2_with fail
        refine HR.out.mono ?_
        rintro e w1 ⟨rfl, hb⟩
        have HB1 := Lib.hid (HBW.out.trans (hb.mono HBW.out.size))
        clear hb
        go_wp2_with fail
        go_ret
        exact shaped_no HNO.out HB1.out
      | true =>
        rw [hr] at HR
        have HRT := Lib.hid hr
        clear hr
        by_cases k3 : pf < 0
        · have HNO : Hid (¬ ∃ n f, Shaped ⟨pm, pf, L, B⟩ n f) := fun ⟨n, f, q⟩ => by have := q.first; simp only at this; omega
          go_enter Tryd.func24, Tryd.ntmps24
          go_upto_region 1 with fail
          rw [HW.out.1, HW.out.2]
          go_wp2_with fail
          refine HR.out.mono ?_
          rintro e w1 ⟨rfl, hb⟩
          have HB1 := Lib.hid (HBW.out.trans (hb.mono HBW.out.size))
          obtain ⟨d0, d1, d2, d3⟩ := HC.out w1 hb
          clear hb
          go_wp2_with fail
          go_ret
          exact shaped_no HNO.out HB1.out
        · by_cases k4 : pm < pf
          · have HNO : Hid (¬ ∃ n f, Shaped ⟨pm, pf, L, B⟩ n f) := fun ⟨n, f, q⟩ => by have := q.first; have := q.many; have := q.fits; simp only at *; omega
            go_enter Tryd.func24, Tryd.ntmps24
            go_upto_region 1 with fail
            rw [HW.out.1, HW.out.2]
            go_wp2_with fail
            refine HR.out.mono ?_
            rintro e w1 ⟨rfl, hb⟩
            have HB1 := Lib.hid (HBW.out.trans (hb.mono HBW.out.size))
            obtain ⟨d0, d1, d2, d3⟩ := HC.out w1 hb
            clear hb
            go_wp2_with fail
            go_ret
            exact shaped_no HNO.out HB1.out
          · by_cases k5 : pm - pf < (ln : Int)
            · have HNO : Hid (¬ ∃ n f, Shaped ⟨pm, pf, L, B⟩ n f) := fun ⟨n, f, q⟩ => by have := q.first; have := q.many; have := q.fits; have := HLN.out; simp only at *; omega
              go_enter Tryd.func24, Tryd.ntmps24
              go_upto_region 1 with fail
              rw [HW.out.1, HW.out.2]
              go_wp2_with fail
              refine HR.out.mono ?_
              rintro e w1 ⟨rfl, hb⟩
              have HB1 := Lib.hid (HBW.out.trans (hb.mono HBW.out.size))
              obtain ⟨d0, d1, d2, d3⟩ := HC.out w1 hb
              clear hb
              go_wp2_with fail
              go_ret
              exact shaped_no HNO.out HB1.out
            · obtain ⟨n, rfl⟩ : ∃ n : Nat, pm = n := ⟨pm.toNat, by omega⟩
              obtain ⟨f, rfl⟩ : ∃ f : Nat, pf = f := ⟨pf.toNat, by omega⟩
              have t1 : decide ((f : Int) < 0) = false := by simp
              have t2 : decide (n < f) = false := by simp; omega
              have t3 : decide ((n : Int) - (f : Int) < (ln : Int)) = false := by simpa using k5
              have HFIT : Hid (n ≤ 1024 ∧ f + ln ≤ n) := ⟨by omega, by omega⟩
              obtain ⟨q, hq⟩ : ∃ q, q = parts 0 n f (f + ln) := ⟨_, rfl⟩
              have HP : Hid (∀ W : World, Calls Tryd.prog 39 #[.int .i64 0, .int .i64 (n : Int), .int .i64 (f : Int), .int .i64 ((f : Int) + (ln : Int))] W fun e w' => e = .returned (.int .i64 (q : Int)) ∧ W = w') := fun W => by
                have hp := parts_any n 0 f (f + ln) W (by have := HFIT.out; omega) (by have := HFIT.out; omega) (by have := HFIT.out; omega) (fun h0 => apart_iff.2 (.inl (by have := HFIT.out; omega)))
                rw [← hq, show ((f + ln : Nat) : Int) = (f : Int) + (ln : Int) by omega, show ((0 : Nat) : Int) = 0 from rfl] at hp
                exact hp
              have HQ := Lib.hid hq
              have hq9 : (q : Int) ≤ 2000 := by
                rw [hq]
                rcases Nat.lt_or_ge 0 n with h0 | h0
                · have := parts_le n 0 f (f + ln) h0; have := HFIT.out; omega
                · have e : n = 0 := by omega
                  rw [parts_apart (apart_iff.2 (.inl (by have := HFIT.out; omega)))]
                  decide
              have HYES : Hid ((∀ (i : Nat) (z : Int), B[i]? = some z → 0 ≤ z) → bn = q → ∃ n' f', Shaped ⟨(n : Nat), (f : Nat), L, B⟩ n' f') := fun hz hb => ⟨n, f, rfl, rfl, HFIT.out.1, HRT.out, by rw [← HLN.out]; exact HFIT.out.2, fun z hm => by obtain ⟨i, hi⟩ := List.getElem?_of_mem hm; exact hz i z hi, by rw [← HBN.out, ← HLN.out, hb, hq]⟩
              have HNL : Hid (bn ≠ q → ¬ ∃ n' f', Shaped ⟨(n : Nat), (f : Nat), L, B⟩ n' f') := fun hne ⟨n', f', s⟩ => by
                have e1 := s.many
                have e2 := s.first
                have e3 := s.len
                simp only at e1 e2 e3
                have e1 : n = n' := by omega
                have e2 : f = f' := by omega
                subst e1
                subst e2
                rw [← HBN.out, ← HLN.out, ← hq] at e3
                exact hne e3
              have HNZ : Hid (∀ (i : Nat) (z : Int), B[i]? = some z → z < 0 → ¬ ∃ n' f', Shaped ⟨(n : Nat), (f : Nat), L, B⟩ n' f') := fun i z hi hz ⟨n', f', s⟩ => by have := s.pos z (List.mem_of_getElem? hi); omega
              have i1 : (n : Int) ≤ 1024 := by omega
              have i2 : (f : Int) ≤ (n : Int) := by omega
              have i3 : ¬ (1024 : Int) < (n : Int) := by omega
              clear k1 k2 k3 k4 k5 hq
              go_enter Tryd.func24, Tryd.ntmps24
              go_upto_region 1 with fail
              rw [HW.out.1, HW.out.2]
              go_wp2_with fail
              refine HR.out.mono ?_
              rintro e w1 ⟨rfl, hb⟩
              have HB1 := Lib.hid (HBW.out.trans (hb.mono HBW.out.size))
              have HBR := Lib.hid hb
              obtain ⟨d0, d1, d2, d3⟩ := HC.out w1 hb
              clear hb
              go_wp2_with fail
              go_loop [45] (fun i => ∃ j : Nat, j ≤ bn ∧ i = .int .i64 j ∧ Hid (∀ (i : Nat) (z : Int), i < j → B[i]? = some z → 0 ≤ z)) (fun i => bn - (intOf i).toNat)
              case atStart => exact ⟨0, by omega, rfl, fun i z hi => by omega⟩
              case round =>
                obtain ⟨j, hj, rfl, HJ⟩ := hrel
                by_cases hlt : j < bn
                · obtain ⟨z, hz⟩ : ∃ z, B[j]? = some z := ⟨_, List.getElem?_eq_getElem (by rw [← HBN.out]; exact hlt)⟩
                  obtain ⟨g, o, rfl, lg, e0⟩ := (H.out.nums.below HBR.out).at1 hz
                  have hj0 : (0 : Int) ≤ (j : Int) := by omega
                  have hj1 : (j : Int) < (bn : Int) := by omega
                  by_cases hneg : z < 0
                  · have HNO := Lib.hid (HNZ.out j z hz hneg)
                    clear hz lg
                    go_wp2_with fail
                    go_ret
                    exact shaped_no HNO.out HB1.out
                  · have HNX : Hid (∀ (i : Nat) (z : Int), i < j + 1 → B[i]? = some z → 0 ≤ z) := fun i y hi hy => by
                      rcases Nat.lt_or_ge i j with h | h
                      · exact HJ.out i y h hy
                      · have e : i = j := by omega
                        subst e
                        rw [hz] at hy
                        cases hy
                        omega
                    clear hz lg
                    go_wp2_with fail
                    exact ⟨⟨j + 1, by omega, by simp, HNX⟩, by simp [intOf]; omega⟩
                · obtain rfl : bn = j := by omega
                  have HALL : Hid (∀ (i : Nat) (z : Int), B[i]? = some z → 0 ≤ z) := fun i z hi => HJ.out i z (by rw [HBN.out]; exact (List.getElem?_eq_some_iff.1 hi).1) hi
                  have HD1 : Hid (∀ q, Below w.heap.size w (w1.drewN q)) := fun q => ⟨HB1.out.os, HB1.out.tape, HB1.out.output, HB1.out.size, HB1.out.block⟩
                  by_cases hbq : bn = q
                  · have HS := Lib.hid (HYES.out HALL.out hbq)
                    subst hbq
                    have tq : (bn == bn) = true := by simp
                    go_wp2_with fail
                    go_quiet ((go_at_call 39; exact Calls.quiet_of_same ((HP.out _).mono fun _ _ h => ⟨h.1, h.2.symm⟩)))
                    go_wp2_with fail
                    go_ret
                    exact ⟨true, rfl, fun _ => HS.out, (fun e => by cases e), HD1.out _⟩
                  · have HS := Lib.hid (HNL.out hbq)
                    have tq : ((bn : Int) == (q : Int)) = false := by simp; omega
                    go_wp2_with fail
                    go_quiet ((go_at_call 39; exact Calls.quiet_of_same ((HP.out _).mono fun _ _ h => ⟨h.1, h.2.symm⟩)))
                    go_wp2_with fail
                    go_ret
                    exact shaped_no HS.out (HD1.out _)
end Go.Proofs.YtlepjjcnlcnnfaaDoor.Merkle
