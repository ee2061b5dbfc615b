/- SlotsClosed: the walk. -/
import Derived.Test.YtelmgaaofighpaaEmpty
import Derived.IntWalk
namespace Go.Proofs.Ytelmgaaofighpaa
open Go.RowKit Go.My Go.My.Slots

set_option maxRecDepth 100000 in
theorem closed_long (a : Option Addr) (len : Nat) (cap : Nat) (w : World) (hl : 150 < len) :
    Calls Try.prog 7 #[.slice a len cap] w fun e w' => e = .returned (.bool true) ∧ Below w.heap.size w w' := by
  go_enter Try.func7, Try.ntmps7
  go_wp2_with (go_at_call 9; refine (head_any _).mono ?_; rintro e w1 ⟨rfl, hb1⟩; have B1 := Lib.hid hb1; clear hb1)
  refine (new_any _).mono ?_
  rintro e w2 ⟨I, rfl, hs, hb, hI⟩
  have B2 := Lib.hid hb
  clear hs hb hI
  go_wp2_with fail
  go_ret
  exact ⟨rfl, B1.out.trans (B2.out.mono B1.out.size)⟩

set_option maxRecDepth 100000 in
set_option maxHeartbeats 6400000 in
theorem closed_law (a : Option Addr) (ops : List Op6) (cap : Nat) (w : World) (ha : OpsAt w a ops) (hl : ops.length ≤ 150) :
    Calls Try.prog 7 #[.slice a ops.length cap] w fun e w' => e = .returned (.bool true) ∧ Below w.heap.size w w' := by
  obtain ⟨len, hlen⟩ : ∃ len, len = ops.length := ⟨_, rfl⟩
  rw [← hlen] at hl ⊢
  have HA := Lib.hid ha
  have HL := Lib.hid hlen
  clear ha hlen
  go_enter Try.func7, Try.ntmps7
  go_wp2_with (go_at_call 9; refine (head_any _).mono ?_; rintro e w1 ⟨rfl, hb1⟩; have B1 := Lib.hid hb1; clear hb1)
  refine (new_any _).mono ?_
  rintro e w2 ⟨I, rfl, hs, hb, hI⟩
  have H2 := Lib.hid hs
  have B2 := Lib.hid hb
  have HI := Lib.hid hI
  clear hs hb hI
  go_wp2_with fail
  go_loopw [5] (fun i wr => ∃ k : Nat, k ≤ len ∧ i = .int .i64 k ∧ LoopRel w I wr) (fun i _ => len - (intOf i).toNat)
  case atStart => exact ⟨0, by omega, rfl, st0, inv0, H2.out, B1.out.trans (B2.out.mono B1.out.size)⟩
  case round =>
    obtain ⟨k, hk, rfl, s0, hi, hs, hb⟩ := hrel
    have HS := Lib.hid hs
    have HV := Lib.hid hi
    have HB := Lib.hid hb
    clear hs hi hb
    by_cases hlt : k < len
    · have hok : ops[k]? = some (ops[k]'(by rw [← HL.out]; exact hlt)) := List.getElem?_eq_getElem _
      obtain ⟨o, ho⟩ : ∃ o, o = ops[k]'(by rw [← HL.out]; exact hlt) := ⟨_, rfl⟩
      rw [← ho] at hok
      obtain ⟨hn, b, off, rfl, hbl, c0, c1, c2, c3, c4, c5⟩ := HA.out k o hok
      have ht : ∀ j, wr.cell? ⟨b, j, none⟩ = w.cell? ⟨b, j, none⟩ := fun j => HB.out.cell hbl
      rw [← ht] at c0 c1 c2 c3 c4 c5
      have HN := Lib.hid hn
      clear ht hok ho hn
      go_wp2_with fail
      refine (does_any I s0 o.what o.n o.kind o.who o.d o.v _ HS.out HV.out HN.out).mono ?_
      rintro e w3 ⟨rfl, hs3, ht3⟩
      obtain ⟨s, hs⟩ : ∃ s, s = doesS s0 (msk o.what) o.n o.kind o.who o.d o.v := ⟨_, rfl⟩
      rw [← hs] at hs3
      have HV3 : Hid (Inv s) := by show Inv s; rw [hs]; exact inv_does HV.out _ _ _ _ _ _
      have HS3 := Lib.hid hs3
      have HB3 := Lib.hid (HB.out.trans (ht3.below (Nat.le_trans HB.out.size (Nat.le_refl _)) (fun j hj => Nat.le_trans B1.out.size (HI.out j hj))))
      clear hs3 ht3 hs c0 c1 c2 c3 c4 c5 HN
      go_wp2_with fail
      refine (proofs_inv I s w3 HS3.out HV3.out).mono ?_
      rintro e w4 ⟨v1, rfl, hrow, hb4⟩
      have HS4 := Lib.hid (HS3.out.below hb4)
      have HB4 := Lib.hid (HB3.out.trans (hb4.mono HB3.out.size))
      have HR4 := Lib.hid hrow
      obtain ⟨a1, cap1, rfl, _⟩ := row_form hrow
      clear hrow hb4
      obtain ⟨m, hm⟩ : ∃ m, m = (proofsL s).length := ⟨_, rfl⟩
      have hm16 : m ≤ 16 := by have := inv_few HV3.out; have := proofsL_len s; omega
      rw [← hm] at HR4 ⊢
      have HM := Lib.hid hm
      clear hm
      go_wp2_with fail
      go_loopw [7] (fun i wx => ∃ q : Nat, q ≤ m ∧ i = .int .i64 q ∧ Hid (Below w4.heap.size w4 wx)) (fun i _ => m - (intOf i).toNat)
      case atStart => exact ⟨0, by omega, rfl, Below.refl _ _⟩
      case round =>
        obtain ⟨q, hq, rfl, HW⟩ := hrel
        by_cases hqm : q < m
        · obtain ⟨p, hp⟩ : ∃ p, (proofsL s)[q]? = some p := ⟨_, List.getElem?_eq_getElem (by rw [← HM.out]; exact hqm)⟩
          have hr := row_below HR4.out HW.out
          obtain ⟨g1, rfl, _, _⟩ := row_pos hr (by omega)
          have e0 : wr.cell? ⟨g1, q * 6, none⟩ = some (.int .i64 p.1) := row_cell hr prepL_len HM.out hp (j := 0) (by omega)
          have hop := proofs_open HV3.out hp
          have hpn : p.1 ≤ 9223372036854775807 := by have := HV3.out.low1; rw [openB_iff] at hop; omega
          have HOP : Hid (∀ n', Calls Try.prog 16 #[.pointer (some ⟨I.b, 0, none⟩), .int .i64 p.1] (wr.drewN n') fun e w' => e = .returned (.bool true) ∧ w' = wr.drewN n') := fun n' => by
            have h1 := HS4.out.below (HW.out.trans ⟨rfl, rfl, rfl, by simp, fun _ _ => rfl⟩) (w' := wr.drewN n')
            have := (open_any I.b s.low p.1 (wr.drewN n') h1.c0 HV3.out.low0 hpn).mono fun _ _ h => (⟨h.1, h.2.symm⟩ : _ ∧ _)
            rwa [← openB_eq, hop] at this
          have hq0 : (0 : Int) ≤ (q : Int) := by omega
          have hq1 : (q : Int) < (m : Int) := by omega
          have HEND : Hid (∀ n', Below w4.heap.size w4 (wr.drewN n')) := fun n' => HW.out.trans ⟨rfl, rfl, rfl, by simp, fun _ _ => rfl⟩
          by_cases hqz : q = 0
          · subst hqz
            clear hop hr hp
            simp only [Nat.zero_mul] at e0
            go_wp2_with fail
            go_quiet ((go_at_call 16; exact Calls.quiet_of_same (HOP.out _)))
            go_wp2_with fail
            exact ⟨⟨1, by omega, by simp, HEND.out nq⟩, by simp [intOf]; omega⟩
          · obtain ⟨q', hq'⟩ : ∃ q', q = q' + 1 := ⟨q - 1, by omega⟩
            obtain ⟨p', hp'⟩ : ∃ p', (proofsL s)[q']? = some p' := ⟨_, List.getElem?_eq_getElem (by rw [← HM.out]; omega)⟩
            have e1 : wr.cell? ⟨g1, q' * 6, none⟩ = some (.int .i64 p'.1) := row_cell hr prepL_len HM.out hp' (j := 0) (by omega)
            have hup := proofs_up HV3.out hp' (by rw [← hq']; exact hp)
            have hqn : 0 < q := by omega
            have hwrap : IntKind.i64.wrap ((q : Int) - 1) = (q' : Int) := by rw [IntWalk.i64_in _ (by omega)]; omega
            have hq'0 : (0 : Int) ≤ (q' : Int) := by omega
            have hq'1 : (q' : Int) < (m : Int) := by omega
            clear hop hr hp hp' hq' hqz
            go_wp2_with fail
            go_quiet ((go_at_call 16; exact Calls.quiet_of_same (HOP.out _)))
            go_wp2_with fail
            exact ⟨⟨q + 1, by omega, by simp, HEND.out nq⟩, by simp [intOf]; omega⟩
        · clear HR4
          go_wp2_with fail
          go_loopw [8] (fun i wx => ∃ j : Nat, j ≤ k + 1 ∧ i = .int .i64 j ∧ Hid (Below w4.heap.size w4 wx)) (fun i _ => k + 1 - (intOf i).toNat)
          case atStart => exact ⟨0, by omega, rfl, HW⟩
          case round =>
            clear HW
            obtain ⟨j, hj, rfl, HW⟩ := hrel
            by_cases hjk : j ≤ k
            · obtain ⟨oj, hoj⟩ : ∃ oj, ops[j]? = some oj := ⟨_, List.getElem?_eq_getElem (by rw [← HL.out]; omega)⟩
              obtain ⟨hn, b', off', hb', _, _, d1, d2, _, d4, _⟩ := HA.out j oj hoj
              cases hb'
              have HBx := Lib.hid (HB4.out.trans (HW.out.mono HB4.out.size))
              have ht : ∀ i, wr.cell? ⟨b, i, none⟩ = w.cell? ⟨b, i, none⟩ := fun i => HBx.out.cell hbl
              rw [← ht] at d1 d2 d4
              have HSx := Lib.hid (HS4.out.below HW.out)
              have HACC := Lib.hid (accepted_any I s oj.n wr HSx.out)
              have HDEC := Lib.hid (decided_any I s oj.n wr HSx.out)
              have HOP : Hid (∀ n', Calls Try.prog 16 #[.pointer (some ⟨I.b, 0, none⟩), .int .i64 oj.n] (wr.drewN n') fun e w' => e = .returned (.bool (openB s oj.n)) ∧ w' = wr.drewN n') := fun n' =>
                (open_any I.b s.low oj.n (wr.drewN n') (HSx.out.below ⟨rfl, rfl, rfl, by simp, fun _ _ => rfl⟩).c0 HV3.out.low0 hn).mono fun _ _ h => (⟨h.1, h.2.symm⟩ : _ ∧ _)
              have HEND : Hid (∀ n', Below w4.heap.size w4 (wr.drewN n')) := fun n' => HW.out.trans ⟨rfl, rfl, rfl, by simp, fun _ _ => rfl⟩
              have hj0 : (0 : Int) ≤ (j : Int) := by omega
              have hj1 : (j : Int) < (len : Int) := by omega
              clear ht hoj hn
              cases ho : openB s oj.n with
              | true =>
                rw [ho] at HOP
                clear ho
                obtain ⟨x1, hx1⟩ : ∃ x, x = (aget s.acc oj.n).isSome := ⟨_, rfl⟩
                obtain ⟨x2, hx2⟩ : ∃ x, x = (aget s.dec oj.n).isSome := ⟨_, rfl⟩
                rw [← hx1] at HACC
                rw [← hx2] at HDEC
                clear hx1 hx2
                go_wp2_with (first | (go_at_call 13; refine HACC.out.mono ?_; rintro e w' ⟨rfl, rfl⟩) | (go_at_call 14; refine HDEC.out.mono ?_; rintro e w' ⟨rfl, rfl⟩))
                go_quiet ((go_at_call 16; exact Calls.quiet_of_same (HOP.out _)))
                go_wp2_with fail
                exact ⟨⟨j + 1, by omega, by simp, HEND.out nq⟩, by simp [intOf]; omega⟩
              | false =>
                rw [ho] at HOP
                have e1 := acc_none HV3.out ho
                have e2 := dec_none HV3.out ho
                rw [e1] at HACC
                rw [e2] at HDEC
                simp only [Option.isSome_none, Option.getD_none] at HACC HDEC
                have HWH : Hid (∀ n', Calls Try.prog 12 #[.pointer (some ⟨I.b, 0, none⟩), .int .i64 oj.kind, .int .i64 oj.n, .int .i64 oj.d] (wr.drewN n') fun e w' => e = .returned (.slice none 0 0) ∧ w' = wr.drewN n') := fun n' =>
                  (who_empty I s oj.kind oj.n oj.d (wr.drewN n') (HSx.out.below ⟨rfl, rfl, rfl, by simp, fun _ _ => rfl⟩) (fun x => votes_none HV3.out ho oj.kind x)).mono fun _ _ h => (⟨h.1, h.2.symm⟩ : _ ∧ _)
                clear ho e1 e2
                go_wp2_with (first | (go_at_call 13; refine HACC.out.mono ?_; rintro e w' ⟨rfl, rfl⟩) | (go_at_call 14; refine HDEC.out.mono ?_; rintro e w' ⟨rfl, rfl⟩))
                go_quiet ((first | (go_at_call 16; exact Calls.quiet_of_same (HOP.out _)) | (go_at_call 12; exact Calls.quiet_of_same (HWH.out _))))
                go_wp2_with fail
                exact ⟨⟨j + 1, by omega, by simp, HEND.out nq⟩, by simp [intOf]; omega⟩
            · have HR : Hid (LoopRel w I wr) := ⟨s, HV3.out, HS4.out.below HW.out, HB4.out.trans (HW.out.mono HB4.out.size)⟩
              have hjk' : (k : Int) < (j : Int) := by omega
              go_wp2_with fail
              exact ⟨⟨k + 1, by omega, by simp, HR.out⟩, by simp [intOf]; omega⟩
    · go_wp2_with fail
      go_ret
      exact ⟨rfl, HB.out⟩
end Go.Proofs.Ytelmgaaofighpaa
