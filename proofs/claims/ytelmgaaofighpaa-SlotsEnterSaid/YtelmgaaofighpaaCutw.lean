/- SlotsCut: the walk. -/
import Derived.Test.YtelmgaaofighpaaPl
import Derived.Test.YtelmgaaofighpaaSame
import Derived.Test.YtelmgaaofighpaaVotes
namespace Go.Proofs.Ytelmgaaofighpaa
open Go.RowKit Go.My Go.My.Slots

theorem openI_cases (low n : Int) : (openI low n = true ∧ low < n ∧ n ≤ low + 16) ∨ (openI low n = false ∧ low < n ∧ low + 16 < n) ∨ (openI low n = false ∧ ¬ low < n) := by
  by_cases h1 : low < n
  · by_cases h2 : n ≤ low + 16
    · exact .inl ⟨by simp [openI, h1]; omega, h1, h2⟩
    · exact .inr (.inl ⟨by simp [openI, h1]; omega, h1, by omega⟩)
  · exact .inr (.inr ⟨by simp [openI]; omega, h1⟩)

/-- a row of old memory stays while the open numbers are written -/
theorem row_ids {w0 w w' : World} {I : Ids} {s : St} {e : TypeId} {c : Nat} {v : Value} {n : Nat} {xs : List Value} (h : w.ownsRow w0.heap.size e c v n xs) (hs : SlotsAt w0 I s) (hw : Wrote I.list w w') : w'.ownsRow w0.heap.size e c v n xs :=
  row_wrote h hw fun g hg hm => by
    have h1 := (row_block h hg).1
    have h2 := hs.ids_lt g hm
    omega

set_option maxRecDepth 100000 in
theorem cut_long (a : Option Addr) (len : Nat) (cap : Nat) (low n : Int) (w : World) (hl : 150 < len) :
    Calls Try.prog 5 #[.slice a len cap, .int .i64 low, .int .i64 n] w fun e w' => e = .returned (.bool true) ∧ Below w.heap.size w w' := by
  go_enter Try.func5, Try.ntmps5
  go_wp2_with (go_at_call 9; refine (head_any _).mono ?_; rintro e w1 ⟨rfl, hb1⟩; have B1 := Lib.hid hb1; clear hb1)
  refine (new_any _).mono ?_
  rintro e w2 ⟨I, rfl, hs, hb, hI⟩
  have B2 := Lib.hid hb
  clear hs hb hI
  go_wp2_with fail
  go_ret
  exact ⟨rfl, B1.out.trans (B2.out.mono B1.out.size)⟩

set_option maxRecDepth 100000 in
set_option maxHeartbeats 6400000 in
theorem cut_law (a : Option Addr) (ops : List Op6) (cap : Nat) (low n : Int) (w : World) (ha : OpsAt w a ops) (hl : ops.length ≤ 150) (hn : n ≤ 9223372036854775807) :
    Calls Try.prog 5 #[.slice a ops.length cap, .int .i64 low, .int .i64 n] w fun e w' => e = .returned (.bool true) ∧ Below w.heap.size w w' := by
  obtain ⟨len, hlen⟩ : ∃ len, len = ops.length := ⟨_, rfl⟩
  rw [← hlen] at hl ⊢
  have HA := Lib.hid ha
  have HL := Lib.hid hlen
  have HNN := Lib.hid hn
  clear ha hlen hn
  go_enter Try.func5, Try.ntmps5
  go_wp2_with (go_at_call 9; refine (head_any _).mono ?_; rintro e w1 ⟨rfl, hb1⟩; have B1 := Lib.hid hb1; clear hb1)
  refine (new_any _).mono ?_
  rintro e w2 ⟨I, rfl, hs, hb, hI⟩
  have H2 := Lib.hid hs
  have B2 := Lib.hid hb
  have HI := Lib.hid hI
  clear hs hb hI
  go_wp2_with fail
  go_loopw [9] (fun i wr => ∃ k : Nat, k ≤ len ∧ i = .int .i64 k ∧ LoopRel w I wr) (fun i _ => len - (intOf i).toNat)
  case atStart => exact ⟨0, by omega, rfl, st0, inv0, H2.out, B1.out.trans (B2.out.mono B1.out.size)⟩
  case round =>
    obtain ⟨k, hk, rfl, s, hi, hs, hb⟩ := hrel
    have HS := Lib.hid hs
    have HV := Lib.hid hi
    have HB := Lib.hid hb
    clear hs hi hb
    by_cases hlt : k < len
    · have hok : ops[k]? = some (ops[k]'(by rw [← HL.out]; exact hlt)) := List.getElem?_eq_getElem _
      obtain ⟨o, ho⟩ : ∃ o, o = ops[k]'(by rw [← HL.out]; exact hlt) := ⟨_, rfl⟩
      rw [← ho] at hok
      obtain ⟨hn, b, off, rfl, hbl, c0, c1, c2, c3, c4, c5⟩ := HA.out k o hok
      have ht : ∀ j, wr.cell? ⟨b, j, none⟩ = w.cell? ⟨b, j, none⟩ := fun j => HB.out.cell hbl
      rw [← ht] at c0 c1 c2 c3 c4 c5
      have HN := Lib.hid hn
      clear ht hok ho hn
      go_wp2_with fail
      refine (does_any I s o.what o.n o.kind o.who o.d o.v _ HS.out HV.out HN.out).mono ?_
      rintro e w3 ⟨rfl, hs3, ht3⟩
      have HR : Hid (LoopRel w I w3) := ⟨_, inv_does HV.out _ _ _ _ _ _, hs3, HB.out.trans (ht3.below (Nat.le_trans HB.out.size (Nat.le_refl _)) (fun j hj => Nat.le_trans B1.out.size (HI.out j hj)))⟩
      clear hs3 ht3
      go_wp2_with fail
      go_roundw
      case rel => exact ⟨k + 1, by omega, by go_num, HR.out⟩
      case measure => simp [intOf]; omega
    · have hl0 : 0 ≤ s.low := HV.out.low0
      have hl1 : s.low ≤ 1099511627776 := HV.out.low1
      have c0 := HS.out.c0
      have HLOW := Lib.hid (low_any I.b s.low wr c0)
      have HPR := Lib.hid (proofs_inv I s wr HS.out HV.out)
      clear c0
      go_wp2_with (go_at_call 17; refine HLOW.out.mono ?_; rintro e w' ⟨rfl, rfl⟩)
      refine HPR.out.mono ?_
      rintro e w4 ⟨v1, rfl, hrow, hb4⟩
      have HS4 := Lib.hid (HS.out.below hb4)
      have HB4 := Lib.hid (HB.out.trans (hb4.mono HB.out.size))
      have HR4 := Lib.hid hrow
      obtain ⟨a1, cap1, rfl, _⟩ := row_form hrow
      clear hrow hb4
      obtain ⟨s', hs'⟩ : ∃ s', s' = cut s low := ⟨_, rfl⟩
      have HCT := Lib.hid (cut_any I s low w4 HS4.out HV.out)
      rw [← hs'] at HCT
      have HI' : Hid (Inv s') := by show Inv s'; rw [hs']; exact inv_cut HV.out low
      obtain ⟨now, hnow⟩ : ∃ now, now = s'.low := ⟨_, rfl⟩
      have HNOW := Lib.hid hnow
      have HMANY : Hid (((proofsL s).filter fun p => decide (now < p.1)).length = (proofsL s').length) := by show _ = _; rw [hnow, hs']; exact cut_many HV.out low
      obtain ⟨m, hm⟩ : ∃ m, m = (proofsL s).length := ⟨_, rfl⟩
      have hm16 : m ≤ 16 := by have := inv_few HV.out; have := proofsL_len s; omega
      rw [← hm] at HR4 ⊢
      have HM := Lib.hid hm
      have hn0 : 0 ≤ now := by rw [hnow]; exact HI'.out.low0
      have hn1 : now ≤ 1099511627776 := by rw [hnow]; exact HI'.out.low1
      have HSS := Lib.hid hs'
      clear hm hnow hs'
      have TAIL : Hid (∀ W, SlotsAt W I s' → Calls Try.prog 17 #[.pointer (some ⟨I.b, 0, none⟩)] W fun e w' => e = .returned (.int .i64 now) ∧ W = w') := fun W hW => by
        have := low_any I.b s'.low W hW.c0
        rwa [← HNOW.out] at this
      have HPR' : Hid (∀ W, SlotsAt W I s' → Calls Try.prog 18 #[.pointer (some ⟨I.b, 0, none⟩)] W (PrfLeft W s')) := fun W hW => proofs_inv I s' W hW HI'.out
      have HOP : Hid (∀ W, SlotsAt W I s' → Calls Try.prog 16 #[.pointer (some ⟨I.b, 0, none⟩), .int .i64 n] W fun e w' => e = .returned (.bool (openI now n)) ∧ W = w') := fun W hW => by
        have := open_any I.b s'.low n W hW.c0 HI'.out.low0 HNN.out
        rwa [← HNOW.out] at this
      by_cases d1 : low < s.low
      · have hc : cutB s low = false := by simp [cutB]; omega
        have hnl : (now != s.low) = false := by
          have h1 := HNOW.out
          have h2 := HSS.out
          unfold cut at h2
          rw [if_neg (by simp [hc])] at h2
          rw [h1, h2]
          simp
        have HEQ : Hid (s' = s) := by
          show _ = _
          rw [HSS.out]
          unfold cut
          rw [if_neg (by simp [hc])]
        rw [hc] at HCT
        clear hc
        go_wp2_with fail
        refine HCT.out.mono ?_
        rintro e w5 ⟨rfl, hs5, ht5⟩
        have HS5a := Lib.hid hs5
        have HR5a := Lib.hid (row_ids HR4.out HS.out ht5)
        have HB5a := Lib.hid (HB4.out.trans (ht5.below HB4.out.size (fun j hj => Nat.le_trans B1.out.size (HI.out j hj))))
        clear hs5 ht5
        go_wp2_with (go_at_call 17; refine (TAIL.out _ HS5a.out).mono ?_; rintro e w' ⟨rfl, rfl⟩)
        refine (HPR'.out _ HS5a.out).mono ?_
        rintro e w6 ⟨v6, rfl, hrow6, hb6⟩
        have HS6 := Lib.hid (HS5a.out.below hb6)
        have HB6 := Lib.hid (HB5a.out.trans (hb6.mono HB5a.out.size))
        have HR6 := Lib.hid (row_below HR5a.out hb6)
        rw [HEQ.out] at hrow6
        have HR6b := Lib.hid hrow6
        have hr6a := HR6.out
        rw [HM.out] at hr6a
        have HSA := Lib.hid (same_any w6 (proofsL s) _ _ _ _ hrow6 hr6a (by rw [← HM.out]; omega))
        rw [← HM.out] at HSA
        clear hr6a hrow6 hb6
        go_wp2_with fail
        refine HSA.out.mono ?_
        rintro e w7 ⟨rfl, hb7⟩
        have HS5 := Lib.hid (HS6.out.below hb7)
        have HB5 := Lib.hid (HB6.out.trans (hb7.mono HB6.out.size))
        have HR5 := Lib.hid (row_below HR6.out hb7)
        clear hb7
        go_wp2_with fail
        refine (HPR'.out _ HS5.out).mono ?_
        rintro e w8 ⟨v2, rfl, hrow8, hb8⟩
        have HS8 := Lib.hid (HS5.out.below hb8)
        have HB8 := Lib.hid (HB5.out.trans (hb8.mono HB5.out.size))
        have HR8 := Lib.hid (row_below HR5.out hb8)
        obtain ⟨a2, cap2, rfl, _⟩ := row_form hrow8
        clear hrow8 hb8
        obtain ⟨m2, hm2⟩ : ∃ m2, m2 = (proofsL s').length := ⟨_, rfl⟩
        rw [← hm2] at HMANY ⊢
        clear hm2
        go_wp2_with fail
        go_loop [16, 17] (fun c i => ∃ q : Nat, q ≤ m ∧ i = .int .i64 q ∧ ∃ c' : Nat, c = .int .i64 c' ∧ c' ≤ q ∧ Hid (c' = (((proofsL s).take q).filter fun p => decide (now < p.1)).length)) (fun _ i => m - (intOf i).toNat)
        case atStart => exact ⟨0, by omega, rfl, 0, rfl, by omega, rfl⟩
        case round =>
          obtain ⟨q, hq, rfl, c, rfl, hcq, HC⟩ := hrel
          by_cases hqm : q < m
          · obtain ⟨p, hp⟩ : ∃ p, (proofsL s)[q]? = some p := ⟨_, List.getElem?_eq_getElem (by rw [← HM.out]; exact hqm)⟩
            obtain ⟨g1, rfl, _, _⟩ := row_pos HR8.out (by omega)
            have e0 : w8.cell? ⟨g1, q * 6, none⟩ = some (.int .i64 p.1) := row_cell HR8.out prepL_len HM.out hp (j := 0) (by omega)
            have HT : Hid ((proofsL s).take (q + 1) = (proofsL s).take q ++ [p]) := by show _ = _; rw [List.take_add_one, hp]; rfl
            have hq0 : (0 : Int) ≤ (q : Int) := by omega
            have hq1 : (q : Int) < (m : Int) := by omega
            obtain ⟨x, hx⟩ : ∃ x, x = p.1 := ⟨_, rfl⟩
            rw [← hx] at e0
            have HX := Lib.hid hx
            clear hx hp
            by_cases hgt : now < x
            · have HC' : Hid (c + 1 = (((proofsL s).take (q + 1)).filter fun p => decide (now < p.1)).length) := by
                show _ = _
                rw [HT.out, List.filter_append, List.length_append, ← HC.out]
                simp [← HX.out, hgt]
              go_wp2_with fail
              exact ⟨⟨q + 1, by omega, by simp, c + 1, by simp, by omega, HC'.out⟩, by simp [intOf]; omega⟩
            · have HC' : Hid (c = (((proofsL s).take (q + 1)).filter fun p => decide (now < p.1)).length) := by
                show _ = _
                rw [HT.out, List.filter_append, List.length_append, ← HC.out]
                simp [← HX.out, hgt]
              go_wp2_with fail
              exact ⟨⟨q + 1, by omega, by simp, c, rfl, by omega, HC'.out⟩, by simp [intOf]; omega⟩
          · obtain rfl : q = m := by omega
            have hc2 : c = m2 := by
              rw [HC.out, List.take_of_length_le (by rw [← HM.out]; exact Nat.le_refl _)]
              exact HMANY.out
            subst hc2
            have hcc : ((c : Int) == (c : Int)) = true := by simp
            have HOP8 := Lib.hid (HOP.out _ HS8.out)
            rcases openI_cases now n with ⟨e1, e2, e3⟩ | ⟨e1, e2, e3⟩ | ⟨e1, e2⟩
            all_goals
              rw [e1] at HOP8
              clear e1
              go_wp2_with (go_at_call 16; refine HOP8.out.mono ?_; rintro e w' ⟨rfl, rfl⟩)
              go_ret
              refine ⟨?_, HB8.out⟩
              first | rfl | (simp; omega)
      · by_cases d2 : low ≤ 1099511627776
        · have hc : cutB s low = true := by simp [cutB]; omega
          have hnl : (now != low) = false := by
            have h1 := HNOW.out
            have h2 := HSS.out
            unfold cut at h2
            rw [if_pos hc] at h2
            rw [h1, h2]
            simp [cutTo]
          rw [hc] at HCT
          clear hc
          go_wp2_with fail
          refine HCT.out.mono ?_
          rintro e w5 ⟨rfl, hs5, ht5⟩
          have HS5 := Lib.hid hs5
          have HR5 := Lib.hid (row_ids HR4.out HS.out ht5)
          have HB5 := Lib.hid (HB4.out.trans (ht5.below HB4.out.size (fun j hj => Nat.le_trans B1.out.size (HI.out j hj))))
          clear hs5 ht5
          go_wp2_with (go_at_call 17; refine (TAIL.out _ HS5.out).mono ?_; rintro e w' ⟨rfl, rfl⟩)
          refine (HPR'.out _ HS5.out).mono ?_
          rintro e w8 ⟨v2, rfl, hrow8, hb8⟩
          have HS8 := Lib.hid (HS5.out.below hb8)
          have HB8 := Lib.hid (HB5.out.trans (hb8.mono HB5.out.size))
          have HR8 := Lib.hid (row_below HR5.out hb8)
          obtain ⟨a2, cap2, rfl, _⟩ := row_form hrow8
          clear hrow8 hb8
          obtain ⟨m2, hm2⟩ : ∃ m2, m2 = (proofsL s').length := ⟨_, rfl⟩
          rw [← hm2] at HMANY ⊢
          clear hm2
          go_wp2_with fail
          go_loop [16, 17] (fun c i => ∃ q : Nat, q ≤ m ∧ i = .int .i64 q ∧ ∃ c' : Nat, c = .int .i64 c' ∧ c' ≤ q ∧ Hid (c' = (((proofsL s).take q).filter fun p => decide (now < p.1)).length)) (fun _ i => m - (intOf i).toNat)
          case atStart => exact ⟨0, by omega, rfl, 0, rfl, by omega, rfl⟩
          case round =>
            obtain ⟨q, hq, rfl, c, rfl, hcq, HC⟩ := hrel
            by_cases hqm : q < m
            · obtain ⟨p, hp⟩ : ∃ p, (proofsL s)[q]? = some p := ⟨_, List.getElem?_eq_getElem (by rw [← HM.out]; exact hqm)⟩
              obtain ⟨g1, rfl, _, _⟩ := row_pos HR8.out (by omega)
              have e0 : w8.cell? ⟨g1, q * 6, none⟩ = some (.int .i64 p.1) := row_cell HR8.out prepL_len HM.out hp (j := 0) (by omega)
              have HT : Hid ((proofsL s).take (q + 1) = (proofsL s).take q ++ [p]) := by show _ = _; rw [List.take_add_one, hp]; rfl
              have hq0 : (0 : Int) ≤ (q : Int) := by omega
              have hq1 : (q : Int) < (m : Int) := by omega
              obtain ⟨x, hx⟩ : ∃ x, x = p.1 := ⟨_, rfl⟩
              rw [← hx] at e0
              have HX := Lib.hid hx
              clear hx hp
              by_cases hgt : now < x
              · have HC' : Hid (c + 1 = (((proofsL s).take (q + 1)).filter fun p => decide (now < p.1)).length) := by
                  show _ = _
                  rw [HT.out, List.filter_append, List.length_append, ← HC.out]
                  simp [← HX.out, hgt]
                go_wp2_with fail
                exact ⟨⟨q + 1, by omega, by simp, c + 1, by simp, by omega, HC'.out⟩, by simp [intOf]; omega⟩
              · have HC' : Hid (c = (((proofsL s).take (q + 1)).filter fun p => decide (now < p.1)).length) := by
                  show _ = _
                  rw [HT.out, List.filter_append, List.length_append, ← HC.out]
                  simp [← HX.out, hgt]
                go_wp2_with fail
                exact ⟨⟨q + 1, by omega, by simp, c, rfl, by omega, HC'.out⟩, by simp [intOf]; omega⟩
            · obtain rfl : q = m := by omega
              have hc2 : c = m2 := by
                rw [HC.out, List.take_of_length_le (by rw [← HM.out]; exact Nat.le_refl _)]
                exact HMANY.out
              subst hc2
              have hcc : ((c : Int) == (c : Int)) = true := by simp
              have HOP8 := Lib.hid (HOP.out _ HS8.out)
              rcases openI_cases now n with ⟨e1, e2, e3⟩ | ⟨e1, e2, e3⟩ | ⟨e1, e2⟩
              all_goals
                rw [e1] at HOP8
                clear e1
                go_wp2_with (go_at_call 16; refine HOP8.out.mono ?_; rintro e w' ⟨rfl, rfl⟩)
                go_ret
                refine ⟨?_, HB8.out⟩
                first | rfl | (simp; omega)
        · have hc : cutB s low = false := by simp [cutB]; omega
          have hnl : (now != s.low) = false := by
            have h1 := HNOW.out
            have h2 := HSS.out
            unfold cut at h2
            rw [if_neg (by simp [hc])] at h2
            rw [h1, h2]
            simp
          have HEQ : Hid (s' = s) := by
            show _ = _
            rw [HSS.out]
            unfold cut
            rw [if_neg (by simp [hc])]
          rw [hc] at HCT
          clear hc
          go_wp2_with fail
          refine HCT.out.mono ?_
          rintro e w5 ⟨rfl, hs5, ht5⟩
          have HS5a := Lib.hid hs5
          have HR5a := Lib.hid (row_ids HR4.out HS.out ht5)
          have HB5a := Lib.hid (HB4.out.trans (ht5.below HB4.out.size (fun j hj => Nat.le_trans B1.out.size (HI.out j hj))))
          clear hs5 ht5
          go_wp2_with (go_at_call 17; refine (TAIL.out _ HS5a.out).mono ?_; rintro e w' ⟨rfl, rfl⟩)
          refine (HPR'.out _ HS5a.out).mono ?_
          rintro e w6 ⟨v6, rfl, hrow6, hb6⟩
          have HS6 := Lib.hid (HS5a.out.below hb6)
          have HB6 := Lib.hid (HB5a.out.trans (hb6.mono HB5a.out.size))
          have HR6 := Lib.hid (row_below HR5a.out hb6)
          rw [HEQ.out] at hrow6
          have HR6b := Lib.hid hrow6
          have hr6a := HR6.out
          rw [HM.out] at hr6a
          have HSA := Lib.hid (same_any w6 (proofsL s) _ _ _ _ hrow6 hr6a (by rw [← HM.out]; omega))
          rw [← HM.out] at HSA
          clear hr6a hrow6 hb6
          go_wp2_with fail
          refine HSA.out.mono ?_
          rintro e w7 ⟨rfl, hb7⟩
          have HS5 := Lib.hid (HS6.out.below hb7)
          have HB5 := Lib.hid (HB6.out.trans (hb7.mono HB6.out.size))
          have HR5 := Lib.hid (row_below HR6.out hb7)
          clear hb7
          go_wp2_with fail
          refine (HPR'.out _ HS5.out).mono ?_
          rintro e w8 ⟨v2, rfl, hrow8, hb8⟩
          have HS8 := Lib.hid (HS5.out.below hb8)
          have HB8 := Lib.hid (HB5.out.trans (hb8.mono HB5.out.size))
          have HR8 := Lib.hid (row_below HR5.out hb8)
          obtain ⟨a2, cap2, rfl, _⟩ := row_form hrow8
          clear hrow8 hb8
          obtain ⟨m2, hm2⟩ : ∃ m2, m2 = (proofsL s').length := ⟨_, rfl⟩
          rw [← hm2] at HMANY ⊢
          clear hm2
          go_wp2_with fail
          go_loop [16, 17] (fun c i => ∃ q : Nat, q ≤ m ∧ i = .int .i64 q ∧ ∃ c' : Nat, c = .int .i64 c' ∧ c' ≤ q ∧ Hid (c' = (((proofsL s).take q).filter fun p => decide (now < p.1)).length)) (fun _ i => m - (intOf i).toNat)
          case atStart => exact ⟨0, by omega, rfl, 0, rfl, by omega, rfl⟩
          case round =>
            obtain ⟨q, hq, rfl, c, rfl, hcq, HC⟩ := hrel
            by_cases hqm : q < m
            · obtain ⟨p, hp⟩ : ∃ p, (proofsL s)[q]? = some p := ⟨_, List.getElem?_eq_getElem (by rw [← HM.out]; exact hqm)⟩
              obtain ⟨g1, rfl, _, _⟩ := row_pos HR8.out (by omega)
              have e0 : w8.cell? ⟨g1, q * 6, none⟩ = some (.int .i64 p.1) := row_cell HR8.out prepL_len HM.out hp (j := 0) (by omega)
              have HT : Hid ((proofsL s).take (q + 1) = (proofsL s).take q ++ [p]) := by show _ = _; rw [List.take_add_one, hp]; rfl
              have hq0 : (0 : Int) ≤ (q : Int) := by omega
              have hq1 : (q : Int) < (m : Int) := by omega
              obtain ⟨x, hx⟩ : ∃ x, x = p.1 := ⟨_, rfl⟩
              rw [← hx] at e0
              have HX := Lib.hid hx
              clear hx hp
              by_cases hgt : now < x
              · have HC' : Hid (c + 1 = (((proofsL s).take (q + 1)).filter fun p => decide (now < p.1)).length) := by
                  show _ = _
                  rw [HT.out, List.filter_append, List.length_append, ← HC.out]
                  simp [← HX.out, hgt]
                go_wp2_with fail
                exact ⟨⟨q + 1, by omega, by simp, c + 1, by simp, by omega, HC'.out⟩, by simp [intOf]; omega⟩
              · have HC' : Hid (c = (((proofsL s).take (q + 1)).filter fun p => decide (now < p.1)).length) := by
                  show _ = _
                  rw [HT.out, List.filter_append, List.length_append, ← HC.out]
                  simp [← HX.out, hgt]
                go_wp2_with fail
                exact ⟨⟨q + 1, by omega, by simp, c, rfl, by omega, HC'.out⟩, by simp [intOf]; omega⟩
            · obtain rfl : q = m := by omega
              have hc2 : c = m2 := by
                rw [HC.out, List.take_of_length_le (by rw [← HM.out]; exact Nat.le_refl _)]
                exact HMANY.out
              subst hc2
              have hcc : ((c : Int) == (c : Int)) = true := by simp
              have HOP8 := Lib.hid (HOP.out _ HS8.out)
              rcases openI_cases now n with ⟨e1, e2, e3⟩ | ⟨e1, e2, e3⟩ | ⟨e1, e2⟩
              all_goals
                rw [e1] at HOP8
                clear e1
                go_wp2_with (go_at_call 16; refine HOP8.out.mono ?_; rintro e w' ⟨rfl, rfl⟩)
                go_ret
                refine ⟨?_, HB8.out⟩
                first | rfl | (simp; omega)
end Go.Proofs.Ytelmgaaofighpaa
