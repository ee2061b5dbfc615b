/- Locks: LocksKeys. -/
import Derived.Test.YtfojgghnkjmjhaaLkSt
import Derived.Test.YtfojgghnkjmjhaaGenl
import Derived.IntWalk
namespace Go.Proofs.Ytfojgghnkjmjhaa.Locks
open Go.RowKit Go.My

theorem contains_snoc (m : List Int) (a b : Int) : (m ++ [a]).contains b = (m.contains b || (a == b)) := by
  rw [Bool.eq_iff_iff]
  simp only [List.contains_iff_mem, List.mem_append, List.mem_singleton, Bool.or_eq_true, beq_iff_eq]
  constructor
  · rintro (h | h)
    · exact .inl h
    · exact .inr h.symm
  · rintro (h | h)
    · exact .inl h
    · exact .inr h.symm
theorem take_snoc_op {l : List LOp} {q : Nat} {y : LOp} (hy : l[q]? = some y) : (l.take (q + 1)).map (·.who) = (l.take q).map (·.who) ++ [y.who] := by rw [List.take_add_one, hy]; simp
theorem rise_at {l : List ByteArray} (h : l.Pairwise fun a b => lessK a b = true) {p q : Nat} {x y : ByteArray} (hp : l[p]? = some x) (hq : l[q]? = some y) (hpq : p < q) : lessK x y = true := by
  obtain ⟨h1, rfl⟩ := List.getElem?_eq_some_iff.1 hp
  obtain ⟨h2, rfl⟩ := List.getElem?_eq_some_iff.1 hq
  exact List.pairwise_iff_getElem.1 h p q h1 h2 hpq
theorem any_self {L : LMap} {k : ByteArray} {c : Int} (h : aget L k = some c) : anyK L k ByteArray.empty = true := by
  unfold anyK
  rw [List.any_eq_true]
  refine ⟨(k, c), aget_some_mem h, ?_⟩
  unfold inR
  rw [lessK_irr]
  rfl
set_option maxRecDepth 100000 in
set_option maxHeartbeats 12800000 in
theorem keys_4 (a : Option Addr) (cap : Nat) (l : List LOp) (w : World) (ho : OpsAt w a l) (hm : l.length ≤ maxLen) :
    Calls Try.prog 4 #[.slice a l.length cap] w fun e w' => e = .returned (.bool true) ∧ Below w.heap.size w w' := by
  have HH := Lib.hid (head_any w)
  have HO := Lib.hid ho
  have HGR : Hid (∀ W, Below w.heap.size w W → Calls Try.prog 8 #[.slice a l.length cap] W (GreatLeft W l)) := fun W hW => great_any a l cap W w ho hW hm
  obtain ⟨n, hn⟩ : ∃ n, n = l.length := ⟨_, rfl⟩
  have HN := Lib.hid hn
  rw [← hn] at HGR hm ⊢
  unfold maxLen at hm
  clear ho hn
  go_enter Try.func4, Try.ntmps4
  go_wp2_with fail
  refine HH.out.mono ?_
  rintro e w1 ⟨rfl, hb⟩
  have HB1 := Lib.hid hb
  clear hb
  go_wp2_with fail
  refine (new_any _).mono ?_
  intro e w2 he
  obtain ⟨b, m, rfl, hst⟩ := st_new HB1.out he
  have HST := Lib.hid hst
  clear he hst
  go_wp2_with fail
  refine (HGR.out _ HST.out.below).mono ?_
  rintro e w2' ⟨gr, rfl, hgr, rfl⟩
  cases gr with
  | true =>
    clear hgr
    go_wp2_with fail
    go_ret
    exact ⟨rfl, HST.out.below⟩
  | false =>
    obtain ⟨hl, hsz⟩ := hgr rfl
    have HSZ := Lib.hid hsz
    rw [← HN.out] at hl
    clear hgr hsz
    have P1 : Hid (∃ L, LkSt w b m L w2 ∧ ∀ p ∈ L, p.2 ∈ (l.take 0).map (·.who)) := ⟨_, HST.out, fun p hp => by cases hp⟩
    clear HST
    go_wp2_with fail
    go_loopw [5] (fun i wr => ∃ j : Nat, j ≤ n ∧ i = .int .i64 j ∧ Hid (∃ L, LkSt w b m L wr ∧ ∀ p ∈ L, p.2 ∈ (l.take j).map (·.who))) (fun i _ => n - (intOf i).toNat)
    case atStart => exact ⟨0, by omega, rfl, P1⟩
    case round =>
      clear P1
      obtain ⟨j, hj, rfl, L, hst, hwh⟩ := hrel
      have HST := Lib.hid hst
      have HWH := Lib.hid hwh
      clear hst hwh
      by_cases hlt : j < n
      · obtain ⟨x, hx⟩ : ∃ x, l[j]? = some x := ⟨_, List.getElem?_eq_getElem (by rw [← HN.out]; exact hlt)⟩
        obtain ⟨g, o, xa, xcap, rfl, hc, hxs, _⟩ := HO.out.get hx
        have HXS := Lib.hid hxs
        have HXL : Hid (x.keys.length ≤ 10000) := by have := HSZ.out x (List.mem_of_getElem? hx); show _ ≤ _; omega
        obtain ⟨d0, d1, d2⟩ := hc _ HST.out.below
        have HD := Lib.hid (HST.out.drewN 1)
        have HS0 := HST
        have hj0 : (0 : Int) ≤ (j : Int) := by omega
        have hj1 : (j : Int) < (n : Int) := by omega
        have HTK : Hid ((l.take (j + 1)).map (·.who) = (l.take j).map (·.who) ++ [x.who]) := by show _ = _; rw [List.take_add_one, hx]; simp
        clear hx hc hxs
        obtain ⟨tb, htb⟩ : ∃ tb, (bits BinOp.and IntKind.i64 x.what 1 == 0) = tb := ⟨_, rfl⟩
        cases tb with
        | true =>
          go_wp2_with fail
          refine wp_region_tail 11 (by kernel_rfl) (by kernel_rfl) ?_
          simp only [List.take_succ_cons, List.take_zero, List.drop_succ_cons, List.drop_zero]
          repeat still_step
          refine wpStill_nil ?_
          go_wp2_with fail
          refine (st_lock HD.out x.who xa xcap x.keys HXS.out HXL.out).mono ?_
          rintro e w3 ⟨rfl, hst⟩
          have HNX : Hid (∃ L, LkSt w b m L w3 ∧ ∀ p ∈ L, p.2 ∈ (l.take (j + 1)).map (·.who)) := ⟨_, hst, fun p hp => by
            rw [HTK.out, List.mem_append, List.mem_singleton]
            rcases lock_mem hp with h | h
            · exact .inl (HWH.out p h)
            · exact .inr h⟩
          clear hst d0 d1 d2 htb
          go_wp2_with fail
          exact ⟨⟨j + 1, by omega, by simp, HNX⟩, by simp [intOf]; omega⟩
        | false =>
          go_wp2_with fail
          refine (st_unlock HS0.out x.who).mono ?_
          rintro e w3 ⟨rfl, hst⟩
          have HNX : Hid (∃ L, LkSt w b m L w3 ∧ ∀ p ∈ L, p.2 ∈ (l.take (j + 1)).map (·.who)) := ⟨_, hst, fun p hp => by
            rw [HTK.out, List.mem_append]
            exact .inl (HWH.out p (unlock_mem hp))⟩
          clear hst d0 d1 d2 htb
          go_wp2_with fail
          exact ⟨⟨j + 1, by omega, by simp, HNX⟩, by simp [intOf]; omega⟩
      · obtain rfl : n = j := by omega
        have HALL : Hid (∀ p ∈ L, p.2 ∈ l.map (·.who)) := fun p hp => by
          have := HWH.out p hp
          rwa [List.take_of_length_le (by have := HN.out; omega)] at this
        have P2 : Hid (LkSt w b m L wr) := HST.out
        have HFN := Lib.hid HST.out.fine
        have HC0 : Hid (∀ whos, countK L whos ≤ 128) := fun whos => Nat.le_trans (List.length_filter_le _ _) HFN.out.small
        clear HST HWH
        go_wp2_with fail
        go_loopw [6, 7] (fun c i wr => ∃ j : Nat, j ≤ n ∧ i = .int .i64 j ∧ (∃ cn : Nat, c = .int .i64 cn ∧ Hid (cn = countK L ((l.take j).map (·.who)))) ∧ Hid (LkSt w b m L wr)) (fun _ i _ => n - (intOf i).toNat)
        case atStart => exact ⟨0, by omega, rfl, ⟨0, rfl, by show _ = _; rw [List.take_zero, List.map_nil, countK_nil]⟩, P2⟩
        case round =>
          clear P2
          obtain ⟨j, hj, rfl, ⟨cn, rfl, HCN⟩, HST⟩ := hrel
          have hcn : (cn : Int) ≤ 128 := by have := HC0.out ((l.take j).map (·.who)); have := HCN.out; omega
          by_cases hlt : j < n
          · obtain ⟨x, hx⟩ : ∃ x, l[j]? = some x := ⟨_, List.getElem?_eq_getElem (by rw [← HN.out]; exact hlt)⟩
            have HX := Lib.hid hx
            have P3 : Hid (LkSt w b m L wr) := HST.out
            clear hx HST
            go_wp2_with fail
            obtain ⟨wo, rfl⟩ : ∃ wo : World, wo = wr := ⟨_, rfl⟩
            go_loopw [8, 9] (fun v i wr => ∃ q : Nat, q ≤ j ∧ i = .int .i64 q ∧ (∃ ag : Bool, v = .bool ag ∧ Hid (ag = ((l.take q).map (·.who)).contains x.who)) ∧ Hid (LkSt w b m L wr)) (fun _ i _ => j - (intOf i).toNat)
            case atStart => exact ⟨0, by omega, rfl, ⟨false, rfl, rfl⟩, P3⟩
            case round =>
              clear P3
              obtain ⟨q, hq, rfl, ⟨ag, rfl, HAG⟩, HST⟩ := hrel
              by_cases hlq : q < j
              · obtain ⟨y, hy⟩ : ∃ y, l[q]? = some y := ⟨_, List.getElem?_eq_getElem (by rw [← HN.out]; omega)⟩
                have HTK : Hid (((l.take (q + 1)).map (·.who)).contains x.who = (((l.take q).map (·.who)).contains x.who || (y.who == x.who))) := by
                  show _ = _
                  rw [take_snoc_op hy, contains_snoc]
                obtain ⟨g, o, xa, xcap, rfl, hc, _, _⟩ := HO.out.get HX.out
                obtain ⟨g2, o2, ya, ycap, e2, hc2, _, _⟩ := HO.out.get hy
                cases e2
                obtain ⟨_, d1, _⟩ := hc _ HST.out.below
                obtain ⟨_, f1, _⟩ := hc2 _ HST.out.below
                have HD : Hid (∀ z, LkSt w b m L (wr.drewN z)) := fun z => HST.out.drewN z
                have hj0 : (0 : Int) ≤ (j : Int) := by omega
                have hj1 : (j : Int) < (n : Int) := by omega
                have hq0 : (0 : Int) ≤ (q : Int) := by omega
                have hq1 : (q : Int) < (n : Int) := by omega
                clear hy hc hc2 HST
                cases ag with
                | true =>
                  have HNX : Hid (true = ((l.take (q + 1)).map (·.who)).contains x.who) := by show _ = _; rw [HTK.out, ← HAG.out]; rfl
                  go_wp2_with fail
                  go_quiet (fail)
                  go_wp2_with fail
                  exact ⟨⟨q + 1, by omega, by simp, ⟨true, rfl, HNX⟩, HD.out _⟩, by simp [intOf]; omega⟩
                | false =>
                  obtain ⟨ey, hey⟩ : ∃ z : Bool, (y.who == x.who) = z := ⟨_, rfl⟩
                  have HNX : Hid (ey = ((l.take (q + 1)).map (·.who)).contains x.who) := by show _ = _; rw [HTK.out, ← HAG.out, hey]; rfl
                  go_wp2_with fail
                  go_quiet (fail)
                  go_wp2_with fail
                  exact ⟨⟨q + 1, by omega, by simp, ⟨ey, rfl, HNX⟩, HD.out _⟩, by simp [intOf]; omega⟩
              · obtain rfl : j = q := by omega
                obtain ⟨g, o, xa, xcap, rfl, hc, _, _⟩ := HO.out.get HX.out
                obtain ⟨_, d1, _⟩ := hc _ HST.out.below
                have HC := Lib.hid hc
                have hj0 : (0 : Int) ≤ (j : Int) := by omega
                have hj1 : (j : Int) < (n : Int) := by omega
                have HK := Lib.hid (st_keys HST.out x.who)
                have HKL := Lib.hid (keysOf_le HST.out x.who)
                have HKM : Hid (∀ k ∈ keysOf L x.who, aget L k = some x.who) := fun k hk => (mem_keysOf HFN.out.nodup).1 hk
                have HKR := Lib.hid (keysOf_lt HFN.out.nodup x.who)
                have HCT : Hid (countK L ((l.take (j + 1)).map (·.who)) = if ag then countK L ((l.take j).map (·.who)) else countK L ((l.take j).map (·.who)) + (keysOf L x.who).length) := by
                  show _ = _
                  rw [take_snoc_op HX.out]
                  cases hag : ag with
                  | true =>
                    have h1 := HAG.out
                    rw [hag] at h1
                    rw [countK_again (List.contains_iff_mem.1 h1.symm)]
                    rfl
                  | false =>
                    have h1 := HAG.out
                    rw [hag] at h1
                    rw [countK_new (fun hm => by rw [List.contains_iff_mem.2 hm] at h1; cases h1)]
                    rfl
                obtain ⟨ow, how⟩ : ∃ z, z = keysOf L x.who := ⟨_, rfl⟩
                obtain ⟨on, hon⟩ : ∃ z, z = ow.length := ⟨_, rfl⟩
                have HON := Lib.hid hon
                rw [← how] at HK HKL HKM HKR HCT
                rw [← hon] at HK HKL HCT
                have honi : (on : Int) ≤ 128 := by have := HKL.out; omega
                clear hc how hon HST
                go_wp2_with fail
                refine HK.out.mono ?_
                rintro e w5 ⟨ao, co, rfl, ⟨hro, _⟩, hst, _⟩
                have P4 : Hid (LkSt w b m L w5 ∧ StrsAt w5 ao ow) := ⟨hst, hro⟩
                clear hro hst HK d1
                go_wp2_with fail
                go_loopw [11] (fun i wr => ∃ q : Nat, q ≤ on ∧ i = .int .i64 q ∧ Hid (LkSt w b m L wr ∧ StrsAt wr ao ow)) (fun i _ => on - (intOf i).toNat)
                case atStart => exact ⟨0, by omega, rfl, P4⟩
                case round =>
                  clear P4
                  obtain ⟨q, hq, rfl, HST⟩ := hrel
                  by_cases hlq : q < on
                  · obtain ⟨k, hk⟩ : ∃ k, ow[q]? = some k := ⟨_, List.getElem?_eq_getElem (by rw [← HON.out]; exact hlq)⟩
                    obtain ⟨g3, o3, rfl, hg3, e0⟩ := StrsAt.cell HST.out.2 hk
                    have HHK := Lib.hid (HKM.out k (List.mem_of_getElem? hk))
                    have HHO := Lib.hid (holder_any b m L k wr HST.out.1.at_)
                    have hho : heldI L k = x.who ∧ heldB L k = true := by unfold heldI heldB; rw [HHK.out]; exact ⟨rfl, rfl⟩
                    rw [hho.1, hho.2] at HHO
                    have HAN : Hid (∀ W, LkSt w b m L W → Calls Try.prog 15 #[.pointer (some ⟨b, 0, none⟩), .string k, .string ⟨#[]⟩] W fun e w' => e = .returned (.bool true) ∧ Below W.heap.size W w') := fun W hW => by
                      have := any_any b m L k ByteArray.empty W hW.at_
                      rwa [any_self HHK.out] at this
                    have HKQ := Lib.hid hk
                    have hq0 : (0 : Int) ≤ (q : Int) := by omega
                    have hq1 : (q : Int) < (on : Int) := by omega
                    obtain ⟨_, d1, _⟩ := HC.out _ HST.out.1.below
                    have hww : (x.who != x.who) = false := by simp
                    have HD := Lib.hid (HST.out.1.drewN 1)
                    have HDR : Hid (StrsAt (wr.drewN 1) (some ⟨g3, o3, none⟩) ow) := HST.out.2
                    clear hk hg3 hho
                    rcases Nat.eq_zero_or_pos q with hq2 | hq2
                    · have hq3 : decide (0 < q) = false := by simp; omega
                      clear hq2
                      go_wp2_with fail
                      refine HHO.out.mono ?_
                      rintro e w5' ⟨rfl, rfl⟩
                      go_wp2_with fail
                      refine wp_region_tail 33 (by kernel_rfl) (by kernel_rfl) ?_
                      simp only [List.take_succ_cons, List.take_zero, List.drop_succ_cons, List.drop_zero]
                      iterate 33 (with_reducible refine wpStill_step (fun K hK => ?_); go_simp; refine hK _ ?_; clear hK K)
                      refine wpStill_nil ?_
                      go_wp2_with fail
                      refine (HAN.out _ HD.out).mono ?_
                      rintro e w6 ⟨rfl, hb⟩
                      have HNX : Hid (LkSt w b m L w6 ∧ StrsAt w6 (some ⟨g3, o3, none⟩) ow) := ⟨HD.out.keep hb, LiesAt.below HDR.out hb⟩
                      clear hb
                      go_wp2_with fail
                      exact ⟨⟨q + 1, by omega, by simp, HNX⟩, by simp [intOf]; omega⟩
                    · obtain ⟨p, hp⟩ : ∃ p, p + 1 = q := ⟨q - 1, by omega⟩
                      have HP := Lib.hid hp
                      obtain ⟨y, hy⟩ : ∃ y, ow[p]? = some y := ⟨_, List.getElem?_eq_getElem (by have := HON.out; omega)⟩
                      obtain ⟨g4, o4, e4, _, e1⟩ := StrsAt.cell HST.out.2 hy
                      cases e4
                      have hlt1 : Op.bytesLess y.toList k.toList = true := rise_at HKR.out hy HKQ.out (by omega)
                      have hwp : IntKind.i64.wrap ((q : Int) - 1) = (p : Int) := by rw [IntWalk.i64_in _ (by omega)]; omega
                      have hp0 : (0 : Int) ≤ (p : Int) := by omega
                      have hp1 : (p : Int) < (on : Int) := by omega
                      have hq3 : decide (0 < q) = true := by simp; omega
                      clear hp hy hq2
                      go_wp2_with fail
                      refine HHO.out.mono ?_
                      rintro e w5' ⟨rfl, rfl⟩
                      go_wp2_with fail
                      refine wp_region_tail 33 (by kernel_rfl) (by kernel_rfl) ?_
                      simp only [List.take_succ_cons, List.take_zero, List.drop_succ_cons, List.drop_zero]
                      iterate 33 (with_reducible refine wpStill_step (fun K hK => ?_); go_simp; refine hK _ ?_; clear hK K)
                      refine wpStill_nil ?_
                      go_wp2_with fail
                      refine (HAN.out _ HD.out).mono ?_
                      rintro e w6 ⟨rfl, hb⟩
                      have HNX : Hid (LkSt w b m L w6 ∧ StrsAt w6 (some ⟨g3, o3, none⟩) ow) := ⟨HD.out.keep hb, LiesAt.below HDR.out hb⟩
                      clear hb
                      go_wp2_with fail
                      exact ⟨⟨q + 1, by omega, by simp, HNX⟩, by simp [intOf]; omega⟩
                  · obtain rfl : on = q := by omega
                    have HB := Lib.hid HST.out.1
                    clear HST
                    cases ag with
                    | true =>
                      have HNX : Hid (cn = countK L ((l.take (j + 1)).map (·.who))) := by show _ = _; rw [HCT.out, HCN.out]; rfl
                      go_wp2_with fail
                      exact ⟨⟨j + 1, by omega, by simp, ⟨cn, rfl, HNX⟩, HB⟩, by simp [intOf]; omega⟩
                    | false =>
                      have HNX : Hid (cn + on = countK L ((l.take (j + 1)).map (·.who))) := by show _ = _; rw [HCT.out, HCN.out]; rfl
                      go_wp2_with fail
                      exact ⟨⟨j + 1, by omega, by simp, ⟨cn + on, by simp, HNX⟩, HB⟩, by simp [intOf]; omega⟩
          · obtain rfl : n = j := by omega
            have HE : Hid (cn = L.length) := by
              show _ = _
              rw [HCN.out, List.take_of_length_le (by have := HN.out; omega), countK_all HALL.out]
            have HMY := Lib.hid (many_any b m L wr HST.out.at_)
            rw [← HE.out] at HMY
            have HB := Lib.hid HST.out.below
            clear HST
            go_wp2_with fail
            refine HMY.out.mono ?_
            rintro e w9 ⟨rfl, rfl⟩
            go_wp2_with fail
            go_ret
            exact ⟨rfl, HB.out⟩
end Go.Proofs.Ytfojgghnkjmjhaa.Locks
