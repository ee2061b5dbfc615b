/- The model: the keys. -/
import Derived.Test.YtacdnpacpndekaaAsks
namespace Go.Proofs.Ytacdnpacpndekaa
open Go.RowKit Go.My Go.My.Model Go.Deep
set_option maxRecDepth 100000 in
set_option maxHeartbeats 3200000 in
theorem keys_any (a : Option Addr) (n cap : Nat) (T : List Tx) (key : ByteArray) (w : World) (ha : Asks w a n cap T) :
    Calls Try.prog 7 #[.slice a n cap, .string key] w fun e w' => e = .returned (.bool true) ∧ Below w.heap.size w w' := by
  have HA := Lib.hid ha
  clear ha
  go_enter Try.func7, Try.ntmps7
  go_wp2_with fail
  refine (HA.out.head w).mono ?_
  rintro e w1 ⟨rfl, hb1⟩
  have HB1 := Lib.hid hb1
  clear hb1
  go_wp2_with fail
  refine (HA.out.great w1 HB1.out).mono ?_
  rintro e w2 ⟨g, rfl, hg, hb2⟩
  have HB2 : Hid (Below w.heap.size w w2) := HB1.out.trans (hb2.mono HB1.out.size)
  cases g with
  | true =>
    clear hg hb2
    go_wp2_with fail
    go_ret
    exact ⟨rfl, HB2.out⟩
  | false =>
    have HS : Hid (Small T) := hg rfl
    have hn40 : (n : Int) ≤ 40 := by have h1 := HA.out.len; have h2 := HS.out.1; omega
    have hn41 : n ≤ 40 := by omega
    clear hg hb2
    go_wp2_with fail
    go_loopw [6, 7, 8] (fun c v i wr => ∃ j : Nat, j ≤ n ∧ c = .int .i64 (countK (flat T j) key) ∧ v = .string (lastV (flat T j) key) ∧ i = .int .i64 j ∧ wr = w2) (fun _ _ i _ => n - (intOf i).toNat)
    case atStart => exact ⟨0, by omega, rfl, rfl, rfl, rfl⟩
    case round =>
      obtain ⟨j, hj, rfl, rfl, rfl, rfl⟩ := hrel
      by_cases hlt : j < n
      · obtain ⟨t, ht⟩ : ∃ t, T[j]? = some t := ⟨_, List.getElem?_eq_getElem (by rw [← HA.out.len]; exact hlt)⟩
        obtain ⟨g, o, wa, wc, rfl, hgw, htx⟩ := HA.out.tx j t ht
        have HTX := Lib.hid htx
        have HFS : Hid (flat T (j + 1) = flat T j ++ t.writes) := flat_succ ht
        have c3 := (htx wr HB2.out).1
        have hg2 : g < wr.heap.size := Nat.lt_of_lt_of_le hgw HB2.out.size
        have hfew : (flat T j ++ t.writes).length ≤ 1600 := by rw [← HFS.out]; exact small_flat HS.out _
        have HCL : Hid (∀ m, countK (flat T j ++ t.writes.take m) key ≤ 1600) := fun m => by
          refine Nat.le_trans (countK_le _ _) ?_
          rw [List.length_append] at hfew ⊢
          have := List.length_take_le m t.writes
          have := List.length_take_le' m t.writes
          omega
        obtain ⟨k, hk⟩ : ∃ k, k = t.writes.length := ⟨_, rfl⟩
        rw [← hk] at c3
        have HK := Lib.hid hk
        have hk1 : (k : Int) ≤ 1600 := by rw [List.length_append] at hfew; omega
        have hj0 : (0 : Int) ≤ (j : Int) := by omega
        have hj1 : (j : Int) < (n : Int) := by omega
        have HS0 : Hid (flat T j = flat T j ++ t.writes.take 0) := by show _ = _; simp
        rw [HS0.out]
        clear htx hfew hk ht
        go_wp2_with fail
        go_loopw [6, 7, 9] (fun c v i W => ∃ m : Nat, m ≤ k ∧ c = .int .i64 (countK (flat T j ++ t.writes.take m) key) ∧ v = .string (lastV (flat T j ++ t.writes.take m) key) ∧ i = .int .i64 m ∧ W = wr) (fun _ _ i _ => k - (intOf i).toNat)
        case atStart => exact ⟨0, by omega, rfl, rfl, rfl, rfl⟩
        case round =>
          obtain ⟨m, hm, rfl, rfl, rfl, rfl⟩ := hrel
          by_cases hlm : m < k
          · obtain ⟨x, hx⟩ : ∃ x, t.writes[m]? = some x := ⟨_, List.getElem?_eq_getElem (by rw [← HK.out]; exact hlm)⟩
            obtain ⟨g', o', rfl, hg', hxx⟩ := (HTX.out _ HB2.out).2 m x hx
            obtain ⟨d0, d1⟩ := hxx _ HB2.out
            have hT : flat T j ++ t.writes.take (m + 1) = (flat T j ++ t.writes.take m) ++ [x] := by rw [List.take_add_one, hx]; simp
            have hc1 := countK_snoc (flat T j ++ t.writes.take m) x key
            have hv1 := lastV_snoc (flat T j ++ t.writes.take m) x key
            rw [← hT] at hc1 hv1
            have hcl := HCL.out m
            generalize countK (flat T j ++ t.writes.take m) key = c at hc1 hcl
            generalize lastV (flat T j ++ t.writes.take m) key = v at hv1
            have hc0 : (c : Int) ≤ 1600 := by omega
            have hm0 : (0 : Int) ≤ (m : Int) := by omega
            have hm1 : (m : Int) < (k : Int) := by omega
            by_cases hk : x.1 = key
            · rw [if_pos hk] at hc1 hv1
              have hs : (x.1.toList == key.toList) = true := by rw [str_eq]; simpa using hk
              have HC1 := Lib.hid hc1
              have HV1 := Lib.hid hv1
              clear hc1 hv1 hx hxx hT
              go_wp2_with fail
              exact ⟨⟨m + 1, by omega, by rw [HC1.out]; simp, by rw [HV1.out], by simp, trivial⟩, by simp [intOf]; omega⟩
            · rw [if_neg hk] at hc1 hv1
              have hs : (x.1.toList == key.toList) = false := by rw [str_eq]; simpa using hk
              have HC1 := Lib.hid hc1
              have HV1 := Lib.hid hv1
              clear hc1 hv1 hx hxx hT
              go_wp2_with fail
              exact ⟨⟨m + 1, by omega, by rw [HC1.out]; simp, by rw [HV1.out], by simp, trivial⟩, by simp [intOf]; omega⟩
          · obtain rfl : m = k := by omega
            have HT : Hid (flat T j ++ t.writes.take m = flat T (j + 1)) := by show _ = _; rw [HFS.out, HK.out, List.take_of_length_le (Nat.le_refl _)]
            rw [HT.out]
            go_wp2_with fail
            exact ⟨⟨j + 1, by omega, by simp, rfl, by simp, trivial⟩, by simp [intOf]; omega⟩
      · obtain rfl : j = n := by omega
        go_wp2_with fail
        refine (HA.out.run _ HB2.out HS.out).mono ?_
        rintro e w3 hrun
        obtain ⟨ra, rc, rfl, hl3⟩ := left_open hrun
        have HL := Lib.hid hl3
        have HB3 : Hid (Below w.heap.size w w3) := HB2.out.trans (hl3.below.mono HB2.out.size)
        clear hrun hl3
        obtain ⟨ws, hws⟩ : ∃ ws, ws = flat T j := ⟨_, rfl⟩
        have hfw : ws.length ≤ 1600 := by rw [hws]; exact small_flat HS.out _
        have hrl := run_few ws
        rw [← hws] at HL ⊢
        obtain ⟨L, hL⟩ : ∃ L, L = runL (stateOf ws) := ⟨_, rfl⟩
        rw [← hL] at HL hrl ⊢
        obtain ⟨k, hk⟩ : ∃ k, k = L.length := ⟨_, rfl⟩
        rw [← hk] at hrl ⊢
        have HK := Lib.hid hk
        have hk0 : (k : Int) ≤ 1600 := by omega
        have hc0 : countK ws key ≤ 1600 := Nat.le_trans (countK_le _ _) hfw
        have HME : Hid (∀ e ∈ L, countK ws e.key ≠ 0 ∧ e = entOf ws e.key) := by rw [hL]; exact fun e he => run_mem.1 he
        have HMC : Hid (countK ws key ≠ 0 → entOf ws key ∈ L) := by rw [hL]; exact fun h => run_mem.2 ⟨h, rfl⟩
        clear hk hrl hL hws hfw
        go_wp2_with fail
        go_loopw [11] (fun i W => ∃ m : Nat, m ≤ k ∧ i = .int .i64 m ∧ W = w3 ∧ Hid (∀ (m' : Nat) e, m' < m → L[m']? = some e → e.key ≠ key)) (fun i _ => k - (intOf i).toNat)
        case atStart => exact ⟨0, by omega, rfl, rfl, fun m' e h => by omega⟩
        case round =>
          obtain ⟨m, hm, rfl, rfl, HN⟩ := hrel
          by_cases hlm : m < k
          · obtain ⟨e, he⟩ : ∃ e, L[m]? = some e := ⟨_, List.getElem?_eq_getElem (by rw [← HK.out]; exact hlm)⟩
            obtain ⟨g, rfl, hg1, hg2, hce⟩ := HL.out.ent m e he
            obtain ⟨d0, d1, d2⟩ := hce _ (Below.refl _ _)
            obtain ⟨hne, hee⟩ := HME.out e (List.mem_of_getElem? he)
            have hm0 : (0 : Int) ≤ (m : Int) := by omega
            have hm1 : (m : Int) < (k : Int) := by omega
            have HE := Lib.hid he
            by_cases hk : e.key = key
            · have hs : (e.key.toList == key.toList) = true := by rw [str_eq]; simpa using hk
              rw [hk] at hee
              have hv : e.ver = (countK ws key : Int) := by rw [hee]; rfl
              have hva : e.value = lastV ws key := by rw [hee]; rfl
              rw [hv] at d2
              rw [hva] at d1
              have hs2 : ((lastV ws key).toList == (lastV ws key).toList) = true := by simp
              clear hee hv hva he hce
              go_wp2_with fail
              go_ret
              exact ⟨rfl, HB3.out⟩
            · have hs : (e.key.toList == key.toList) = false := by rw [str_eq]; simpa using hk
              have HN1 : Hid (∀ (m' : Nat) e, m' < m + 1 → L[m']? = some e → e.key ≠ key) := fun m' e' hm' he' => by
                rcases Nat.lt_or_ge m' m with h | h
                · exact HN.out m' e' h he'
                · obtain rfl : m' = m := by omega
                  rw [HE.out] at he'
                  obtain rfl := Option.some.inj he'
                  exact hk
              clear hee he hce
              go_wp2_with fail
              exact ⟨⟨m + 1, by omega, by simp, trivial, HN1⟩, by simp [intOf]; omega⟩
          · obtain rfl : m = k := by omega
            have hz : countK ws key = 0 := by
              refine Classical.byContradiction fun h => ?_
              obtain ⟨i, hi⟩ := List.getElem?_of_mem (HMC.out h)
              have hlt := (List.getElem?_eq_some_iff.1 hi).1
              exact HN.out i _ (by rw [HK.out]; exact hlt) hi rfl
            rw [hz]
            go_wp2_with fail
            go_ret
            exact ⟨rfl, HB3.out⟩
end Go.Proofs.Ytacdnpacpndekaa
