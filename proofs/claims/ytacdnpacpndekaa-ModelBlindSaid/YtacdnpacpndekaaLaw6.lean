/- The model: reads change nothing. -/
import Derived.Test.YtacdnpacpndekaaBlind
import Derived.Deep.AppendLies
namespace Go.Proofs.Ytacdnpacpndekaa
open Go.RowKit Go.My Go.My.Model Go.Deep
set_option maxRecDepth 100000 in
set_option maxHeartbeats 3200000 in
theorem blind_any (a : Option Addr) (n cap : Nat) (T : List Tx) (w : World) (ha : Asks w a n cap T) (hsz : ∀ x ∈ flat T n, x.1.size ≤ maxLen) :
    Calls Try.prog 6 #[.slice a n cap] w fun e w' => e = .returned (.bool true) ∧ Below w.heap.size w w' := by
  have HA := Lib.hid ha
  have HSZ := Lib.hid hsz
  clear ha hsz
  obtain ⟨i0, hi0, hz0, hz1, hz2⟩ := info_parts tx_info
  have HI := Lib.hid hi0
  have HZ := Lib.hid hz0
  have HSI := Lib.hid hz1
  have HY := Lib.hid hz2
  clear hi0 hz0 hz1 hz2
  go_enter Try.func6, Try.ntmps6
  go_wp2_with fail
  refine (HA.out.head w).mono ?_
  rintro e w1 ⟨rfl, hb1⟩
  have HB1 := Lib.hid hb1
  clear hb1
  go_wp2_with fail
  refine (HA.out.great w1 HB1.out).mono ?_
  rintro e w2 ⟨g, rfl, hg, hb2⟩
  have HB2 : Hid (Below w.heap.size w w2) := HB1.out.trans (hb2.mono HB1.out.size)
  cases g with
  | true =>
    clear hg hb2
    go_wp2_with fail
    go_ret
    exact ⟨rfl, HB2.out⟩
  | false =>
    have HS : Hid (Small T) := hg rfl
    have hn40 : (n : Int) ≤ 40 := by have h1 := HA.out.len; have h2 := HS.out.1; omega
    clear hg hb2
    go_wp2_with fail
    go_loopw [4, 5] (fun v i wr => ∃ j : Nat, j ≤ n ∧ i = .int .i64 j ∧ Hid (Built w2 (flat T j) v wr)) (fun _ i _ => n - (intOf i).toNat)
    case atStart => exact ⟨0, by omega, rfl, Built.start w2⟩
    case round =>
      obtain ⟨j, hj, rfl, HU⟩ := hrel
      by_cases hlt : j < n
      · obtain ⟨t, ht⟩ : ∃ t, T[j]? = some t := ⟨_, List.getElem?_eq_getElem (by rw [← HA.out.len]; exact hlt)⟩
        obtain ⟨g, o, wa, wc, rfl, hgw, htx⟩ := HA.out.tx j t ht
        have HTX := Lib.hid htx
        have HFS : Hid (flat T (j + 1) = flat T j ++ t.writes) := flat_succ ht
        have hfew : (flat T j ++ t.writes).length ≤ 1600 := by rw [← HFS.out]; exact small_flat HS.out _
        have HFW := Lib.hid hfew
        obtain ⟨k, hk⟩ : ∃ k, k = t.writes.length := ⟨_, rfl⟩
        have HK := Lib.hid hk
        have hk1 : (k : Int) ≤ 1600 := by rw [List.length_append] at hfew; omega
        have hj0 : (0 : Int) ≤ (j : Int) := by omega
        have hj1 : (j : Int) < (n : Int) := by omega
        have HU0 : Hid (Built w2 (flat T j ++ t.writes.take 0) u4 wr) := by have := HU.out; show Built _ _ _ _; simpa using this
        clear htx hfew hk ht
        go_wp2_with fail
        go_loopw [4, 6] (fun v i W => ∃ m : Nat, m ≤ k ∧ i = .int .i64 m ∧ Hid (Built w2 (flat T j ++ t.writes.take m) v W)) (fun _ i _ => k - (intOf i).toNat)
        case atStart => exact ⟨0, by omega, rfl, HU0.out⟩
        case round =>
          obtain ⟨m, hm, rfl, HV⟩ := hrel
          have HBW : Hid (Below w.heap.size w wr) := HB2.out.trans (HV.out.below.mono HB2.out.size)
          obtain ⟨c3, hww⟩ := HTX.out _ HBW.out
          rw [← HK.out] at c3
          have hg2 : g < wr.heap.size := Nat.lt_of_lt_of_le hgw HBW.out.size
          by_cases hlm : m < k
          · obtain ⟨x, hx⟩ : ∃ x, t.writes[m]? = some x := ⟨_, List.getElem?_eq_getElem (by rw [← HK.out]; exact hlm)⟩
            obtain ⟨g', o', rfl, hg', hxx⟩ := hww m x hx
            obtain ⟨d0, d1⟩ := hxx _ HBW.out
            have hg3 : g' < wr.heap.size := Nat.lt_of_lt_of_le hg' HBW.out.size
            have HT : Hid (flat T j ++ t.writes.take (m + 1) = (flat T j ++ t.writes.take m) ++ [x]) := by show _ = _; rw [List.take_add_one, hx]; simp
            have hcnt : (flat T j ++ t.writes.take m).length ≤ 1600 := by
              have h1 := HFW.out
              have h2 := List.length_take_le' m t.writes
              rw [List.length_append] at h1 ⊢
              omega
            obtain ⟨ds, hds⟩ : ∃ ds, ds = flat T j ++ t.writes.take m := ⟨_, rfl⟩
            rw [← hds] at HV HT hcnt
            have HCN := Lib.hid hcnt
            obtain ⟨G, hG, hrow, hin⟩ := HV.out.row
            have HROW := Lib.hid hrow
            have HIN := Lib.hid hin
            have HG := Lib.hid hG
            obtain ⟨va, vcap, rfl, _⟩ := row_form hrow
            have hm0 : (0 : Int) ≤ (m : Int) := by omega
            have hm1 : (m : Int) < (k : Int) := by omega
            clear hx hxx hww hcnt hds hG hrow hin
            go_wp2_with (at_builtin; refine wpList_append_lies _ rfl _ _ 22 rfl w2.heap.size 39 i0 (.agg #[.int .i64 0, .int .i64 0, .slice none 0 0, .slice none 0 0]) 4 64 Try.underlying22 HI.out HZ.out HSI.out HY.out rfl (by decide) _ _ _ rfl (row_below HROW.out (((Below.refl _ wr).alloc (Nat.le_refl _) _).alloc (by simp) _)) ⟨wr.heap.size + 1, 0, none⟩ 1 1 (txL wr.heap.size) rfl rfl ?c1 ?c2 (by decide) ?c3 ?c4 ?c5 _ rfl ?_)
            case c1 => exact World.news_of_block (cs := #[.int .i64 0, .int .i64 0, .slice none 0 0, .slice (some ⟨wr.heap.size, 0, none⟩) 1 1]) (t := 39) (fr := (0, 0)) (by simpa using heap_alloc_new (wr.alloc (.cells #[.string x.1, .string x.2] 41)) _)
            case c2 => simp [txL, Value.oneCell']
            case c3 => have := HCN.out; unfold maxLen; omega
            case c4 => have := HCN.out; omega
            case c5 => have := HV.out.below.size; simp; omega
            intro g1 cap1 w3 hown hgrow hat hlt1
            have hv2 := HV.out.append (x := x) HG.out HROW.out HIN.out hown hgrow
            rw [← HT.out] at hv2
            have HV2 := Lib.hid hv2
            clear hown hgrow hat hlt1 hv2
            go_wp2_with fail
            go_roundw
            case rel => exact ⟨m + 1, by omega, by go_num, HV2.out⟩
            case measure => simp [intOf]; omega
          · obtain rfl : m = k := by omega
            have HT : Hid (flat T j ++ t.writes.take m = flat T (j + 1)) := by show _ = _; rw [HFS.out, HK.out, List.take_of_length_le (Nat.le_refl _)]
            rw [HT.out] at HV
            go_wp2_with fail
            exact ⟨⟨j + 1, by omega, by simp, HV⟩, by simp [intOf]; omega⟩
      · obtain rfl : j = n := by omega
        obtain ⟨ds, hds⟩ : ∃ ds, ds = flat T j := ⟨_, rfl⟩
        have hfw : ds.length ≤ 1600 := by rw [hds]; exact small_flat HS.out _
        have HRUN1 : Hid (∀ W, Below w.heap.size w W → Calls Try.prog 13 #[.slice a j cap] W (RunDone W (stateOf ds))) := fun W hb => by rw [hds]; exact HA.out.run W hb HS.out
        have hsz2 := HSZ.out
        rw [← hds] at HU hsz2
        obtain ⟨va, vcap, rfl, _⟩ := row_form HU.out.row.choose_spec.2.1
        obtain ⟨N, hN⟩ : ∃ N, N = ds.length := ⟨_, rfl⟩
        have hbu := HU.out
        rw [← hN] at hbu ⊢
        have hNo : N = (ds.map oneT).length := by rw [List.length_map, hN]
        have hfo := flat_one ds
        have hord := hbu.ord hN hsz2
        have HRUN2 : Hid (∀ W, Below wr.heap.size wr W → Calls Try.prog 13 #[.slice va N vcap] W (RunDone W (stateOf ds))) := fun W hb => by
          have h := run_any va vcap (ds.map oneT) W (far_below hord hb (by simp)) (by omega) (by rw [hfo]; omega)
          rw [hfo, ← hNo] at h
          exact h
        have HFIT : Hid (∀ W, Below wr.heap.size wr W → Calls Try.prog 15 #[.slice va N vcap] W fun e w' => e = .returned (.int .i64 N) ∧ Below W.heap.size W w') := fun W hb => by
          have h := fits_any va vcap (ds.map oneT) W (far_below hord hb (by simp)) (by omega) (by rw [hfo]; omega) (fun t ht => by obtain ⟨x, _, rfl⟩ := List.mem_map.1 ht; exact Nat.zero_le _)
          unfold FitsLeft at h
          rw [fits_one, ← hNo, ← hN] at h
          exact h
        have HB3 : Hid (Below w.heap.size w wr) := HB2.out.trans (hbu.below.mono HB2.out.size)
        have hN9 : (N : Int) ≤ 1600 := by omega
        have hrl := run_few ds
        obtain ⟨L, hL⟩ : ∃ L, L = runL (stateOf ds) := ⟨_, rfl⟩
        have HL := Lib.hid hL
        rw [← hL] at hrl
        obtain ⟨q, hq⟩ : ∃ q, q = L.length := ⟨_, rfl⟩
        have HQL := Lib.hid hq
        have hq9 : q ≤ 100000 := by omega
        have hq8 : (q : Int) ≤ 100000 := by omega
        have open_ : ∀ (W : World) e W', RunDone W (stateOf ds) e W' → ∃ ra rc, e = .returned (.slice ra q rc) ∧ Left3 W W' ra L := fun W e W' h => by
          obtain ⟨ra, rc, h1, h2⟩ := left_open h
          rw [hq, hL]
          exact ⟨ra, rc, h1, h2⟩
        have HR1 : Hid (∀ W, Below w.heap.size w W → Calls Try.prog 13 #[.slice a j cap] W fun e W' => ∃ ra rc, e = .returned (.slice ra q rc) ∧ Left3 W W' ra L) := fun W hb => (HRUN1.out W hb).mono fun e W' h => open_ W e W' h
        have HR2 : Hid (∀ W, Below wr.heap.size wr W → Calls Try.prog 13 #[.slice va N vcap] W fun e W' => ∃ ra rc, e = .returned (.slice ra q rc) ∧ Left3 W W' ra L) := fun W hb => (HRUN2.out W hb).mono fun e W' h => open_ W e W' h
        clear hds hfw hsz2 hbu hNo hfo hord hrl hL hN hq HU HSZ open_ HRUN1 HRUN2
        go_wp2_with fail
        refine (HR1.out wr HB3.out).mono ?_
        rintro e w3 ⟨ra, rc, rfl, hl3⟩
        have HL3 := Lib.hid hl3
        have HB4 := Lib.hid (hl3.below)
        clear hl3
        go_wp2_with fail
        refine (HR2.out w3 HB4.out).mono ?_
        rintro e w4 ⟨rb, rc', rfl, hl4⟩
        have HB5 : Hid (Below wr.heap.size wr w4) := HB4.out.trans (hl4.below.mono HB4.out.size)
        have HSM := Lib.hid (same_yes ra rb rc rc' q L w4 HQL.out (HL3.out.rows hl4.below) (hl4.rows (Below.refl _ _)) hq9)
        clear hl4
        go_wp2_with fail
        refine HSM.out.mono ?_
        rintro e w5 ⟨rfl, hb5⟩
        have HB6 : Hid (Below wr.heap.size wr w5) := HB5.out.trans (hb5.mono HB5.out.size)
        clear hb5 HSM
        go_wp2_with fail
        refine (HFIT.out w5 HB6.out).mono ?_
        rintro e w6 ⟨rfl, hb6⟩
        have HB7 : Hid (Below w.heap.size w w6) := HB3.out.trans ((HB6.out.trans (hb6.mono HB6.out.size)).mono HB3.out.size)
        clear hb6
        go_wp2_with fail
        go_ret
        exact ⟨rfl, HB7.out⟩
end Go.Proofs.Ytacdnpacpndekaa
