/- The model: the document's At. -/
import Derived.Test.YtpcmkifgfokdpaaAtM
namespace Go.Proofs.Ytpcmkifgfokdpaa
open Go.RowKit Go.My Go.My.Model
theorem at_yes {ds ws : List Wri} {x : Wri} {k : ByteArray} {v : Int} (hp : (ds ++ [x]) <+: ws) (hk : x.1 = k) (hv : (countK ds k : Int) + 1 = v) : atOk ws k v = true := by
  have h1 := count_pre hp k
  rw [countK_snoc, if_pos hk] at h1
  simp [atOk]
  omega
theorem at_not {ws : List Wri} {k : ByteArray} {v : Int} (h : v ≤ 0 ∨ (countK ws k : Int) < v) : atOk ws k v = false := by
  simp [atOk]
  omega
theorem key_no {a b : ByteArray} (h : a ≠ b) : (a.toList == b.toList) = false := by
  cases hb : a.toList == b.toList with
  | false => rfl
  | true =>
    refine absurd ?_ h
    have h' : a.toList = b.toList := by simpa using hb
    rw [Lib.toList_data, Lib.toList_data] at h'
    cases a with | mk a => cases b with | mk b =>
      cases a; cases b; simp at h'; rw [h']
set_option maxRecDepth 100000 in
set_option maxHeartbeats 1600000 in
theorem ref_at (a : Option Addr) (cap : Nat) (T : List Tx) (key : ByteArray) (v : Int) (w : World) (ho : OrdFar [] w a T) (hl : T.length ≤ 2000) (ht : (flat T T.length).length ≤ 5000) :
    Calls Try.prog 10 #[.slice a T.length cap, .string key, .int .i64 v] w (AtLeft w T key v) := by
  have HO := Lib.hid ho
  have HTOT := Lib.hid ht
  obtain ⟨n, hn⟩ : ∃ n, n = T.length := ⟨_, rfl⟩
  have HN := Lib.hid hn
  have hn9 : (n : Int) ≤ 2000 := by omega
  have HFL : Hid (∀ i, (flat T i).length ≤ 5000) := fun i => Nat.le_trans (flat_le T i) ht
  rw [← hn]
  obtain ⟨W0, hW0⟩ : ∃ W0, W0 = w.alloc (.cells #[.string ⟨#[]⟩, .string ⟨#[]⟩, .int .i64 0] 43) := ⟨_, rfl⟩
  have HW0 := Lib.hid hW0
  have HB0 : Hid (Below w.heap.size w W0) := by show Below _ _ _; rw [hW0]; exact (Below.refl _ w).alloc (Nat.le_refl _) _
  have HR0 : Hid (W0.heap[w.heap.size]? = some (.cells #[.string ⟨#[]⟩, .string ⟨#[]⟩, .int .i64 0] 43 (0, 0))) := by show _ = _; rw [hW0]; exact heap_alloc_new w _
  have P0 : Hid (Below W0.heap.size W0 W0) := Below.refl _ _
  have HQ0 : Hid (v ≤ 0 ∨ (countK (flat T 0) key : Int) < v) := by show _ ∨ _; have : countK (flat T 0) key = 0 := rfl; omega
  clear ho ht hn hl
  go_enter Try.func10, Try.ntmps10
  go_wp2_with fail
  rw [← HW0.out]
  clear hW0
  go_loopw [8, 9] (fun c i wr => ∃ j : Nat, j ≤ n ∧ i = .int .i64 j ∧ c = .int .i64 (countK (flat T j) key : Nat) ∧ Hid (Below W0.heap.size W0 wr) ∧ Hid (v ≤ 0 ∨ (countK (flat T j) key : Int) < v)) (fun _ i _ => n - (intOf i).toNat)
  case atStart => exact ⟨0, by omega, rfl, rfl, P0, HQ0⟩
  case round =>
    clear P0 HQ0
    obtain ⟨j, hj, rfl, rfl, HB, HQ⟩ := hrel
    by_cases hlt : j < n
    · obtain ⟨t, ht⟩ : ∃ t, T[j]? = some t := ⟨_, List.getElem?_eq_getElem (by rw [← HN.out]; exact hlt)⟩
      obtain ⟨g, o, rfl, hx⟩ := HO.out j t ht
      obtain ⟨wa, wc, x3, hwr⟩ := hx.c3
      have HG := Lib.hid hx.lt
      have HX3 := Lib.hid x3
      have HWR := Lib.hid hwr
      have HFS : Hid (flat T (j + 1) = flat T j ++ t.writes) := flat_succ ht
      have hfew := HFL.out (j + 1)
      rw [HFS.out] at hfew
      have HFW := Lib.hid hfew
      obtain ⟨k, hk⟩ : ∃ k, k = t.writes.length := ⟨_, rfl⟩
      have HK := Lib.hid hk
      have hk1 : (k : Int) ≤ 5000 := by rw [List.length_append] at hfew; omega
      have hj0 : (0 : Int) ≤ (j : Int) := by omega
      have hj1 : (j : Int) < (n : Int) := by omega
      have he0 : flat T j = flat T j ++ t.writes.take 0 := by simp
      rw [he0] at HQ ⊢
      clear hx x3 hwr hfew hk ht he0
      go_wp2_with fail
      go_loopw [8, 10] (fun c i W => ∃ m : Nat, m ≤ k ∧ i = .int .i64 m ∧ c = .int .i64 (countK (flat T j ++ t.writes.take m) key : Nat) ∧ Hid (Below W0.heap.size W0 W) ∧ Hid (v ≤ 0 ∨ (countK (flat T j ++ t.writes.take m) key : Int) < v)) (fun _ i _ => k - (intOf i).toNat)
      case atStart => exact ⟨0, by omega, rfl, rfl, HB, HQ⟩
      case round =>
        clear HB HQ
        obtain ⟨m, hm, rfl, rfl, HB, HQ⟩ := hrel
        have HBW : Hid (Below w.heap.size w wr) := HB0.out.trans (HB.out.mono HB0.out.size)
        have c3 := (HBW.out.cell (p := ⟨g, o + j * 4 + 3, none⟩) HG.out).trans HX3.out
        rw [← HK.out] at c3
        have hg2 : g < wr.heap.size := Nat.lt_of_lt_of_le HG.out HBW.out.size
        by_cases hlm : m < k
        · obtain ⟨x, hx⟩ : ∃ x, t.writes[m]? = some x := ⟨_, List.getElem?_eq_getElem (by rw [← HK.out]; exact hlm)⟩
          obtain ⟨g', o', rfl, hg', _, y0, y1, _⟩ := HWR.out m x hx
          have d0 := (HBW.out.cell (p := ⟨g', o' + m * 2, none⟩) hg').trans y0
          have d1 := (HBW.out.cell (p := ⟨g', o' + m * 2 + 1, none⟩) hg').trans y1
          have hg3 : g' < wr.heap.size := Nat.lt_of_lt_of_le hg' HBW.out.size
          have hT : flat T j ++ t.writes.take (m + 1) = (flat T j ++ t.writes.take m) ++ [x] := by rw [List.take_add_one, hx]; simp
          have HT := Lib.hid hT
          have HPRE : Hid ((flat T j ++ t.writes.take m) ++ [x] <+: flat T T.length) := by
            show _ <+: _
            rw [← hT]
            refine List.IsPrefix.trans (l₂ := flat T (j + 1)) ?_ (flat_pre T (j + 1))
            rw [HFS.out]
            exact (List.prefix_append_right_inj _).2 (List.take_prefix _ _)
          have hcnt : (flat T j ++ t.writes.take m).length ≤ 5000 := by
            have h1 := HFW.out
            have h2 := List.length_take_le' m t.writes
            rw [List.length_append] at h1 ⊢
            omega
          have hsn := countK_snoc (flat T j ++ t.writes.take m) x key
          have hcl := countK_le (flat T j ++ t.writes.take m) key
          rw [← hT] at hsn
          obtain ⟨c, hc⟩ : ∃ c, c = countK (flat T j ++ t.writes.take m) key := ⟨_, rfl⟩
          have HC := Lib.hid hc
          have hrb := (HB.out.block _ (lt_of_heap HR0.out)).trans HR0.out
          have r0 : wr.cell? ⟨w.heap.size, 0, none⟩ = some (.string ⟨#[]⟩) := by rw [cell_of_row _ _ _ _ _ _ hrb]; rfl
          have r1 : wr.cell? ⟨w.heap.size, 1, none⟩ = some (.string ⟨#[]⟩) := by rw [cell_of_row _ _ _ _ _ _ hrb]; rfl
          have r2 : wr.cell? ⟨w.heap.size, 2, none⟩ = some (.int .i64 0) := by rw [cell_of_row _ _ _ _ _ _ hrb]; rfl
          have fz : ∀ i, wr.frozen? ⟨w.heap.size, i, none⟩ = false := fun i => by simp [World.frozen?, hrb]
          have hrl := lt_of_heap hrb
          rw [← hc] at hsn hcl HQ ⊢
          have hc9 : (c : Int) ≤ 5000 := by omega
          have hm0 : (0 : Int) ≤ (m : Int) := by omega
          have hm1 : (m : Int) < (k : Int) := by omega
          clear hx hcnt y0 y1 hT hc hcl hrb
          by_cases hk : x.1 = key
          · have hE : (x.1.toList == key.toList) = true := by rw [hk]; simp
            rw [if_pos hk] at hsn
            have HSN := Lib.hid hsn
            have HKK := Lib.hid hk
            clear hk hsn
            by_cases hv : (c : Int) + 1 = v
            · have HV := Lib.hid hv
              have hd : ((c : Int) + 1 == v) = true := by simpa using hv
              clear hv
              have HEND : Hid (∀ w', Below w.heap.size w w' → AtLeft w T key v (.returned (.tuple #[.agg #[.string key, .string x.2, .int .i64 ((c : Int) + 1)], .bool true])) w') := fun w' hb => by
                have h1 : (countK (flat T j ++ t.writes.take m) key : Int) + 1 = v := by rw [← HC.out]; exact HV.out
                unfold AtLeft
                rw [at_found HPRE.out HKK.out h1, at_yes HPRE.out HKK.out h1, ← HV.out]
                exact ⟨rfl, hb⟩
              go_wp2_with fail
              have hb := HBW.out
              have qa : ∀ (W : World) o i, W.heap.size = wr.heap.size → (W.alloc o).cell? ⟨w.heap.size, i, none⟩ = W.cell? ⟨w.heap.size, i, none⟩ := fun W o i h => ((Below.refl _ W).alloc (Nat.le_refl _) o).cell (p := ⟨_, i, none⟩) (show w.heap.size < W.heap.size by omega)
              refine bodyPost_ret (v := .tuple #[.agg #[.string key, .string x.2, .int .i64 ((c : Int) + 1)], .bool true]) (by simp [results, Try.results10, go_sem, qa, r0, r1, r2]) rfl (HEND.out _ ?_)
              go_grown
            · have hd : ((c : Int) + 1 == v) = false := by simpa using hv
              have HQ2 : Hid (v ≤ 0 ∨ ((c + 1 : Nat) : Int) < v) := by show _ ∨ _; have := HQ.out; omega
              clear hv
              go_wp2_with fail
              exact ⟨⟨m + 1, by omega, by simp, by rw [HSN.out]; simp, HB.out.alloc HB.out.size _, by rw [HSN.out]; exact HQ2⟩, by simp [intOf]; omega⟩
          · have hE : (x.1.toList == key.toList) = false := key_no hk
            rw [if_neg hk] at hsn
            have HSN := Lib.hid hsn
            clear hk hsn
            go_wp2_with fail
            exact ⟨⟨m + 1, by omega, by simp, by rw [HSN.out]; rfl, HB.out.alloc HB.out.size _, by rw [HSN.out]; exact HQ⟩, by simp [intOf]; omega⟩
        · obtain rfl : m = k := by omega
          have HT : Hid (flat T j ++ t.writes.take m = flat T (j + 1)) := by show _ = _; rw [HFS.out, HK.out, List.take_of_length_le (Nat.le_refl _)]
          rw [HT.out] at HQ ⊢
          go_wp2_with fail
          exact ⟨⟨j + 1, by omega, by simp, rfl, HB, HQ⟩, by simp [intOf]; omega⟩
    · obtain rfl : j = n := by omega
      have HBW : Hid (Below w.heap.size w wr) := HB0.out.trans (HB.out.mono HB0.out.size)
      have hrb := (HB.out.block _ (lt_of_heap HR0.out)).trans HR0.out
      have r0 : wr.cell? ⟨w.heap.size, 0, none⟩ = some (.string ⟨#[]⟩) := by rw [cell_of_row _ _ _ _ _ _ hrb]; rfl
      have r1 : wr.cell? ⟨w.heap.size, 1, none⟩ = some (.string ⟨#[]⟩) := by rw [cell_of_row _ _ _ _ _ _ hrb]; rfl
      have r2 : wr.cell? ⟨w.heap.size, 2, none⟩ = some (.int .i64 0) := by rw [cell_of_row _ _ _ _ _ _ hrb]; rfl
      have fz : ∀ i, wr.frozen? ⟨w.heap.size, i, none⟩ = false := fun i => by simp [World.frozen?, hrb]
      have hrl := lt_of_heap hrb
      have HEND : Hid (∀ w', Below w.heap.size w w' → AtLeft w T key v (.returned (.tuple #[.agg #[.string ⟨#[]⟩, .string ⟨#[]⟩, .int .i64 0], .bool false])) w') := fun w' hb => by
        have h1 := HQ.out
        rw [HN.out] at h1
        unfold AtLeft
        rw [at_none h1, at_not h1]
        exact ⟨rfl, hb⟩
      clear hrb
      go_wp2_with fail
      have hb := HBW.out
      refine bodyPost_ret (v := .tuple #[.agg #[.string ⟨#[]⟩, .string ⟨#[]⟩, .int .i64 0], .bool false]) (by simp [results, Try.results10, go_sem, r0, r1, r2]) rfl (HEND.out _ ?_)
      go_grown
end Go.Proofs.Ytpcmkifgfokdpaa
