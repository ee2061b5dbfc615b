/- A store: where a key is. -/
import Derived.Test.YtaifmfnmgnmgbaaGreatDoorSspec
namespace Go.Proofs.YtaifmfnmgnmgbaaGreatDoor
open Go.RowKit Go.My
set_option maxRecDepth 100000 in
theorem compare_35 (a b : ByteArray) (w : World) : Calls Tryz.prog 118 #[.string a, .string b] w fun e w' => e = .returned (.int .i64 (cmpK a b)) ∧ w' = w := by
  go_enter Tryz.func118, Tryz.ntmps118
  go_wp2
  rw [run_callFunc_extern Tryz.func137 (by kernel_rfl) (by kernel_rfl) (by kernel_rfl) (e := Extern.BytealgCompare.compare) (by kernel_rfl), Lib.run_compareString]
  simp only [Result.andThen]
  rw [Oper.upon_value]
  go_wp2
  go_ret
  exact ⟨rfl, rfl⟩
set_option maxRecDepth 100000 in
theorem compare_30 (a b : ByteArray) (w : World) : Calls Tryz.prog 91 #[.string a, .string b] w fun e w' => e = .returned (.int .i64 (cmpK a b)) ∧ w' = w := by
  go_enter Tryz.func91, Tryz.ntmps91
  go_wp2_with (go_at_call 118; refine (compare_35 _ _ _).mono ?_; rintro e w' ⟨rfl, rfl⟩)
  go_ret
  exact ⟨rfl, rfl⟩
set_option maxRecDepth 100000 in
theorem cmp_29 (e : Ent) (k : ByteArray) (w : World) : Calls Tryz.prog 90 #[entA e, .string k] w fun r w' => r = .returned (.int .i64 (cmpK e.key k)) ∧ Below w.heap.size w w' := by
  unfold entA
  go_enter Tryz.func90, Tryz.ntmps90
  go_wp2_with (go_at_call 91; refine (compare_30 _ _ _).mono ?_; rintro e w' ⟨rfl, rfl⟩)
  go_ret
  exact ⟨rfl, (Below.refl _ w).alloc (Nat.le_refl _) _⟩
/-- where a key would be: how many are ahead of it -/
def posOf (L : List Ent) (k : ByteArray) : Nat := (L.filter fun e => lessK e.key k).length
def hasK (L : List Ent) (k : ByteArray) : Bool := L.any fun e => decide (e.key = k)
theorem pos_split {L : List Ent} {k : ByteArray} {i : Nat} (hi : i ≤ L.length) (h1 : ∀ e ∈ L.take i, lessK e.key k = true) (h2 : ∀ e ∈ L.drop i, lessK e.key k = false) : posOf L k = i := by
  unfold posOf
  have e : L = L.take i ++ L.drop i := (List.take_append_drop i L).symm
  rw [e, List.filter_append, List.length_append, List.filter_eq_self.2 h1, List.filter_eq_nil_iff.2 fun x hx => by rw [h2 x hx]; simp]
  simp
  omega
theorem up_get {L : List Ent} (h : Up L) {i j : Nat} {x y : Ent} (hij : i < j) (h1 : L[i]? = some x) (h2 : L[j]? = some y) : lessK x.key y.key = true := by
  obtain ⟨a1, rfl⟩ := List.getElem?_eq_some_iff.1 h1
  obtain ⟨a2, rfl⟩ := List.getElem?_eq_some_iff.1 h2
  exact List.pairwise_iff_getElem.1 h i j a1 a2 hij
/-- Between two rounds of the search. -/
structure Between (L : List Ent) (k : ByteArray) (i j : Nat) : Prop where
  le : i ≤ j
  n : j ≤ L.length
  lo : ∀ (t : Nat) e, t < i → L[t]? = some e → lessK e.key k = true
  hi : ∀ (t : Nat) e, j ≤ t → L[t]? = some e → lessK e.key k = false
theorem Between.up {L : List Ent} {k : ByteArray} {i j h : Nat} {x : Ent} (hu : Up L) (b : Between L k i j) (h1 : i ≤ h) (h2 : h < j) (hx : L[h]? = some x) (hl : lessK x.key k = true) : Between L k (h + 1) j :=
  ⟨by omega, b.n, fun t e ht he => by
    by_cases q : t = h
    · subst q
      rw [hx] at he
      cases he
      exact hl
    · exact lessK_trans (up_get hu (by omega) he hx) hl, b.hi⟩
theorem Between.down {L : List Ent} {k : ByteArray} {i j h : Nat} {x : Ent} (hu : Up L) (b : Between L k i j) (h1 : i ≤ h) (h2 : h < j) (hx : L[h]? = some x) (hl : lessK x.key k = false) : Between L k i h :=
  ⟨h1, by have := b.n; omega, b.lo, fun t e ht he => by
    by_cases q : t = h
    · subst q
      rw [hx] at he
      cases he
      exact hl
    · cases h3 : lessK e.key k with
      | false => rfl
      | true =>
        have h4 := lessK_trans (up_get hu (by omega) hx he) h3
        rw [hl] at h4
        cases h4⟩
theorem Between.done {L : List Ent} {k : ByteArray} {i : Nat} (b : Between L k i i) : posOf L k = i := by
  refine pos_split b.n (fun e he => ?_) (fun e he => ?_)
  · obtain ⟨t, ht⟩ := List.getElem?_of_mem he
    have hlt := (List.getElem?_eq_some_iff.1 ht).1
    rw [List.length_take] at hlt
    rw [List.getElem?_take] at ht
    rw [if_pos (by omega)] at ht
    exact b.lo t e (by omega) ht
  · obtain ⟨t, ht⟩ := List.getElem?_of_mem he
    rw [List.getElem?_drop] at ht
    exact b.hi (i + t) e (by omega) ht
theorem Between.has {L : List Ent} {k : ByteArray} {i : Nat} (hu : Up L) (b : Between L k i i) {x : Ent} (hx : L[i]? = some x) : hasK L k = decide (x.key = k) := by
  unfold hasK
  by_cases h : x.key = k
  · rw [decide_eq_true h]
    exact List.any_eq_true.2 ⟨x, List.mem_of_getElem? hx, by simpa using h⟩
  · rw [decide_eq_false h, List.any_eq_false]
    intro e he
    obtain ⟨t, ht⟩ := List.getElem?_of_mem he
    simp only [decide_eq_true_eq]
    rintro rfl
    rcases Nat.lt_trichotomy t i with q | q | q
    · have := b.lo t e q ht
      rw [lessK_irr] at this
      cases this
    · subst q
      rw [hx] at ht
      cases ht
      exact h rfl
    · have h1 := up_get hu q hx ht
      have h2 := b.hi i x (Nat.le_refl _) hx
      rw [h1] at h2
      cases h2
theorem Between.hasnt {L : List Ent} {k : ByteArray} (b : Between L k L.length L.length) : hasK L k = false := by
  unfold hasK
  rw [List.any_eq_false]
  intro e he
  obtain ⟨t, ht⟩ := List.getElem?_of_mem he
  simp only [decide_eq_true_eq]
  rintro rfl
  have := b.lo t e (List.getElem?_eq_some_iff.1 ht).1 ht
  rw [lessK_irr] at this
  cases this
def FindLeft (w : World) (L : List Ent) (k : ByteArray) (e : Ending) (w' : World) : Prop := e = .returned (.tuple #[.int .i64 (posOf L k : Nat), .bool (hasK L k)]) ∧ Below w.heap.size w w'
set_option maxRecDepth 100000 in
set_option maxHeartbeats 3200000 in
theorem search_28 (a : Option Addr) (cap : Nat) (L : List Ent) (k : ByteArray) (w : World) (ha : Lies w a 3 entL L) (hu : Up L) (hl : L.length ≤ 100000) :
    Calls Tryz.prog 89 #[.slice a L.length cap, .string k, .func (.func 90) #[] #[]] w (FindLeft w L k) := by
  have HA := Lib.hid ha
  have HU := Lib.hid hu
  obtain ⟨n, hn⟩ : ∃ n, n = L.length := ⟨_, rfl⟩
  have HN := Lib.hid hn
  have hn9 : (n : Int) ≤ 100000 := by omega
  rw [← hn]
  have P0 : Hid (Below w.heap.size w w ∧ Between L k 0 n) := ⟨Below.refl _ _, ⟨Nat.zero_le _, by rw [hn]; exact Nat.le_refl _, fun t e h => by omega, fun t e h he => by have := (List.getElem?_eq_some_iff.1 he).1; omega⟩⟩
  clear ha hu hn hl
  go_enter Tryz.func89, Tryz.ntmps89
  go_wp2_with fail
  go_loopw [9, 10] (fun x y wr => ∃ i j : Nat, x = .int .i64 i ∧ y = .int .i64 j ∧ i ≤ j ∧ j ≤ n ∧ Hid (Below w.heap.size w wr ∧ Between L k i j)) (fun x y _ => (intOf y).toNat - (intOf x).toNat)
  case atStart => exact ⟨0, n, rfl, rfl, by omega, by omega, P0⟩
  case round =>
    clear P0
    obtain ⟨i, j, rfl, rfl, hij, hjn, HB⟩ := hrel
    by_cases hlt : i < j
    · obtain ⟨h, hh⟩ : ∃ h : Nat, h = (i + j) / 2 := ⟨_, rfl⟩
      have h1 : i ≤ h := by omega
      have h2 : h < j := by omega
      obtain ⟨x, hx⟩ : ∃ x, L[h]? = some x := ⟨_, List.getElem?_eq_getElem (by rw [← HN.out]; omega)⟩
      obtain ⟨g, o, rfl, hg, hc⟩ := HA.out.below HB.out.1 h x hx
      have d0 : wr.cell? ⟨g, o + (i + j) / 2 * 3, none⟩ = some (.string x.key) := by rw [← hh]; exact hc 0 _ rfl
      have d1 : wr.cell? ⟨g, o + (i + j) / 2 * 3 + 1, none⟩ = some (.string x.value) := by rw [← hh]; exact hc 1 _ rfl
      have d2 : wr.cell? ⟨g, o + (i + j) / 2 * 3 + 2, none⟩ = some (.int .i64 x.ver) := by rw [← hh]; exact hc 2 _ rfl
      have hlt1 : (i : Int) < (j : Int) := by omega
      have hj9 : (j : Int) ≤ 100000 := by omega
      have hhi : ((i : Int) + (j : Int)) / 2 = (h : Int) := by omega
      have hh9 : (h : Int) ≤ 100000 := by omega
      have HC : Hid (Calls Tryz.prog 90 #[.agg #[.string x.key, .string x.value, .int .i64 x.ver], .string k] wr fun r w' => r = .returned (.int .i64 (cmpK x.key k)) ∧ Below wr.heap.size wr w') := cmp_29 x k wr
      have HX := Lib.hid hx
      have HH := Lib.hid hh
      have HI := Lib.hid hhi
      clear hx hc hh hhi
      cases hl : lessK x.key k with
      | true =>
        have hneg : cmpK x.key k < 0 := cmp_neg.2 hl
        have HB2 : Hid (Between L k (h + 1) j) := HB.out.2.up HU.out h1 h2 HX.out hl
        clear hl
        go_wp2_with fail
        refine HC.out.mono ?_
        rintro r w1 ⟨rfl, hb1⟩
        have HB1 : Hid (Below w.heap.size w w1 ∧ Between L k (h + 1) j) := ⟨HB.out.1.trans (hb1.mono HB.out.1.size), HB2.out⟩
        have hh1 : ((i : Int) + (j : Int)) / 2 ≤ 100000 := by rw [HI.out]; exact hh9
        have hh2 : 0 ≤ ((i : Int) + (j : Int)) / 2 := by rw [HI.out]; omega
        clear hb1
        go_wp2_with fail
        exact ⟨⟨h + 1, j, by rw [HI.out]; simp, rfl, by omega, by omega, HB1⟩, by rw [HI.out]; simp [intOf]; omega⟩
      | false =>
        have hneg : ¬ cmpK x.key k < 0 := fun h => by rw [cmp_neg, hl] at h; cases h
        have HB2 : Hid (Between L k i h) := HB.out.2.down HU.out h1 h2 HX.out hl
        clear hl
        go_wp2_with fail
        refine HC.out.mono ?_
        rintro r w1 ⟨rfl, hb1⟩
        have HB1 : Hid (Below w.heap.size w w1 ∧ Between L k i h) := ⟨HB.out.1.trans (hb1.mono HB.out.1.size), HB2.out⟩
        clear hb1
        go_wp2_with fail
        exact ⟨⟨i, h, rfl, by rw [HI.out], by omega, by omega, HB1⟩, by rw [HI.out]; simp [intOf]; omega⟩
    · obtain rfl : i = j := by omega
      have hlt1 : ¬ (i : Int) < (i : Int) := by omega
      have HP : Hid (posOf L k = i) := HB.out.2.done
      by_cases hin : i < n
      · obtain ⟨x, hx⟩ : ∃ x, L[i]? = some x := ⟨_, List.getElem?_eq_getElem (by rw [← HN.out]; omega)⟩
        obtain ⟨g, o, rfl, hg, hc⟩ := HA.out.below HB.out.1 i x hx
        have d0 : wr.cell? ⟨g, o + i * 3, none⟩ = some (.string x.key) := hc 0 _ rfl
        have d1 : wr.cell? ⟨g, o + i * 3 + 1, none⟩ = some (.string x.value) := hc 1 _ rfl
        have d2 : wr.cell? ⟨g, o + i * 3 + 2, none⟩ = some (.int .i64 x.ver) := hc 2 _ rfl
        have hi0 : (0 : Int) ≤ (i : Int) := by omega
        have hi1 : (i : Int) < (n : Int) := by omega
        have HC : Hid (Calls Tryz.prog 90 #[.agg #[.string x.key, .string x.value, .int .i64 x.ver], .string k] wr fun r w' => r = .returned (.int .i64 (cmpK x.key k)) ∧ Below wr.heap.size wr w') := cmp_29 x k wr
        have HHS : Hid (hasK L k = decide (x.key = k)) := HB.out.2.has HU.out hx
        clear hx hc
        by_cases he : x.key = k
        · have h0 : (cmpK x.key k == 0) = true := by simpa using cmp_zero.2 he
          have HK : Hid (hasK L k = true) := by show _ = _; rw [HHS.out]; exact decide_eq_true he
          clear he
          go_wp2_with fail
          refine HC.out.mono ?_
          rintro r w1 ⟨rfl, hb1⟩
          have HB1 := Lib.hid (HB.out.1.trans (hb1.mono HB.out.1.size))
          clear hb1
          go_wp2_with fail
          refine bodyPost_ret (v := .tuple #[.int .i64 (i : Int), .bool true]) (by simp [results, Tryz.results89, go_sem]) rfl ⟨by rw [HP.out, HK.out], HB1.out⟩
        · have h0 : (cmpK x.key k == 0) = false := by simpa using fun h => he (cmp_zero.1 h)
          have HK : Hid (hasK L k = false) := by show _ = _; rw [HHS.out]; exact decide_eq_false he
          clear he
          go_wp2_with fail
          refine HC.out.mono ?_
          rintro r w1 ⟨rfl, hb1⟩
          have HB1 := Lib.hid (HB.out.1.trans (hb1.mono HB.out.1.size))
          clear hb1
          go_wp2_with fail
          refine bodyPost_ret (v := .tuple #[.int .i64 (i : Int), .bool false]) (by simp [results, Tryz.results89, go_sem]) rfl ⟨by rw [HP.out, HK.out], HB1.out⟩
      · obtain rfl : i = n := by omega
        have HK : Hid (hasK L k = false) := by
          have h := HB.out.2
          rw [HN.out] at h
          exact h.hasnt
        go_wp2_with fail
        refine bodyPost_ret (v := .tuple #[.int .i64 (i : Int), .bool false]) (by simp [results, Tryz.results89, go_sem]) rfl ⟨by rw [HP.out, HK.out], HB.out.1⟩
/-- A store in memory: its entries rise, and lie somewhere. -/
structure StoreAt (w : World) (p : Nat) (a : Option Addr) (cap : Nat) (L : List Ent) : Prop where
  cell : w.heap[p]? = some (.cells #[.slice a L.length cap] 92 (0, 0))
  src : SrcAt w a cap L
  up : Up L
theorem StoreAt.below {w w' : World} {p : Nat} {a : Option Addr} {cap : Nat} {L : List Ent} (h : StoreAt w p a cap L) (hb : Below w.heap.size w w') : StoreAt w' p a cap L :=
  ⟨(hb.block _ (lt_of_heap h.cell)).trans h.cell, h.src.below hb, h.up⟩
set_option maxRecDepth 100000 in
theorem find_23 (p : Nat) (a : Option Addr) (cap : Nat) (L : List Ent) (k : ByteArray) (w : World) (h : StoreAt w p a cap L) (hl : L.length ≤ 100000) :
    Calls Tryz.prog 51 #[.pointer (some ⟨p, 0, none⟩), .string k] w (FindLeft w L k) := by
  have HC := Lib.hid (search_28 a cap L k w h.src.lies h.up hl)
  have q : w.cell? ⟨p, 0, none⟩ = some (.slice a L.length cap) := by rw [cell_of_row _ _ _ _ _ _ h.cell]; rfl
  have lp := lt_of_heap h.cell
  generalize L.length = n at HC q
  clear h hl
  go_enter Tryz.func51, Tryz.ntmps51
  go_wp2_with fail
  refine HC.out.mono ?_
  rintro e w1 ⟨rfl, hb⟩
  have HB := Lib.hid hb
  clear hb
  go_wp2_with fail
  refine bodyPost_ret (v := .tuple #[.int .i64 (posOf L k : Nat), .bool (hasK L k)]) (by simp [results, Tryz.results51, go_sem]) rfl ⟨rfl, HB.out⟩
end Go.Proofs.YtaifmfnmgnmgbaaGreatDoor
