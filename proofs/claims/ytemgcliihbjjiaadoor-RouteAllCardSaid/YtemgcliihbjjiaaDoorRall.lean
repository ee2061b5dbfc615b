/- RouteAll: the walk. -/
import Derived.Test.YtemgcliihbjjiaaDoorRlaw1
namespace Go.Proofs.YtemgcliihbjjiaaDoor
open Go.RowKit Go.My

def AllIs (w : World) (r x : Nat) (l : List Pc) (k : ByteArray) (u : Int) (d : Nat) (W : World) : Prop :=
  ∃ L, RtOwn w r L W ∧ (ow pc0 L k).ep = (ow pc0 l k).ep + d ∧ (ow pc0 L k).fr = (ow pc0 l k).fr ∧ (0 < d → (ow pc0 L k).sh = u) ∧ w.heap.size ≤ x ∧ W.heap[x]? = some (.cells #[.string (ow pc0 l k).fr, .int .i64 (ow pc0 l k).sh, .int .i64 (ow pc0 l k).ep] 35 (0, 0))
theorem all_step {w W : World} {r x : Nat} {l : List Pc} {k : ByteArray} {u : Int} {d : Nat} (h : AllIs w r x l k u d W) : Calls Tryd.prog 11 #[.pointer (some ⟨r, 0, none⟩), .string ⟨#[]⟩, .string ⟨#[]⟩, .int .i64 u] W fun e w' => ∃ b : Bool, (b = true → e = .returned .nilIface) ∧ (b = false → ∃ T v, e = .returned (.iface T v)) ∧ AllIs w r x l k u (if b then d + 1 else d) w' := by
  obtain ⟨L, ho, h1, h2, h3, h4, h5⟩ := h
  refine (own_move ho ByteArray.empty ByteArray.empty u).mono ?_
  rintro e w' ⟨he, ho', hw⟩
  have hc : w'.heap[x]? = _ := hw.heap h5 (by
    intro hm
    obtain rfl : x = r := by simpa using hm
    obtain ⟨c, hc⟩ := ho.type
    rw [h5] at hc
    cases hc)
  cases hq : moveErr L ByteArray.empty ByteArray.empty u with
  | none =>
    refine ⟨true, (fun _ => by rw [he, hq]; rfl), (fun h => by cases h), _, ho', ?_, ?_, fun _ => ?_, h4, hc⟩
    · rw [(moved_in ho.ok hq (all_in k)).2, h1]
      simp
      omega
    · rw [all_from ho.ok hq, h2]
    · exact (moved_in ho.ok hq (all_in k)).1
  | some q =>
    refine ⟨false, fun h => (by cases h), fun _ => ?_, L, ?_, h1, h2, h3, h4, hc⟩
    · obtain ⟨T, v, hE⟩ := errQ_some (o := moveErr L ByteArray.empty ByteArray.empty u) (by rw [hq]; simp)
      exact ⟨T, v, by rw [he, hE]⟩
    · rw [moveL_some hq] at ho'
      exact ho'
set_option maxRecDepth 100000 in
set_option maxHeartbeats 3200000 in
theorem all_4 (a : Option Addr) (cap : Nat) (l : List Pc) (sh ti : Int) (k : ByteArray) (w : World) (hg : TypeIs w) (hs : SrcAny w a cap l) (hl : (l.length : Int) ≤ 70368744177664) (hsh : 0 ≤ sh ∧ sh ≤ 255) (hti : 0 ≤ ti ∧ ti ≤ 255) :
    Calls Tryd.prog 4 #[.slice a l.length cap, .int .u8 sh, .int .u8 ti, .string k] w fun e w' => e = .returned (.bool true) ∧ Below w.heap.size w w' := by
  have HH := Lib.hid (head_9 w hg)
  have HS := Lib.hid hs
  have HOF : Hid (∀ W, Below w.heap.size w W → Calls Tryd.prog 10 #[.slice a l.length cap] W (OfLeft W l)) := fun W hb => of_10 a cap l W (HS.out.below hb) hl
  obtain ⟨h1, h2⟩ := hsh
  obtain ⟨h3, h4⟩ := hti
  obtain ⟨n, hn⟩ : ∃ n, n = l.length := ⟨_, rfl⟩
  rw [← hn] at HOF ⊢
  clear hg hs hl hn
  go_enter Tryd.func4, Tryd.ntmps4
  go_wp2_with fail
  refine HH.out.mono ?_
  rintro e w1 ⟨rfl, hb⟩
  have HB1 := Lib.hid hb
  clear hb
  go_wp2_with fail
  refine (HOF.out _ HB1.out).mono ?_
  rintro e w2 h
  cases ho : ofErr l with
  | some q =>
    obtain ⟨rfl, hb⟩ := own_of_err h ho
    have HB2 := Lib.hid (HB1.out.trans (hb.mono HB1.out.size))
    obtain ⟨T, v, hE⟩ := errOf_form q.1 [(routeW, q.2)]
    rw [show rErr q.1 q.2 = .iface T v from hE]
    clear hb h ho hE
    go_wp2_with fail
    go_ret
    exact ⟨rfl, HB2.out⟩
  | none =>
    obtain ⟨r, rfl, hown, hb⟩ := own_of h HB1.out ho
    have HO2 := Lib.hid hown
    have HOW := Lib.hid (own_owner hown k)
    clear hb h ho hown
    obtain ⟨x0, hx0⟩ : ∃ x, x = ow pc0 l k := ⟨_, rfl⟩
    rw [← hx0] at HOW
    have HX0 := Lib.hid hx0
    clear hx0
    go_wp2_with fail
    refine HOW.out.mono ?_
    rintro e w3 ⟨rfl, hown, hb⟩
    obtain ⟨w4, hw4⟩ : ∃ w4, w4 = w3.alloc (.cells #[.string x0.fr, .int .i64 x0.sh, .int .i64 x0.ep] 35) := ⟨_, rfl⟩
    obtain ⟨xb, hxb⟩ : ∃ x, x = w3.heap.size := ⟨_, rfl⟩
    have hb4 : Below w3.heap.size w3 w4 := by rw [hw4]; exact (Below.refl _ w3).alloc (Nat.le_refl _) _
    have hc4 : w4.heap[xb]? = some (.cells #[.string x0.fr, .int .i64 x0.sh, .int .i64 x0.ep] 35 (0, 0)) := by rw [hw4, hxb]; exact heap_alloc_new w3 _
    have P0 : Hid (AllIs w r xb l k (sh % 4) 0 w4) := ⟨l, hown.below hb4, by omega, rfl, fun h => by omega, by rw [hxb]; exact hown.2.1.size, by rw [← HX0.out]; exact hc4⟩
    clear hown hb hb4 hc4
    go_wp2_with fail
    rw [← hw4, ← hxb]
    clear hw4 hxb
    have h5 : 0 ≤ ti % 20 := by omega
    have h6 : ti % 20 < 20 := by omega
    obtain ⟨m, hm⟩ : ∃ m : Nat, ti % 20 = (m : Int) := ⟨(ti % 20).toNat, by omega⟩
    have hm9 : (m : Int) < 20 := by omega
    have hs0 : 0 ≤ sh % 4 := by omega
    have hs4 : sh % 4 < 4 := by omega
    clear h5 h6
    go_loopw [14, 15] (fun d i wr => ∃ dn j : Nat, dn ≤ j ∧ j ≤ m ∧ d = .int .i64 dn ∧ i = .int .i64 j ∧ Hid (AllIs w r xb l k (sh % 4) dn wr)) (fun _ i _ => m - (intOf i).toNat)
    case atStart => exact ⟨0, 0, by omega, by omega, rfl, rfl, P0⟩
    case round =>
      clear P0
      obtain ⟨dn, j, hdj, hjm, rfl, rfl, HI⟩ := hrel
      have hd9 : (dn : Int) ≤ 20 := by omega
      have hj9 : (j : Int) ≤ 20 := by omega
      by_cases hlt : j < m
      · have hlt1 : (j : Int) < (m : Int) := by omega
        have HC := Lib.hid (all_step HI.out)
        go_wp2_with fail
        refine HC.out.mono ?_
        rintro e w5 ⟨b, hbt, hbf, hall⟩
        cases b with
        | true =>
          obtain rfl := hbt rfl
          have HA := Lib.hid hall
          clear hbt hbf hall
          go_wp2_with fail
          exact ⟨⟨dn + 1, j + 1, by omega, by omega, by simp, by simp, HA⟩, by simp [intOf]; omega⟩
        | false =>
          obtain ⟨T, v, rfl⟩ := hbf rfl
          have HA := Lib.hid hall
          clear hbt hbf hall
          go_wp2_with fail
          exact ⟨⟨dn, j + 1, by omega, by omega, by simp, by simp, HA⟩, by simp [intOf]; omega⟩
      · obtain rfl : j = m := by omega
        obtain ⟨L, ho, i1, i2, i3, i4, i5⟩ := HI.out
        have HOW := Lib.hid (own_owner ho k)
        obtain ⟨y, hy⟩ : ∃ x, x = ow pc0 L k := ⟨_, rfl⟩
        obtain ⟨x0, hx0⟩ : ∃ x, x = ow pc0 l k := ⟨_, rfl⟩
        rw [← hy] at HOW i1 i2 i3
        rw [← hx0] at i1 i2 i5
        have HX := Lib.hid i5
        have HEP : Hid (IntKind.i64.wrap (x0.ep + (dn : Int)) = y.ep) := by
          show _ = _
          have hy2 := ho.ok.fit y (by rw [hy]; exact ow_ok_mem ho.ok k)
          unfold fitB at hy2
          simp only [Bool.and_eq_true, decide_eq_true_eq] at hy2
          rw [← i1]
          exact IntWalk.i64_in _ (by omega)
        have I2 := Lib.hid i2
        have I1 := Lib.hid i1
        have I3 := Lib.hid i3
        clear HI ho hy hx0 i1 i2 i3 i4 i5
        go_wp2_with fail
        refine HOW.out.mono ?_
        rintro e w5 ⟨rfl, hown, hb⟩
        have hc := (hb.block _ (lt_of_heap HX.out)).trans HX.out
        have x1 : w5.cell? ⟨xb, 0, none⟩ = some (.string x0.fr) := by rw [cell_of_row _ _ _ _ _ _ hc]; rfl
        have x2 : w5.cell? ⟨xb, 2, none⟩ = some (.int .i64 x0.ep) := by rw [cell_of_row _ _ _ _ _ _ hc]; rfl
        have lx := lt_of_heap hc
        have HE : Hid (∀ o, Below w.heap.size w (w5.alloc o)) := fun o => hown.2.1.alloc hown.2.1.size o
        have hfr : y.fr = x0.fr := I2.out
        have hep := HEP.out
        clear hown hb hc
        by_cases hd : 0 < dn
        · have hd1 : (0 : Int) < (dn : Int) := by omega
          have hsh := I3.out hd
          clear hd
          go_wp2_with fail
          go_ret
          exact ⟨rfl, HE.out _⟩
        · obtain rfl : dn = 0 := by omega
          have hep2 : IntKind.i64.wrap x0.ep = y.ep := by simpa using HEP.out
          have hep3 : y.ep = x0.ep := by simpa using I1.out
          have hep4 : IntKind.i64.wrap y.ep = y.ep := by rw [← hep3] at hep2; exact hep2
          rw [← hep3] at x2
          clear hep hep2 hep3
          go_wp2_with fail
          go_ret
          exact ⟨rfl, HE.out _⟩
end Go.Proofs.YtemgcliihbjjiaaDoor
