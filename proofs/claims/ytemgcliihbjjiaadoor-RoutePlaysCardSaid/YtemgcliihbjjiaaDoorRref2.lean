/- The document's route: a range in one piece; pieces cut; errors told. -/
import Derived.Test.YtemgcliihbjjiaaDoorRref1
import Derived.Test.YtemgcliihbjjiaaDoorAs4
namespace Go.Proofs.YtemgcliihbjjiaaDoor
open Go.RowKit Go.My

theorem one_doc {l : List Pc} (h : Ok l) {f t : ByteArray} (hr : rangedB f t = true) : oneB l f t = !(decide (pl l f + 1 < l.length) && (decide (t.size = 0) || lessK (l.getD (pl l f + 1) pc0).fr t)) := by
  obtain ⟨P, o, os, S, p⟩ := parts_of h (ranged_lt hr)
  have h1 : oneB l f t = decide (os.length = 0) := by
    unfold oneB
    rw [hr, p.e, p.i]
    simp
  have h2 : l.length = P.length + (os.length + 1) + S.length := by rw [p.eq]; simp; omega
  have h3 : l.getD (pl l f + 1) pc0 = (os ++ S).getD 0 pc0 := by
    rw [p.i, List.getD_eq_getElem?_getD, List.getD_eq_getElem?_getD, p.eq, List.append_assoc, List.getElem?_append_right (by omega)]
    simp
  rw [h1, h3, p.i, h2]
  cases os with
  | nil =>
    cases S with
    | nil => simp
    | cons y S =>
      have h0 : t.size ≠ 0 := fun h0 => by have := p.hE h0; simp at this
      have := p.hS h0 y (by simp)
      simp [h0, this]
  | cons z os =>
    by_cases h0 : t.size = 0
    · simp [h0]
      omega
    · have := p.ht h0 z (by simp)
      simp [this]
      omega
set_option maxRecDepth 100000 in
set_option maxHeartbeats 3200000 in
theorem one_18 (r : Nat) (a : Option Addr) (cap : Nat) (l : List Pc) (f t : ByteArray) (w : World) (h : DtAt w r a cap l) :
    Calls Tryd.prog 18 #[.pointer (some ⟨r, 0, none⟩), .string f, .string t] w (OneLeft w (oneX l f t) (oneB l f t)) := by
  obtain ⟨W0, hW0⟩ : ∃ W0, W0 = w.alloc (.cells #[.string ⟨#[]⟩, .int .i64 0, .int .i64 0] 35) := ⟨_, rfl⟩
  have hb0 : Below w.heap.size w W0 := by rw [hW0]; exact (Below.refl _ w).alloc (Nat.le_refl _) _
  have hr0 : W0.heap[w.heap.size]? = some (.cells #[.string ⟨#[]⟩, .int .i64 0, .int .i64 0] 35 (0, 0)) := by rw [hW0]; exact heap_alloc_new w _
  have hl0 := lt_of_heap hr0
  have r0 : W0.cell? ⟨w.heap.size, 0, none⟩ = some (.string ⟨#[]⟩) := by rw [cell_of_row _ _ _ _ _ _ hr0]; rfl
  have r1 : W0.cell? ⟨w.heap.size, 1, none⟩ = some (.int .i64 0) := by rw [cell_of_row _ _ _ _ _ _ hr0]; rfl
  have r2 : W0.cell? ⟨w.heap.size, 2, none⟩ = some (.int .i64 0) := by rw [cell_of_row _ _ _ _ _ _ hr0]; rfl
  have fz : ∀ i, W0.frozen? ⟨w.heap.size, i, none⟩ = false := fun i => by simp [World.frozen?, hr0]
  have HBX := Lib.hid hb0
  have H0 := h.below hb0
  have HG := Lib.hid (is_38 f t W0)
  have HA := Lib.hid (at_37 r a cap l f W0 H0)
  unfold OneLeft
  obtain ⟨n, hn⟩ : ∃ n, n = l.length := ⟨_, rfl⟩
  obtain ⟨x, hx⟩ : ∃ x, x = ow pc0 l f := ⟨_, rfl⟩
  obtain ⟨j, hj⟩ : ∃ j, j = pl l f := ⟨_, rfl⟩
  have hpg := pl_get h.ok f
  have hjn := pl_lt h.ok f
  have hlen := h.ok.len
  rw [← hj, ← hx] at hpg
  rw [← hj, ← hn] at hjn
  rw [← hj] at HA
  cases hg : rangedB f t with
  | false =>
    have hB : oneB l f t = false := one_ranged hg
    have hX : oneX l f t = pc0 := by unfold oneX; rw [hB]; rfl
    rw [hB, hX]
    rw [hg] at HG
    unfold pcA pc0
    clear h hg hB hX hb0 hr0 H0 hn hx hj hpg hjn hlen
    go_enter Tryd.func18, Tryd.ntmps18
    go_wp2_with fail
    rw [← hW0]
    clear hW0
    refine HA.out.mono ?_
    rintro e w1 ⟨rfl, rfl⟩
    go_wp2_with fail
    refine HG.out.mono ?_
    rintro e w1 ⟨rfl, rfl⟩
    go_wp2_with fail
    refine bodyPost_ret (v := .tuple #[.agg #[.string ⟨#[]⟩, .int .i64 0, .int .i64 0], .bool false]) (by simp [results, Tryd.results18, go_sem, r0, r1, r2]) rfl ⟨rfl, ?_⟩
    have hb := HBX.out
    go_grown
  | true =>
    have hdoc := one_doc h.ok hg
    rw [← hj, ← hn] at hdoc
    have c0 := H0.c0
    rw [← hn] at c0
    have lr := lt_of_heap H0.cell
    rw [hg] at HG
    obtain ⟨g, o, rfl, lg, hc⟩ := H0.src.lies j x hpg
    have d0 : W0.cell? ⟨g, o + j * 3, none⟩ = some (.string x.fr) := hc 0 _ rfl
    have d1 : W0.cell? ⟨g, o + j * 3 + 1, none⟩ = some (.int .i64 x.sh) := hc 1 _ rfl
    have d2 : W0.cell? ⟨g, o + j * 3 + 2, none⟩ = some (.int .i64 x.ep) := hc 2 _ rfl
    have hj1 : (j : Int) < (n : Int) := by omega
    have hj0 : (0 : Int) ≤ (j : Int) := by omega
    have hn9 : (n : Int) ≤ 32 := by omega
    have hjp : (0 : Int) ≤ (j : Int) + 1 := by omega
    have HSR := Lib.hid H0.src
    by_cases hlt : j + 1 < n
    · have hlt1 : (j : Int) + 1 < (n : Int) := by omega
      obtain ⟨y, hy⟩ : ∃ y, l[j + 1]? = some y := ⟨_, List.getElem?_eq_getElem (by rw [← hn]; exact hlt)⟩
      obtain ⟨g', o', e1, _, hc2⟩ := H0.src.lies (j + 1) y hy
      obtain ⟨rfl, rfl⟩ : g = g' ∧ o = o' := by simpa using e1
      have y0 : W0.cell? ⟨g, o + (j + 1) * 3, none⟩ = some (.string y.fr) := hc2 0 _ rfl
      rw [getD_of hy, decide_eq_true hlt, Bool.true_and] at hdoc
      by_cases h0 : t.size = 0
      · have hB : oneB l f t = false := by rw [hdoc]; simp [h0]
        have hX : oneX l f t = pc0 := by unfold oneX; rw [hB]; rfl
        rw [hB, hX]
        obtain rfl := size_empty h0
        unfold pcA pc0
        clear h hg hB hX hb0 hr0 H0 hn hx hj hpg hjn hlen hdoc hc hc2 e1 hy h0 hlt
        go_enter Tryd.func18, Tryd.ntmps18
        go_wp2_with fail
        rw [← hW0]
        clear hW0
        refine HA.out.mono ?_
        rintro e w1 ⟨rfl, rfl⟩
        go_wp2_with fail
        refine HG.out.mono ?_
        rintro e w1 ⟨rfl, rfl⟩
        go_wp2_with fail
        refine bodyPost_ret (v := .tuple #[.agg #[.string ⟨#[]⟩, .int .i64 0, .int .i64 0], .bool false]) (by simp [results, Tryd.results18, go_sem, r0, r1, r2]) rfl ⟨rfl, ?_⟩
        have hb := HBX.out
        go_grown
      · have e4 := empty_ne h0
        cases h2 : lessK y.fr t with
        | true =>
          have hB : oneB l f t = false := by rw [hdoc, h2]; simp
          have hX : oneX l f t = pc0 := by unfold oneX; rw [hB]; rfl
          rw [hB, hX]
          have b2 : Op.bytesLess y.fr.toList t.toList = true := h2
          unfold pcA pc0
          clear h hg hB hX hb0 hr0 H0 hn hx hj hpg hjn hlen hdoc hc hc2 e1 hy h0 hlt h2
          go_enter Tryd.func18, Tryd.ntmps18
          go_wp2_with fail
          rw [← hW0]
          clear hW0
          refine HA.out.mono ?_
          rintro e w1 ⟨rfl, rfl⟩
          go_wp2_with fail
          refine HG.out.mono ?_
          rintro e w1 ⟨rfl, rfl⟩
          go_wp2_with fail
          refine bodyPost_ret (v := .tuple #[.agg #[.string ⟨#[]⟩, .int .i64 0, .int .i64 0], .bool false]) (by simp [results, Tryd.results18, go_sem, r0, r1, r2]) rfl ⟨rfl, ?_⟩
          have hb := HBX.out
          go_grown
        | false =>
          have hB : oneB l f t = true := by rw [hdoc, h2]; simp [h0]
          have hX : oneX l f t = x := by rw [oneX_in hB, hx]
          rw [hB, hX]
          have b2 : Op.bytesLess y.fr.toList t.toList = false := h2
          unfold pcA
          clear h hg hB hX hb0 hr0 H0 hn hx hj hpg hjn hlen hdoc hc hc2 e1 hy h0 hlt h2
          go_enter Tryd.func18, Tryd.ntmps18
          go_wp2_with fail
          rw [← hW0]
          clear hW0
          refine HA.out.mono ?_
          rintro e w1 ⟨rfl, rfl⟩
          go_wp2_with fail
          refine HG.out.mono ?_
          rintro e w1 ⟨rfl, rfl⟩
          go_wp2_with fail
          refine bodyPost_ret (v := .tuple #[.agg #[.string x.fr, .int .i64 x.sh, .int .i64 x.ep], .bool true]) (by simp [results, Tryd.results18, go_sem, r0, r1, r2]) rfl ⟨rfl, ?_⟩
          have hb := HBX.out
          go_grown
    · have hlt1 : ¬ (j : Int) + 1 < (n : Int) := by omega
      have hB : oneB l f t = true := by rw [hdoc]; simp [hlt]
      have hX : oneX l f t = x := by rw [oneX_in hB, hx]
      rw [hB, hX]
      unfold pcA
      clear h hg hB hX hb0 hr0 H0 hn hx hj hpg hjn hlen hdoc hc hlt
      go_enter Tryd.func18, Tryd.ntmps18
      go_wp2_with fail
      rw [← hW0]
      clear hW0
      refine HA.out.mono ?_
      rintro e w1 ⟨rfl, rfl⟩
      go_wp2_with fail
      refine HG.out.mono ?_
      rintro e w1 ⟨rfl, rfl⟩
      go_wp2_with fail
      refine bodyPost_ret (v := .tuple #[.agg #[.string x.fr, .int .i64 x.sh, .int .i64 x.ep], .bool true]) (by simp [results, Tryd.results18, go_sem, r0, r1, r2]) rfl ⟨rfl, ?_⟩
      have hb := HBX.out
      go_grown

/-! ### steps told -/
def stL (s : StepT) : List Value := [.string s.1, .int .i64 s.2]
set_option maxRecDepth 100000 in
set_option maxHeartbeats 1600000 in
theorem same_35 (a b : Option Addr) (n c d : Nat) (R : List StepT) (w : World) (ha : Lies w a 2 stL R) (hb : Lies w b 2 stL R) (hn : n = R.length) (hl : (n : Int) ≤ 70368744177664) :
    Calls Tryd.prog 35 #[.slice a n c, .slice b n d] w (BoolLeft w true) := by
  have HA := Lib.hid ha
  have HB := Lib.hid hb
  have HN := Lib.hid hn
  have P0 : Hid (Below w.heap.size w w) := Below.refl _ _
  clear ha hb hn
  go_enter Tryd.func35, Tryd.ntmps35
  go_wp2_with fail
  go_loopw [5] (fun i wr => ∃ j : Nat, j ≤ n ∧ i = .int .i64 j ∧ Hid (Below w.heap.size w wr)) (fun i _ => n - (intOf i).toNat)
  case atStart => exact ⟨0, by omega, rfl, P0⟩
  case round =>
    clear P0
    obtain ⟨j, hj, rfl, HW⟩ := hrel
    by_cases hlt : j < n
    · obtain ⟨x, hx⟩ : ∃ x, R[j]? = some x := ⟨_, List.getElem?_eq_getElem (by rw [← HN.out]; exact hlt)⟩
      obtain ⟨g, o, rfl, hg, hc⟩ := HA.out.below HW.out j x hx
      obtain ⟨g2, o2, rfl, hg2, hc2⟩ := HB.out.below HW.out j x hx
      have d0 : wr.cell? ⟨g, o + j * 2, none⟩ = some (.string x.1) := hc 0 _ rfl
      have d1 : wr.cell? ⟨g, o + j * 2 + 1, none⟩ = some (.int .i64 x.2) := hc 1 _ rfl
      have e0 : wr.cell? ⟨g2, o2 + j * 2, none⟩ = some (.string x.1) := hc2 0 _ rfl
      have e1 : wr.cell? ⟨g2, o2 + j * 2 + 1, none⟩ = some (.int .i64 x.2) := hc2 1 _ rfl
      have hj0 : (0 : Int) ≤ (j : Int) := by omega
      have hj1 : (j : Int) < (n : Int) := by omega
      have HD : Hid (∀ q, Below w.heap.size w (wr.drewN q)) := fun q => ⟨HW.out.os, HW.out.tape, HW.out.output, HW.out.size, HW.out.block⟩
      clear hc hc2 hx
      go_wp2_with fail
      go_quiet (fail)
      go_wp2_with fail
      exact ⟨⟨j + 1, by omega, by simp, HD.out _⟩, by simp [intOf]; omega⟩
    · obtain rfl : j = n := by omega
      go_wp2_with fail
      go_ret
      exact ⟨rfl, HW.out⟩
theorem trail_lies {w : World} {base : Nat} {a : Option Addr} {n cap : Nat} {L : List StepT} (h : w.ownsRow base 75 2 (.slice a n cap) n (L.flatMap stepL)) (hn : n = L.length) : Lies w a 2 stL L := by
  intro i x hi
  have hlt := (List.getElem?_eq_some_iff.1 hi).1
  obtain ⟨g, rfl, h1, h2⟩ := row_pos h (by omega)
  refine ⟨g, 0, rfl, h2, fun j v hj => ?_⟩
  have hj3 : j < 2 := (List.getElem?_eq_some_iff.1 hj).1
  rw [Nat.zero_add, row_cell h stepL_len hn hi hj3]
  exact hj
def errE (o : Option (Int × Int)) : Int := (o.map (·.1)).getD 0
def errA (o : Option (Int × Int)) : Int := (o.map (·.2)).getD 0
set_option maxRecDepth 100000 in
set_option maxHeartbeats 1600000 in
theorem told_17 (o : Option (Int × Int)) (w : World) (hg : TypeIs w) (ho : ∀ q, o = some q → q.1 ≠ 0) : Calls Tryd.prog 17 #[errQ o, .int .i64 (errE o), .int .i64 (errA o)] w (BoolLeft w true) := by
  cases o with
  | none =>
    show Calls _ _ #[.nilIface, .int .i64 0, .int .i64 0] _ _
    have HB : Hid (Below w.heap.size w w) := Below.refl _ _
    clear ho
    go_enter Tryd.func17, Tryd.ntmps17
    go_wp2_with fail
    go_ret
    exact ⟨rfl, HB.out⟩
  | some q =>
    obtain ⟨e, p⟩ := q
    have he := ho _ rfl
    show Calls _ _ #[rErr e p, .int .i64 e, .int .i64 p] _ _
    have HG := Lib.hid hg
    have HC := Lib.hid (code_of e [(routeW, p)] w hg)
    have HT : Hid (∀ W, Below w.heap.size w W → Calls Tryd.prog 36 #[rErr e p] W (TrailLeft W [(routeW, p)])) := fun W hW => trail_of e [(routeW, p)] W (HG.out.below HG.out.lt hW) (by simp)
    obtain ⟨T, v, hE⟩ := errOf_form e [(routeW, p)]
    have hE : rErr e p = .iface T v := hE
    rw [hE] at HT ⊢
    rw [show errOf e [(routeW, p)] = rErr e p from rfl, hE] at HC
    have h1 : (e == 0) = false := by simpa using he
    have h2 : (e == e) = true := by simp
    clear hg he ho hE
    go_enter Tryd.func17, Tryd.ntmps17
    go_wp2_with fail
    refine HC.out.mono ?_
    rintro r w1 ⟨rfl, hb⟩
    have HB1 := Lib.hid hb
    clear hb
    go_wp2_with fail
    refine (HT.out w1 HB1.out).mono ?_
    rintro r w2 ⟨u, rfl, hrow, hb⟩
    obtain ⟨ra, rc, rfl, -⟩ := row_form hrow
    obtain ⟨w3, hw3⟩ : ∃ w3, w3 = w2.alloc (.cells #[.string ⟨#[114, 111, 117, 116, 101]⟩, .int .i64 p] 75) := ⟨_, rfl⟩
    have hb3 : Below w2.heap.size w2 w3 := by rw [hw3]; exact (Below.refl _ w2).alloc (Nat.le_refl _) _
    have hr3 : w3.heap[w2.heap.size]? = some (.cells #[.string ⟨#[114, 111, 117, 116, 101]⟩, .int .i64 p] 75 (0, 0)) := by rw [hw3]; exact heap_alloc_new w2 _
    have HSA := Lib.hid (same_35 ra (some ⟨w2.heap.size, 0, none⟩) 1 rc 1 [(routeW, p)] w3 ((trail_lies hrow rfl).below hb3) (fun i x hi => by
      match i, hi with
      | 0, hi =>
        obtain rfl : (routeW, p) = x := by simpa using hi
        refine ⟨_, 0, rfl, lt_of_heap hr3, fun j v hj => ?_⟩
        rw [cell_of_row _ _ _ _ _ _ hr3]
        simp only [Nat.zero_mul, Nat.zero_add]
        simpa [stL, routeW] using hj
      | i + 1, hi => simp at hi) rfl (by omega))
    have HB3 := Lib.hid (HB1.out.trans ((hb.trans (hb3.mono hb.size)).mono HB1.out.size))
    rw [show ([(routeW, p)] : List StepT).length = 1 from rfl]
    clear hrow hb hb3 hr3
    go_wp2_with fail
    rw [← hw3]
    clear hw3
    refine HSA.out.mono ?_
    rintro r w4 ⟨rfl, hb⟩
    have HB4 := Lib.hid (HB3.out.trans (hb.mono HB3.out.size))
    clear hb
    go_wp2_with fail
    go_ret
    exact ⟨rfl, HB4.out⟩
end Go.Proofs.YtemgcliihbjjiaaDoor
