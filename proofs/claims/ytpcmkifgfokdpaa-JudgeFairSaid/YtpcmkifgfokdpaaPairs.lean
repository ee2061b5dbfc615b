/- A judge: the search through all pairs of members. -/
import Derived.Test.YtpcmkifgfokdpaaOnes
namespace Go.Proofs.Ytpcmkifgfokdpaa
open Go.RowKit Go.My Go.My.Model Go.Deep
set_option maxRecDepth 100000 in
set_option maxHeartbeats 3200000 in
theorem pair_20 (fault : Int) (L : List One) (w : World) (pa pi pf : Nat) (aa : Option Addr) (cap : Nat) (ha : w.heap[pa]? = some (.cells #[.slice aa L.length cap] 63 (0, 0))) (hi : w.heap[pi]? = some (.cells #[.func (.func 20) #[] #[]] 66 (0, 0))) (hf : w.heap[pf]? = some (.cells #[.int .i64 fault] 3 (0, 0)))
    (hL : Lies w aa 13 oneL L) (hs : ∀ x ∈ L, SeenIn w x.s ∧ Few x.s) (hn9 : L.length ≤ 1000) :
    Calls Try.prog 14 #[.pointer (some ⟨pa, 0, none⟩), .pointer (some ⟨pi, 0, none⟩), .pointer (some ⟨pf, 0, none⟩)] w (PairLeft w fault L ranB) := by
  have HL := Lib.hid hL
  have HS := Lib.hid hs
  have HPA := Lib.hid ha
  have HPI := Lib.hid hi
  have HPF := Lib.hid hf
  obtain ⟨n, hn⟩ : ∃ n, n = L.length := ⟨_, rfl⟩
  have HN := Lib.hid hn
  have hn8 : (n : Int) ≤ 1000 := by omega
  rw [← hn] at HPA
  have la := lt_of_heap ha
  have li := lt_of_heap hi
  have lf := lt_of_heap hf
  obtain ⟨W0, hW0⟩ : ∃ W0, W0 = w.alloc (.cells #[.int .i64 0, .int .i64 0, .int .i64 0] 31) := ⟨_, rfl⟩
  have HW0 := Lib.hid hW0
  have HB0 : Hid (Below w.heap.size w W0) := by show Below _ _ _; rw [hW0]; exact (Below.refl _ w).alloc (Nat.le_refl _) _
  have HR0 : Hid (W0.heap[w.heap.size]? = some (.cells #[.int .i64 0, .int .i64 0, .int .i64 0] 31 (0, 0))) := by show _ = _; rw [hW0]; exact heap_alloc_new w _
  have P0 : Hid (Below W0.heap.size W0 W0 ∧ ∀ (a b : Nat) x y, a < 0 → a < b → L[a]? = some x → L[b]? = some y → badB ranB x y = false) := ⟨Below.refl _ _, fun a b x y h => by omega⟩
  have HPQ : Hid (∀ W, Below w.heap.size w W → W.cell? ⟨pa, 0, none⟩ = some (.slice aa n cap) ∧ W.cell? ⟨pi, 0, none⟩ = some (.func (.func 20) #[] #[]) ∧ W.cell? ⟨pf, 0, none⟩ = some (.int .i64 fault)) := fun W hb =>
    ⟨by rw [cell_of_row _ _ _ _ _ _ ((hb.block _ la).trans HPA.out)]; rfl, by rw [cell_of_row _ _ _ _ _ _ ((hb.block _ li).trans HPI.out)]; rfl, by rw [cell_of_row _ _ _ _ _ _ ((hb.block _ lf).trans HPF.out)]; rfl⟩
  obtain ⟨w0, hw0⟩ : ∃ w0, w0 = w := ⟨_, rfl⟩
  have q1 : w.cell? ⟨pa, 0, none⟩ = some (.slice aa n cap) := (HPQ.out w (Below.refl _ _)).1
  clear hL hs ha hi hf hn hn9 hw0
  go_enter Try.func14, Try.ntmps14
  go_wp2_with fail
  rw [← HW0.out]
  clear hW0
  go_loopw [8] (fun i wr => ∃ j : Nat, j ≤ n ∧ i = .int .i64 j ∧ Hid (Below W0.heap.size W0 wr ∧ ∀ (a b : Nat) x y, a < j → a < b → L[a]? = some x → L[b]? = some y → badB ranB x y = false)) (fun i _ => n - (intOf i).toNat)
  case atStart => exact ⟨0, by omega, rfl, P0⟩
  case round =>
    clear P0 q1
    obtain ⟨j, hj, rfl, HP⟩ := hrel
    by_cases hlt : j < n
    · have hj0 : (0 : Int) ≤ (j : Int) := by omega
      have hj1 : (j : Int) < (n : Int) := by omega
      have P1 : Hid (Below W0.heap.size W0 wr ∧ ∀ (b : Nat) x y, j < b → b < j + 1 → L[j]? = some x → L[b]? = some y → badB ranB x y = false) := ⟨HP.out.1, fun b x y h1 h2 => by omega⟩
      go_wp2_with fail
      go_loopw [5] (fun i W => ∃ m : Nat, j + 1 ≤ m ∧ m ≤ n ∧ i = .int .i64 m ∧ Hid (Below W0.heap.size W0 W ∧ ∀ (b : Nat) x y, j < b → b < m → L[j]? = some x → L[b]? = some y → badB ranB x y = false)) (fun i _ => n - (intOf i).toNat)
      case atStart => exact ⟨j + 1, by omega, by omega, by simp, P1⟩
      case round =>
        clear P1
        obtain ⟨m, hm0, hm, rfl, HV⟩ := hrel
        have HBW : Hid (Below w.heap.size w wr) := HB0.out.trans (HV.out.1.mono HB0.out.size)
        obtain ⟨q1, q2, q3⟩ := HPQ.out _ HBW.out
        have la2 : pa < wr.heap.size := Nat.lt_of_lt_of_le la HBW.out.size
        have li2 : pi < wr.heap.size := Nat.lt_of_lt_of_le li HBW.out.size
        have lf2 : pf < wr.heap.size := Nat.lt_of_lt_of_le lf HBW.out.size
        by_cases hlm : m < n
        · obtain ⟨x, hx⟩ : ∃ x, L[j]? = some x := ⟨_, List.getElem?_eq_getElem (by rw [← HN.out]; exact hlt)⟩
          obtain ⟨y, hy⟩ : ∃ y, L[m]? = some y := ⟨_, List.getElem?_eq_getElem (by rw [← HN.out]; exact hlm)⟩
          obtain ⟨g, o, rfl, hg, uc⟩ := HL.out.below HBW.out j x hx
          obtain ⟨g', o', hgg, _, vc⟩ := HL.out.below HBW.out m y hy
          obtain ⟨rfl, rfl⟩ : g = g' ∧ o = o' := by simpa using hgg
          have u0 : ∀ X : Later wr, X.1.cell? ⟨g, o + j * 13, none⟩ = some (.int .i64 x.group) := fun X => (X.2.cell (p := ⟨g, _, none⟩) hg).trans (uc 0 _ rfl)
          have u1 : ∀ X : Later wr, X.1.cell? ⟨g, o + j * 13 + 1, none⟩ = some (.int .i64 x.s.view) := fun X => (X.2.cell (p := ⟨g, _, none⟩) hg).trans (uc 1 _ rfl)
          have u2 : ∀ X : Later wr, X.1.cell? ⟨g, o + j * 13 + 2, none⟩ = some (.bool x.s.normal) := fun X => (X.2.cell (p := ⟨g, _, none⟩) hg).trans (uc 2 _ rfl)
          have u3 : ∀ X : Later wr, X.1.cell? ⟨g, o + j * 13 + 3, none⟩ = some (.int .i64 x.s.done) := fun X => (X.2.cell (p := ⟨g, _, none⟩) hg).trans (uc 3 _ rfl)
          have u4 : ∀ X : Later wr, X.1.cell? ⟨g, o + j * 13 + 4, none⟩ = some (.int .i64 x.s.stable) := fun X => (X.2.cell (p := ⟨g, _, none⟩) hg).trans (uc 4 _ rfl)
          have u5 : ∀ X : Later wr, X.1.cell? ⟨g, o + j * 13 + 5, none⟩ = some (.int .i64 x.s.pending) := fun X => (X.2.cell (p := ⟨g, _, none⟩) hg).trans (uc 5 _ rfl)
          have u6 : ∀ X : Later wr, X.1.cell? ⟨g, o + j * 13 + 6, none⟩ = some (.slice x.s.ranS.a x.s.ranS.n x.s.ranS.cap) := fun X => (X.2.cell (p := ⟨g, _, none⟩) hg).trans (uc 6 _ rfl)
          have u7 : ∀ X : Later wr, X.1.cell? ⟨g, o + j * 13 + 7, none⟩ = some (.slice x.s.saysS.a x.s.saysS.n x.s.saysS.cap) := fun X => (X.2.cell (p := ⟨g, _, none⟩) hg).trans (uc 7 _ rfl)
          have u8 : ∀ X : Later wr, X.1.cell? ⟨g, o + j * 13 + 8, none⟩ = some (.slice x.s.recsS.a x.s.recsS.n x.s.recsS.cap) := fun X => (X.2.cell (p := ⟨g, _, none⟩) hg).trans (uc 8 _ rfl)
          have u9 : ∀ X : Later wr, X.1.cell? ⟨g, o + j * 13 + 9, none⟩ = some (.slice x.s.entsS.a x.s.entsS.n x.s.entsS.cap) := fun X => (X.2.cell (p := ⟨g, _, none⟩) hg).trans (uc 9 _ rfl)
          have u10 : ∀ X : Later wr, X.1.cell? ⟨g, o + j * 13 + 10, none⟩ = some (.slice x.s.heldS.a x.s.heldS.n x.s.heldS.cap) := fun X => (X.2.cell (p := ⟨g, _, none⟩) hg).trans (uc 10 _ rfl)
          have u11 : ∀ X : Later wr, X.1.cell? ⟨g, o + j * 13 + 11, none⟩ = some (.slice x.s.piecesS.a x.s.piecesS.n x.s.piecesS.cap) := fun X => (X.2.cell (p := ⟨g, _, none⟩) hg).trans (uc 11 _ rfl)
          have u12 : ∀ X : Later wr, X.1.cell? ⟨g, o + j * 13 + 12, none⟩ = some (.slice x.s.movesS.a x.s.movesS.n x.s.movesS.cap) := fun X => (X.2.cell (p := ⟨g, _, none⟩) hg).trans (uc 12 _ rfl)
          have v0 : ∀ X : Later wr, X.1.cell? ⟨g, o + m * 13, none⟩ = some (.int .i64 y.group) := fun X => (X.2.cell (p := ⟨g, _, none⟩) hg).trans (vc 0 _ rfl)
          have v1 : ∀ X : Later wr, X.1.cell? ⟨g, o + m * 13 + 1, none⟩ = some (.int .i64 y.s.view) := fun X => (X.2.cell (p := ⟨g, _, none⟩) hg).trans (vc 1 _ rfl)
          have v2 : ∀ X : Later wr, X.1.cell? ⟨g, o + m * 13 + 2, none⟩ = some (.bool y.s.normal) := fun X => (X.2.cell (p := ⟨g, _, none⟩) hg).trans (vc 2 _ rfl)
          have v3 : ∀ X : Later wr, X.1.cell? ⟨g, o + m * 13 + 3, none⟩ = some (.int .i64 y.s.done) := fun X => (X.2.cell (p := ⟨g, _, none⟩) hg).trans (vc 3 _ rfl)
          have v4 : ∀ X : Later wr, X.1.cell? ⟨g, o + m * 13 + 4, none⟩ = some (.int .i64 y.s.stable) := fun X => (X.2.cell (p := ⟨g, _, none⟩) hg).trans (vc 4 _ rfl)
          have v5 : ∀ X : Later wr, X.1.cell? ⟨g, o + m * 13 + 5, none⟩ = some (.int .i64 y.s.pending) := fun X => (X.2.cell (p := ⟨g, _, none⟩) hg).trans (vc 5 _ rfl)
          have v6 : ∀ X : Later wr, X.1.cell? ⟨g, o + m * 13 + 6, none⟩ = some (.slice y.s.ranS.a y.s.ranS.n y.s.ranS.cap) := fun X => (X.2.cell (p := ⟨g, _, none⟩) hg).trans (vc 6 _ rfl)
          have v7 : ∀ X : Later wr, X.1.cell? ⟨g, o + m * 13 + 7, none⟩ = some (.slice y.s.saysS.a y.s.saysS.n y.s.saysS.cap) := fun X => (X.2.cell (p := ⟨g, _, none⟩) hg).trans (vc 7 _ rfl)
          have v8 : ∀ X : Later wr, X.1.cell? ⟨g, o + m * 13 + 8, none⟩ = some (.slice y.s.recsS.a y.s.recsS.n y.s.recsS.cap) := fun X => (X.2.cell (p := ⟨g, _, none⟩) hg).trans (vc 8 _ rfl)
          have v9 : ∀ X : Later wr, X.1.cell? ⟨g, o + m * 13 + 9, none⟩ = some (.slice y.s.entsS.a y.s.entsS.n y.s.entsS.cap) := fun X => (X.2.cell (p := ⟨g, _, none⟩) hg).trans (vc 9 _ rfl)
          have v10 : ∀ X : Later wr, X.1.cell? ⟨g, o + m * 13 + 10, none⟩ = some (.slice y.s.heldS.a y.s.heldS.n y.s.heldS.cap) := fun X => (X.2.cell (p := ⟨g, _, none⟩) hg).trans (vc 10 _ rfl)
          have v11 : ∀ X : Later wr, X.1.cell? ⟨g, o + m * 13 + 11, none⟩ = some (.slice y.s.piecesS.a y.s.piecesS.n y.s.piecesS.cap) := fun X => (X.2.cell (p := ⟨g, _, none⟩) hg).trans (vc 11 _ rfl)
          have v12 : ∀ X : Later wr, X.1.cell? ⟨g, o + m * 13 + 12, none⟩ = some (.slice y.s.movesS.a y.s.movesS.n y.s.movesS.cap) := fun X => (X.2.cell (p := ⟨g, _, none⟩) hg).trans (vc 12 _ rfl)
          have hm1 : (0 : Int) ≤ (m : Int) := by omega
          have hm2 : (m : Int) < (n : Int) := by omega
          have hm3 : (j : Int) < (m : Int) := by omega
          have p1 : ∀ X : Later wr, X.1.cell? ⟨pa, 0, none⟩ = some (.slice (some ⟨g, o, none⟩) n cap) := fun X => (X.2.cell (p := ⟨pa, 0, none⟩) la2).trans q1
          have p2 : ∀ X : Later wr, X.1.cell? ⟨pi, 0, none⟩ = some (.func (.func 20) #[] #[]) := fun X => (X.2.cell (p := ⟨pi, 0, none⟩) li2).trans q2
          have HQ : Hid (∀ X : Later wr, Calls Try.prog 20 #[.agg #[.int .i64 x.group, .int .i64 x.s.view, .bool x.s.normal, .int .i64 x.s.done, .int .i64 x.s.stable, .int .i64 x.s.pending, .slice x.s.ranS.a x.s.ranS.n x.s.ranS.cap, .slice x.s.saysS.a x.s.saysS.n x.s.saysS.cap, .slice x.s.recsS.a x.s.recsS.n x.s.recsS.cap, .slice x.s.entsS.a x.s.entsS.n x.s.entsS.cap, .slice x.s.heldS.a x.s.heldS.n x.s.heldS.cap, .slice x.s.piecesS.a x.s.piecesS.n x.s.piecesS.cap, .slice x.s.movesS.a x.s.movesS.n x.s.movesS.cap], .agg #[.int .i64 y.group, .int .i64 y.s.view, .bool y.s.normal, .int .i64 y.s.done, .int .i64 y.s.stable, .int .i64 y.s.pending, .slice y.s.ranS.a y.s.ranS.n y.s.ranS.cap, .slice y.s.saysS.a y.s.saysS.n y.s.saysS.cap, .slice y.s.recsS.a y.s.recsS.n y.s.recsS.cap, .slice y.s.entsS.a y.s.entsS.n y.s.entsS.cap, .slice y.s.heldS.a y.s.heldS.n y.s.heldS.cap, .slice y.s.piecesS.a y.s.piecesS.n y.s.piecesS.cap, .slice y.s.movesS.a y.s.movesS.n y.s.movesS.cap]] X.1 fun e w' => e = .returned (.bool (ranB x y)) ∧ ∃ Y : Later wr, w' = Y.1) := fun X =>
            later_call (is_20 x y X.1 ((HS.out x (List.mem_of_getElem? hx)).1.below (HBW.out.trans (X.2.mono HBW.out.size))) ((HS.out y (List.mem_of_getElem? hy)).1.below (HBW.out.trans (X.2.mono HBW.out.size))) (HS.out x (List.mem_of_getElem? hx)).2 (HS.out y (List.mem_of_getElem? hy)).2)
          have HX := Lib.hid hx
          have HY := Lib.hid hy
          have HNX : badB ranB x y = false → Hid (∀ X : Later wr, Hid (Below W0.heap.size W0 X.1 ∧ ∀ (b : Nat) x y, j < b → b < m + 1 → L[j]? = some x → L[b]? = some y → badB ranB x y = false)) := fun hb X => ⟨HV.out.1.trans (X.2.mono HV.out.1.size), fun b x' y' h1 h2 h3 h4 => by
            by_cases e : b = m
            · subst e
              rw [HX.out] at h3
              rw [HY.out] at h4
              cases h3
              cases h4
              exact hb
            · exact HV.out.2 b x' y' h1 (by omega) h3 h4⟩
          have HNY := Lib.hid HNX
          clear hx hy uc vc hgg HNX
          cases hgr : decide (0 ≤ min x.group y.group) with
          | false =>
            have HNX := HNY.out (by unfold badB; rw [hgr]; rfl)
            clear HNY
            go_wp2_with fail
            have here := Later.here wr
            refine wp_region_later (by kernel_rfl) (by kernel_rfl) ?_
            iterate 24 (with_reducible refine wpQuiet_step (fun K hK => ?_); go_simp; first | (refine hK _ ?_; clear hK K) | (apply Exists.intro; refine ⟨fun _ => ?_, hK _ ?_⟩; (go_at_call 20; with_reducible exact HQ.out _); clear hK K))
            with_reducible refine wpQuiet_nil ?_
            intro X
            go_wp2_with fail
            exact ⟨⟨m + 1, by omega, by omega, by simp, HNX.out X⟩, by simp [intOf]; omega⟩
          | true =>
            cases hbb : ranB x y with
            | false =>
              have HNX := HNY.out (by unfold badB; rw [hgr, hbb]; rfl)
              rw [hbb] at HQ
              clear HNY hbb
              go_wp2_with fail
              have here := Later.here wr
              refine wp_region_later (by kernel_rfl) (by kernel_rfl) ?_
              iterate 24 (with_reducible refine wpQuiet_step (fun K hK => ?_); go_simp; first | (refine hK _ ?_; clear hK K) | (apply Exists.intro; refine ⟨fun _ => ?_, hK _ ?_⟩; (go_at_call 20; with_reducible exact HQ.out _); clear hK K))
              with_reducible refine wpQuiet_nil ?_
              intro X
              go_wp2_with fail
              exact ⟨⟨m + 1, by omega, by omega, by simp, HNX.out X⟩, by simp [intOf]; omega⟩
            | true =>
              have HBAD : Hid (badB ranB x y = true) := by show _ = _; unfold badB; rw [hgr, hbb]; rfl
              rw [hbb] at HQ
              clear HNY hbb
              have HRB : Hid (∀ X : Later wr, X.1.heap[w.heap.size]? = some (.cells #[.int .i64 0, .int .i64 0, .int .i64 0] 31 (0, 0))) := fun X => ((HV.out.1.trans (X.2.mono HV.out.1.size)).block _ (lt_of_heap HR0.out)).trans HR0.out
              go_wp2_with fail
              have here := Later.here wr
              refine wp_region_later (by kernel_rfl) (by kernel_rfl) ?_
              iterate 24 (with_reducible refine wpQuiet_step (fun K hK => ?_); go_simp; first | (refine hK _ ?_; clear hK K) | (apply Exists.intro; refine ⟨fun _ => ?_, hK _ ?_⟩; (go_at_call 20; with_reducible exact HQ.out _); clear hK K))
              with_reducible refine wpQuiet_nil ?_
              intro X
              have hrb := HRB.out X
              have hb := HBW.out.trans (X.2.mono HBW.out.size)
              have r0 : X.1.cell? ⟨w.heap.size, 0, none⟩ = some (.int .i64 0) := by rw [cell_of_row _ _ _ _ _ _ hrb]; rfl
              have r1 : X.1.cell? ⟨w.heap.size, 1, none⟩ = some (.int .i64 0) := by rw [cell_of_row _ _ _ _ _ _ hrb]; rfl
              have r2 : X.1.cell? ⟨w.heap.size, 2, none⟩ = some (.int .i64 0) := by rw [cell_of_row _ _ _ _ _ _ hrb]; rfl
              have fz : ∀ i, X.1.frozen? ⟨w.heap.size, i, none⟩ = false := fun i => by simp [World.frozen?, hrb]
              have f3 : X.1.cell? ⟨pf, 0, none⟩ = some (.int .i64 fault) := (X.2.cell (p := ⟨pf, 0, none⟩) lf2).trans q3
              have hrl := lt_of_heap hrb
              have lf3 := Nat.lt_of_lt_of_le lf2 X.2.size
              have HBX := Lib.hid hb
              obtain ⟨WX, hWX⟩ : ∃ WX, WX = X.1 := ⟨_, rfl⟩
              rw [← hWX] at r0 r1 r2 fz f3 hrl lf3 HBX ⊢
              clear hrb hb hWX HRB HQ p1 p2 u0 v0 u1 v1 u2 v2 u3 v3 u4 v4 u5 v5 u6 v6 u7 v7 u8 v8 u9 v9 u10 v10 u11 v11 u12 v12
              go_wp2_with fail
              refine bodyPost_ret (v := .agg #[.int .i64 fault, .int .i64 (j : Int), .int .i64 (m : Int)]) (by simp [results, Try.results14, go_sem, r0, r1, r2]) rfl ⟨⟨fault, (j : Int), (m : Int)⟩, rfl, ?_, .inr ⟨j, m, x, y, by omega, HX.out, HY.out, HBAD.out, rfl⟩⟩
              have hb := HBX.out
              go_grown
        · obtain rfl : m = n := by omega
          have HN2 : Hid (Below W0.heap.size W0 wr ∧ ∀ (a b : Nat) x y, a < j + 1 → a < b → L[a]? = some x → L[b]? = some y → badB ranB x y = false) := ⟨HV.out.1, fun a b x y h1 h2 h3 h4 => by
            by_cases e : a = j
            · subst e
              exact HV.out.2 b x y h2 (by rw [HN.out]; exact (List.getElem?_eq_some_iff.1 h4).1) h3 h4
            · exact HP.out.2 a b x y (by omega) h2 h3 h4⟩
          go_wp2_with fail
          exact ⟨⟨j + 1, by omega, by simp, HN2⟩, by simp [intOf]; omega⟩
    · obtain rfl : j = n := by omega
      have hrb := (HP.out.1.block _ (lt_of_heap HR0.out)).trans HR0.out
      have r0 : wr.cell? ⟨w.heap.size, 0, none⟩ = some (.int .i64 0) := by rw [cell_of_row _ _ _ _ _ _ hrb]; rfl
      have r1 : wr.cell? ⟨w.heap.size, 1, none⟩ = some (.int .i64 0) := by rw [cell_of_row _ _ _ _ _ _ hrb]; rfl
      have r2 : wr.cell? ⟨w.heap.size, 2, none⟩ = some (.int .i64 0) := by rw [cell_of_row _ _ _ _ _ _ hrb]; rfl
      have fz : ∀ i, wr.frozen? ⟨w.heap.size, i, none⟩ = false := fun i => by simp [World.frozen?, hrb]
      have hrl := lt_of_heap hrb
      have HBX : Hid (Below w.heap.size w wr) := HB0.out.trans (HP.out.1.mono HB0.out.size)
      clear hrb
      go_wp2_with fail
      refine bodyPost_ret (v := .agg #[.int .i64 0, .int .i64 0, .int .i64 0]) (by simp [results, Try.results14, go_sem, r0, r1, r2]) rfl ⟨verd0, rfl, ?_, .inl ⟨rfl, fun a b x y h1 h2 h3 => HP.out.2 a b x y (by rw [HN.out]; exact (List.getElem?_eq_some_iff.1 h2).1) h1 h2 h3⟩⟩
      have hb := HBX.out
      go_grown
set_option maxRecDepth 100000 in
set_option maxHeartbeats 3200000 in
theorem pair_21 (fault : Int) (L : List One) (w : World) (pa pi pf : Nat) (aa : Option Addr) (cap : Nat) (ha : w.heap[pa]? = some (.cells #[.slice aa L.length cap] 63 (0, 0))) (hi : w.heap[pi]? = some (.cells #[.func (.func 21) #[] #[]] 66 (0, 0))) (hf : w.heap[pf]? = some (.cells #[.int .i64 fault] 3 (0, 0)))
    (hL : Lies w aa 13 oneL L) (hs : ∀ x ∈ L, SeenIn w x.s ∧ Few x.s) (hn9 : L.length ≤ 1000) :
    Calls Try.prog 14 #[.pointer (some ⟨pa, 0, none⟩), .pointer (some ⟨pi, 0, none⟩), .pointer (some ⟨pf, 0, none⟩)] w (PairLeft w fault L decB) := by
  have HL := Lib.hid hL
  have HS := Lib.hid hs
  have HPA := Lib.hid ha
  have HPI := Lib.hid hi
  have HPF := Lib.hid hf
  obtain ⟨n, hn⟩ : ∃ n, n = L.length := ⟨_, rfl⟩
  have HN := Lib.hid hn
  have hn8 : (n : Int) ≤ 1000 := by omega
  rw [← hn] at HPA
  have la := lt_of_heap ha
  have li := lt_of_heap hi
  have lf := lt_of_heap hf
  obtain ⟨W0, hW0⟩ : ∃ W0, W0 = w.alloc (.cells #[.int .i64 0, .int .i64 0, .int .i64 0] 31) := ⟨_, rfl⟩
  have HW0 := Lib.hid hW0
  have HB0 : Hid (Below w.heap.size w W0) := by show Below _ _ _; rw [hW0]; exact (Below.refl _ w).alloc (Nat.le_refl _) _
  have HR0 : Hid (W0.heap[w.heap.size]? = some (.cells #[.int .i64 0, .int .i64 0, .int .i64 0] 31 (0, 0))) := by show _ = _; rw [hW0]; exact heap_alloc_new w _
  have P0 : Hid (Below W0.heap.size W0 W0 ∧ ∀ (a b : Nat) x y, a < 0 → a < b → L[a]? = some x → L[b]? = some y → badB decB x y = false) := ⟨Below.refl _ _, fun a b x y h => by omega⟩
  have HPQ : Hid (∀ W, Below w.heap.size w W → W.cell? ⟨pa, 0, none⟩ = some (.slice aa n cap) ∧ W.cell? ⟨pi, 0, none⟩ = some (.func (.func 21) #[] #[]) ∧ W.cell? ⟨pf, 0, none⟩ = some (.int .i64 fault)) := fun W hb =>
    ⟨by rw [cell_of_row _ _ _ _ _ _ ((hb.block _ la).trans HPA.out)]; rfl, by rw [cell_of_row _ _ _ _ _ _ ((hb.block _ li).trans HPI.out)]; rfl, by rw [cell_of_row _ _ _ _ _ _ ((hb.block _ lf).trans HPF.out)]; rfl⟩
  obtain ⟨w0, hw0⟩ : ∃ w0, w0 = w := ⟨_, rfl⟩
  have q1 : w.cell? ⟨pa, 0, none⟩ = some (.slice aa n cap) := (HPQ.out w (Below.refl _ _)).1
  clear hL hs ha hi hf hn hn9 hw0
  go_enter Try.func14, Try.ntmps14
  go_wp2_with fail
  rw [← HW0.out]
  clear hW0
  go_loopw [8] (fun i wr => ∃ j : Nat, j ≤ n ∧ i = .int .i64 j ∧ Hid (Below W0.heap.size W0 wr ∧ ∀ (a b : Nat) x y, a < j → a < b → L[a]? = some x → L[b]? = some y → badB decB x y = false)) (fun i _ => n - (intOf i).toNat)
  case atStart => exact ⟨0, by omega, rfl, P0⟩
  case round =>
    clear P0 q1
    obtain ⟨j, hj, rfl, HP⟩ := hrel
    by_cases hlt : j < n
    · have hj0 : (0 : Int) ≤ (j : Int) := by omega
      have hj1 : (j : Int) < (n : Int) := by omega
      have P1 : Hid (Below W0.heap.size W0 wr ∧ ∀ (b : Nat) x y, j < b → b < j + 1 → L[j]? = some x → L[b]? = some y → badB decB x y = false) := ⟨HP.out.1, fun b x y h1 h2 => by omega⟩
      go_wp2_with fail
      go_loopw [5] (fun i W => ∃ m : Nat, j + 1 ≤ m ∧ m ≤ n ∧ i = .int .i64 m ∧ Hid (Below W0.heap.size W0 W ∧ ∀ (b : Nat) x y, j < b → b < m → L[j]? = some x → L[b]? = some y → badB decB x y = false)) (fun i _ => n - (intOf i).toNat)
      case atStart => exact ⟨j + 1, by omega, by omega, by simp, P1⟩
      case round =>
        clear P1
        obtain ⟨m, hm0, hm, rfl, HV⟩ := hrel
        have HBW : Hid (Below w.heap.size w wr) := HB0.out.trans (HV.out.1.mono HB0.out.size)
        obtain ⟨q1, q2, q3⟩ := HPQ.out _ HBW.out
        have la2 : pa < wr.heap.size := Nat.lt_of_lt_of_le la HBW.out.size
        have li2 : pi < wr.heap.size := Nat.lt_of_lt_of_le li HBW.out.size
        have lf2 : pf < wr.heap.size := Nat.lt_of_lt_of_le lf HBW.out.size
        by_cases hlm : m < n
        · obtain ⟨x, hx⟩ : ∃ x, L[j]? = some x := ⟨_, List.getElem?_eq_getElem (by rw [← HN.out]; exact hlt)⟩
          obtain ⟨y, hy⟩ : ∃ y, L[m]? = some y := ⟨_, List.getElem?_eq_getElem (by rw [← HN.out]; exact hlm)⟩
          obtain ⟨g, o, rfl, hg, uc⟩ := HL.out.below HBW.out j x hx
          obtain ⟨g', o', hgg, _, vc⟩ := HL.out.below HBW.out m y hy
          obtain ⟨rfl, rfl⟩ : g = g' ∧ o = o' := by simpa using hgg
          have u0 : ∀ X : Later wr, X.1.cell? ⟨g, o + j * 13, none⟩ = some (.int .i64 x.group) := fun X => (X.2.cell (p := ⟨g, _, none⟩) hg).trans (uc 0 _ rfl)
          have u1 : ∀ X : Later wr, X.1.cell? ⟨g, o + j * 13 + 1, none⟩ = some (.int .i64 x.s.view) := fun X => (X.2.cell (p := ⟨g, _, none⟩) hg).trans (uc 1 _ rfl)
          have u2 : ∀ X : Later wr, X.1.cell? ⟨g, o + j * 13 + 2, none⟩ = some (.bool x.s.normal) := fun X => (X.2.cell (p := ⟨g, _, none⟩) hg).trans (uc 2 _ rfl)
          have u3 : ∀ X : Later wr, X.1.cell? ⟨g, o + j * 13 + 3, none⟩ = some (.int .i64 x.s.done) := fun X => (X.2.cell (p := ⟨g, _, none⟩) hg).trans (uc 3 _ rfl)
          have u4 : ∀ X : Later wr, X.1.cell? ⟨g, o + j * 13 + 4, none⟩ = some (.int .i64 x.s.stable) := fun X => (X.2.cell (p := ⟨g, _, none⟩) hg).trans (uc 4 _ rfl)
          have u5 : ∀ X : Later wr, X.1.cell? ⟨g, o + j * 13 + 5, none⟩ = some (.int .i64 x.s.pending) := fun X => (X.2.cell (p := ⟨g, _, none⟩) hg).trans (uc 5 _ rfl)
          have u6 : ∀ X : Later wr, X.1.cell? ⟨g, o + j * 13 + 6, none⟩ = some (.slice x.s.ranS.a x.s.ranS.n x.s.ranS.cap) := fun X => (X.2.cell (p := ⟨g, _, none⟩) hg).trans (uc 6 _ rfl)
          have u7 : ∀ X : Later wr, X.1.cell? ⟨g, o + j * 13 + 7, none⟩ = some (.slice x.s.saysS.a x.s.saysS.n x.s.saysS.cap) := fun X => (X.2.cell (p := ⟨g, _, none⟩) hg).trans (uc 7 _ rfl)
          have u8 : ∀ X : Later wr, X.1.cell? ⟨g, o + j * 13 + 8, none⟩ = some (.slice x.s.recsS.a x.s.recsS.n x.s.recsS.cap) := fun X => (X.2.cell (p := ⟨g, _, none⟩) hg).trans (uc 8 _ rfl)
          have u9 : ∀ X : Later wr, X.1.cell? ⟨g, o + j * 13 + 9, none⟩ = some (.slice x.s.entsS.a x.s.entsS.n x.s.entsS.cap) := fun X => (X.2.cell (p := ⟨g, _, none⟩) hg).trans (uc 9 _ rfl)
          have u10 : ∀ X : Later wr, X.1.cell? ⟨g, o + j * 13 + 10, none⟩ = some (.slice x.s.heldS.a x.s.heldS.n x.s.heldS.cap) := fun X => (X.2.cell (p := ⟨g, _, none⟩) hg).trans (uc 10 _ rfl)
          have u11 : ∀ X : Later wr, X.1.cell? ⟨g, o + j * 13 + 11, none⟩ = some (.slice x.s.piecesS.a x.s.piecesS.n x.s.piecesS.cap) := fun X => (X.2.cell (p := ⟨g, _, none⟩) hg).trans (uc 11 _ rfl)
          have u12 : ∀ X : Later wr, X.1.cell? ⟨g, o + j * 13 + 12, none⟩ = some (.slice x.s.movesS.a x.s.movesS.n x.s.movesS.cap) := fun X => (X.2.cell (p := ⟨g, _, none⟩) hg).trans (uc 12 _ rfl)
          have v0 : ∀ X : Later wr, X.1.cell? ⟨g, o + m * 13, none⟩ = some (.int .i64 y.group) := fun X => (X.2.cell (p := ⟨g, _, none⟩) hg).trans (vc 0 _ rfl)
          have v1 : ∀ X : Later wr, X.1.cell? ⟨g, o + m * 13 + 1, none⟩ = some (.int .i64 y.s.view) := fun X => (X.2.cell (p := ⟨g, _, none⟩) hg).trans (vc 1 _ rfl)
          have v2 : ∀ X : Later wr, X.1.cell? ⟨g, o + m * 13 + 2, none⟩ = some (.bool y.s.normal) := fun X => (X.2.cell (p := ⟨g, _, none⟩) hg).trans (vc 2 _ rfl)
          have v3 : ∀ X : Later wr, X.1.cell? ⟨g, o + m * 13 + 3, none⟩ = some (.int .i64 y.s.done) := fun X => (X.2.cell (p := ⟨g, _, none⟩) hg).trans (vc 3 _ rfl)
          have v4 : ∀ X : Later wr, X.1.cell? ⟨g, o + m * 13 + 4, none⟩ = some (.int .i64 y.s.stable) := fun X => (X.2.cell (p := ⟨g, _, none⟩) hg).trans (vc 4 _ rfl)
          have v5 : ∀ X : Later wr, X.1.cell? ⟨g, o + m * 13 + 5, none⟩ = some (.int .i64 y.s.pending) := fun X => (X.2.cell (p := ⟨g, _, none⟩) hg).trans (vc 5 _ rfl)
          have v6 : ∀ X : Later wr, X.1.cell? ⟨g, o + m * 13 + 6, none⟩ = some (.slice y.s.ranS.a y.s.ranS.n y.s.ranS.cap) := fun X => (X.2.cell (p := ⟨g, _, none⟩) hg).trans (vc 6 _ rfl)
          have v7 : ∀ X : Later wr, X.1.cell? ⟨g, o + m * 13 + 7, none⟩ = some (.slice y.s.saysS.a y.s.saysS.n y.s.saysS.cap) := fun X => (X.2.cell (p := ⟨g, _, none⟩) hg).trans (vc 7 _ rfl)
          have v8 : ∀ X : Later wr, X.1.cell? ⟨g, o + m * 13 + 8, none⟩ = some (.slice y.s.recsS.a y.s.recsS.n y.s.recsS.cap) := fun X => (X.2.cell (p := ⟨g, _, none⟩) hg).trans (vc 8 _ rfl)
          have v9 : ∀ X : Later wr, X.1.cell? ⟨g, o + m * 13 + 9, none⟩ = some (.slice y.s.entsS.a y.s.entsS.n y.s.entsS.cap) := fun X => (X.2.cell (p := ⟨g, _, none⟩) hg).trans (vc 9 _ rfl)
          have v10 : ∀ X : Later wr, X.1.cell? ⟨g, o + m * 13 + 10, none⟩ = some (.slice y.s.heldS.a y.s.heldS.n y.s.heldS.cap) := fun X => (X.2.cell (p := ⟨g, _, none⟩) hg).trans (vc 10 _ rfl)
          have v11 : ∀ X : Later wr, X.1.cell? ⟨g, o + m * 13 + 11, none⟩ = some (.slice y.s.piecesS.a y.s.piecesS.n y.s.piecesS.cap) := fun X => (X.2.cell (p := ⟨g, _, none⟩) hg).trans (vc 11 _ rfl)
          have v12 : ∀ X : Later wr, X.1.cell? ⟨g, o + m * 13 + 12, none⟩ = some (.slice y.s.movesS.a y.s.movesS.n y.s.movesS.cap) := fun X => (X.2.cell (p := ⟨g, _, none⟩) hg).trans (vc 12 _ rfl)
          have hm1 : (0 : Int) ≤ (m : Int) := by omega
          have hm2 : (m : Int) < (n : Int) := by omega
          have hm3 : (j : Int) < (m : Int) := by omega
          have p1 : ∀ X : Later wr, X.1.cell? ⟨pa, 0, none⟩ = some (.slice (some ⟨g, o, none⟩) n cap) := fun X => (X.2.cell (p := ⟨pa, 0, none⟩) la2).trans q1
          have p2 : ∀ X : Later wr, X.1.cell? ⟨pi, 0, none⟩ = some (.func (.func 21) #[] #[]) := fun X => (X.2.cell (p := ⟨pi, 0, none⟩) li2).trans q2
          have HQ : Hid (∀ X : Later wr, Calls Try.prog 21 #[.agg #[.int .i64 x.group, .int .i64 x.s.view, .bool x.s.normal, .int .i64 x.s.done, .int .i64 x.s.stable, .int .i64 x.s.pending, .slice x.s.ranS.a x.s.ranS.n x.s.ranS.cap, .slice x.s.saysS.a x.s.saysS.n x.s.saysS.cap, .slice x.s.recsS.a x.s.recsS.n x.s.recsS.cap, .slice x.s.entsS.a x.s.entsS.n x.s.entsS.cap, .slice x.s.heldS.a x.s.heldS.n x.s.heldS.cap, .slice x.s.piecesS.a x.s.piecesS.n x.s.piecesS.cap, .slice x.s.movesS.a x.s.movesS.n x.s.movesS.cap], .agg #[.int .i64 y.group, .int .i64 y.s.view, .bool y.s.normal, .int .i64 y.s.done, .int .i64 y.s.stable, .int .i64 y.s.pending, .slice y.s.ranS.a y.s.ranS.n y.s.ranS.cap, .slice y.s.saysS.a y.s.saysS.n y.s.saysS.cap, .slice y.s.recsS.a y.s.recsS.n y.s.recsS.cap, .slice y.s.entsS.a y.s.entsS.n y.s.entsS.cap, .slice y.s.heldS.a y.s.heldS.n y.s.heldS.cap, .slice y.s.piecesS.a y.s.piecesS.n y.s.piecesS.cap, .slice y.s.movesS.a y.s.movesS.n y.s.movesS.cap]] X.1 fun e w' => e = .returned (.bool (decB x y)) ∧ ∃ Y : Later wr, w' = Y.1) := fun X =>
            later_call (is_21 x y X.1 ((HS.out x (List.mem_of_getElem? hx)).1.below (HBW.out.trans (X.2.mono HBW.out.size))) ((HS.out y (List.mem_of_getElem? hy)).1.below (HBW.out.trans (X.2.mono HBW.out.size))) (HS.out x (List.mem_of_getElem? hx)).2 (HS.out y (List.mem_of_getElem? hy)).2)
          have HX := Lib.hid hx
          have HY := Lib.hid hy
          have HNX : badB decB x y = false → Hid (∀ X : Later wr, Hid (Below W0.heap.size W0 X.1 ∧ ∀ (b : Nat) x y, j < b → b < m + 1 → L[j]? = some x → L[b]? = some y → badB decB x y = false)) := fun hb X => ⟨HV.out.1.trans (X.2.mono HV.out.1.size), fun b x' y' h1 h2 h3 h4 => by
            by_cases e : b = m
            · subst e
              rw [HX.out] at h3
              rw [HY.out] at h4
              cases h3
              cases h4
              exact hb
            · exact HV.out.2 b x' y' h1 (by omega) h3 h4⟩
          have HNY := Lib.hid HNX
          clear hx hy uc vc hgg HNX
          cases hgr : decide (0 ≤ min x.group y.group) with
          | false =>
            have HNX := HNY.out (by unfold badB; rw [hgr]; rfl)
            clear HNY
            go_wp2_with fail
            have here := Later.here wr
            refine wp_region_later (by kernel_rfl) (by kernel_rfl) ?_
            iterate 24 (with_reducible refine wpQuiet_step (fun K hK => ?_); go_simp; first | (refine hK _ ?_; clear hK K) | (apply Exists.intro; refine ⟨fun _ => ?_, hK _ ?_⟩; (go_at_call 21; with_reducible exact HQ.out _); clear hK K))
            with_reducible refine wpQuiet_nil ?_
            intro X
            go_wp2_with fail
            exact ⟨⟨m + 1, by omega, by omega, by simp, HNX.out X⟩, by simp [intOf]; omega⟩
          | true =>
            cases hbb : decB x y with
            | false =>
              have HNX := HNY.out (by unfold badB; rw [hgr, hbb]; rfl)
              rw [hbb] at HQ
              clear HNY hbb
              go_wp2_with fail
              have here := Later.here wr
              refine wp_region_later (by kernel_rfl) (by kernel_rfl) ?_
              iterate 24 (with_reducible refine wpQuiet_step (fun K hK => ?_); go_simp; first | (refine hK _ ?_; clear hK K) | (apply Exists.intro; refine ⟨fun _ => ?_, hK _ ?_⟩; (go_at_call 21; with_reducible exact HQ.out _); clear hK K))
              with_reducible refine wpQuiet_nil ?_
              intro X
              go_wp2_with fail
              exact ⟨⟨m + 1, by omega, by omega, by simp, HNX.out X⟩, by simp [intOf]; omega⟩
            | true =>
              have HBAD : Hid (badB decB x y = true) := by show _ = _; unfold badB; rw [hgr, hbb]; rfl
              rw [hbb] at HQ
              clear HNY hbb
              have HRB : Hid (∀ X : Later wr, X.1.heap[w.heap.size]? = some (.cells #[.int .i64 0, .int .i64 0, .int .i64 0] 31 (0, 0))) := fun X => ((HV.out.1.trans (X.2.mono HV.out.1.size)).block _ (lt_of_heap HR0.out)).trans HR0.out
              go_wp2_with fail
              have here := Later.here wr
              refine wp_region_later (by kernel_rfl) (by kernel_rfl) ?_
              iterate 24 (with_reducible refine wpQuiet_step (fun K hK => ?_); go_simp; first | (refine hK _ ?_; clear hK K) | (apply Exists.intro; refine ⟨fun _ => ?_, hK _ ?_⟩; (go_at_call 21; with_reducible exact HQ.out _); clear hK K))
              with_reducible refine wpQuiet_nil ?_
              intro X
              have hrb := HRB.out X
              have hb := HBW.out.trans (X.2.mono HBW.out.size)
              have r0 : X.1.cell? ⟨w.heap.size, 0, none⟩ = some (.int .i64 0) := by rw [cell_of_row _ _ _ _ _ _ hrb]; rfl
              have r1 : X.1.cell? ⟨w.heap.size, 1, none⟩ = some (.int .i64 0) := by rw [cell_of_row _ _ _ _ _ _ hrb]; rfl
              have r2 : X.1.cell? ⟨w.heap.size, 2, none⟩ = some (.int .i64 0) := by rw [cell_of_row _ _ _ _ _ _ hrb]; rfl
              have fz : ∀ i, X.1.frozen? ⟨w.heap.size, i, none⟩ = false := fun i => by simp [World.frozen?, hrb]
              have f3 : X.1.cell? ⟨pf, 0, none⟩ = some (.int .i64 fault) := (X.2.cell (p := ⟨pf, 0, none⟩) lf2).trans q3
              have hrl := lt_of_heap hrb
              have lf3 := Nat.lt_of_lt_of_le lf2 X.2.size
              have HBX := Lib.hid hb
              obtain ⟨WX, hWX⟩ : ∃ WX, WX = X.1 := ⟨_, rfl⟩
              rw [← hWX] at r0 r1 r2 fz f3 hrl lf3 HBX ⊢
              clear hrb hb hWX HRB HQ p1 p2 u0 v0 u1 v1 u2 v2 u3 v3 u4 v4 u5 v5 u6 v6 u7 v7 u8 v8 u9 v9 u10 v10 u11 v11 u12 v12
              go_wp2_with fail
              refine bodyPost_ret (v := .agg #[.int .i64 fault, .int .i64 (j : Int), .int .i64 (m : Int)]) (by simp [results, Try.results14, go_sem, r0, r1, r2]) rfl ⟨⟨fault, (j : Int), (m : Int)⟩, rfl, ?_, .inr ⟨j, m, x, y, by omega, HX.out, HY.out, HBAD.out, rfl⟩⟩
              have hb := HBX.out
              go_grown
        · obtain rfl : m = n := by omega
          have HN2 : Hid (Below W0.heap.size W0 wr ∧ ∀ (a b : Nat) x y, a < j + 1 → a < b → L[a]? = some x → L[b]? = some y → badB decB x y = false) := ⟨HV.out.1, fun a b x y h1 h2 h3 h4 => by
            by_cases e : a = j
            · subst e
              exact HV.out.2 b x y h2 (by rw [HN.out]; exact (List.getElem?_eq_some_iff.1 h4).1) h3 h4
            · exact HP.out.2 a b x y (by omega) h2 h3 h4⟩
          go_wp2_with fail
          exact ⟨⟨j + 1, by omega, by simp, HN2⟩, by simp [intOf]; omega⟩
    · obtain rfl : j = n := by omega
      have hrb := (HP.out.1.block _ (lt_of_heap HR0.out)).trans HR0.out
      have r0 : wr.cell? ⟨w.heap.size, 0, none⟩ = some (.int .i64 0) := by rw [cell_of_row _ _ _ _ _ _ hrb]; rfl
      have r1 : wr.cell? ⟨w.heap.size, 1, none⟩ = some (.int .i64 0) := by rw [cell_of_row _ _ _ _ _ _ hrb]; rfl
      have r2 : wr.cell? ⟨w.heap.size, 2, none⟩ = some (.int .i64 0) := by rw [cell_of_row _ _ _ _ _ _ hrb]; rfl
      have fz : ∀ i, wr.frozen? ⟨w.heap.size, i, none⟩ = false := fun i => by simp [World.frozen?, hrb]
      have hrl := lt_of_heap hrb
      have HBX : Hid (Below w.heap.size w wr) := HB0.out.trans (HP.out.1.mono HB0.out.size)
      clear hrb
      go_wp2_with fail
      refine bodyPost_ret (v := .agg #[.int .i64 0, .int .i64 0, .int .i64 0]) (by simp [results, Try.results14, go_sem, r0, r1, r2]) rfl ⟨verd0, rfl, ?_, .inl ⟨rfl, fun a b x y h1 h2 h3 => HP.out.2 a b x y (by rw [HN.out]; exact (List.getElem?_eq_some_iff.1 h2).1) h1 h2 h3⟩⟩
      have hb := HBX.out
      go_grown
set_option maxRecDepth 100000 in
set_option maxHeartbeats 3200000 in
theorem pair_22 (fault : Int) (L : List One) (w : World) (pa pi pf : Nat) (aa : Option Addr) (cap : Nat) (ha : w.heap[pa]? = some (.cells #[.slice aa L.length cap] 63 (0, 0))) (hi : w.heap[pi]? = some (.cells #[.func (.func 22) #[] #[]] 66 (0, 0))) (hf : w.heap[pf]? = some (.cells #[.int .i64 fault] 3 (0, 0)))
    (hL : Lies w aa 13 oneL L) (hs : ∀ x ∈ L, SeenIn w x.s ∧ Few x.s) (hn9 : L.length ≤ 1000) :
    Calls Try.prog 14 #[.pointer (some ⟨pa, 0, none⟩), .pointer (some ⟨pi, 0, none⟩), .pointer (some ⟨pf, 0, none⟩)] w (PairLeft w fault L ownB) := by
  have HL := Lib.hid hL
  have HS := Lib.hid hs
  have HPA := Lib.hid ha
  have HPI := Lib.hid hi
  have HPF := Lib.hid hf
  obtain ⟨n, hn⟩ : ∃ n, n = L.length := ⟨_, rfl⟩
  have HN := Lib.hid hn
  have hn8 : (n : Int) ≤ 1000 := by omega
  rw [← hn] at HPA
  have la := lt_of_heap ha
  have li := lt_of_heap hi
  have lf := lt_of_heap hf
  obtain ⟨W0, hW0⟩ : ∃ W0, W0 = w.alloc (.cells #[.int .i64 0, .int .i64 0, .int .i64 0] 31) := ⟨_, rfl⟩
  have HW0 := Lib.hid hW0
  have HB0 : Hid (Below w.heap.size w W0) := by show Below _ _ _; rw [hW0]; exact (Below.refl _ w).alloc (Nat.le_refl _) _
  have HR0 : Hid (W0.heap[w.heap.size]? = some (.cells #[.int .i64 0, .int .i64 0, .int .i64 0] 31 (0, 0))) := by show _ = _; rw [hW0]; exact heap_alloc_new w _
  have P0 : Hid (Below W0.heap.size W0 W0 ∧ ∀ (a b : Nat) x y, a < 0 → a < b → L[a]? = some x → L[b]? = some y → badB ownB x y = false) := ⟨Below.refl _ _, fun a b x y h => by omega⟩
  have HPQ : Hid (∀ W, Below w.heap.size w W → W.cell? ⟨pa, 0, none⟩ = some (.slice aa n cap) ∧ W.cell? ⟨pi, 0, none⟩ = some (.func (.func 22) #[] #[]) ∧ W.cell? ⟨pf, 0, none⟩ = some (.int .i64 fault)) := fun W hb =>
    ⟨by rw [cell_of_row _ _ _ _ _ _ ((hb.block _ la).trans HPA.out)]; rfl, by rw [cell_of_row _ _ _ _ _ _ ((hb.block _ li).trans HPI.out)]; rfl, by rw [cell_of_row _ _ _ _ _ _ ((hb.block _ lf).trans HPF.out)]; rfl⟩
  obtain ⟨w0, hw0⟩ : ∃ w0, w0 = w := ⟨_, rfl⟩
  have q1 : w.cell? ⟨pa, 0, none⟩ = some (.slice aa n cap) := (HPQ.out w (Below.refl _ _)).1
  clear hL hs ha hi hf hn hn9 hw0
  go_enter Try.func14, Try.ntmps14
  go_wp2_with fail
  rw [← HW0.out]
  clear hW0
  go_loopw [8] (fun i wr => ∃ j : Nat, j ≤ n ∧ i = .int .i64 j ∧ Hid (Below W0.heap.size W0 wr ∧ ∀ (a b : Nat) x y, a < j → a < b → L[a]? = some x → L[b]? = some y → badB ownB x y = false)) (fun i _ => n - (intOf i).toNat)
  case atStart => exact ⟨0, by omega, rfl, P0⟩
  case round =>
    clear P0 q1
    obtain ⟨j, hj, rfl, HP⟩ := hrel
    by_cases hlt : j < n
    · have hj0 : (0 : Int) ≤ (j : Int) := by omega
      have hj1 : (j : Int) < (n : Int) := by omega
      have P1 : Hid (Below W0.heap.size W0 wr ∧ ∀ (b : Nat) x y, j < b → b < j + 1 → L[j]? = some x → L[b]? = some y → badB ownB x y = false) := ⟨HP.out.1, fun b x y h1 h2 => by omega⟩
      go_wp2_with fail
      go_loopw [5] (fun i W => ∃ m : Nat, j + 1 ≤ m ∧ m ≤ n ∧ i = .int .i64 m ∧ Hid (Below W0.heap.size W0 W ∧ ∀ (b : Nat) x y, j < b → b < m → L[j]? = some x → L[b]? = some y → badB ownB x y = false)) (fun i _ => n - (intOf i).toNat)
      case atStart => exact ⟨j + 1, by omega, by omega, by simp, P1⟩
      case round =>
        clear P1
        obtain ⟨m, hm0, hm, rfl, HV⟩ := hrel
        have HBW : Hid (Below w.heap.size w wr) := HB0.out.trans (HV.out.1.mono HB0.out.size)
        obtain ⟨q1, q2, q3⟩ := HPQ.out _ HBW.out
        have la2 : pa < wr.heap.size := Nat.lt_of_lt_of_le la HBW.out.size
        have li2 : pi < wr.heap.size := Nat.lt_of_lt_of_le li HBW.out.size
        have lf2 : pf < wr.heap.size := Nat.lt_of_lt_of_le lf HBW.out.size
        by_cases hlm : m < n
        · obtain ⟨x, hx⟩ : ∃ x, L[j]? = some x := ⟨_, List.getElem?_eq_getElem (by rw [← HN.out]; exact hlt)⟩
          obtain ⟨y, hy⟩ : ∃ y, L[m]? = some y := ⟨_, List.getElem?_eq_getElem (by rw [← HN.out]; exact hlm)⟩
          obtain ⟨g, o, rfl, hg, uc⟩ := HL.out.below HBW.out j x hx
          obtain ⟨g', o', hgg, _, vc⟩ := HL.out.below HBW.out m y hy
          obtain ⟨rfl, rfl⟩ : g = g' ∧ o = o' := by simpa using hgg
          have u0 : ∀ X : Later wr, X.1.cell? ⟨g, o + j * 13, none⟩ = some (.int .i64 x.group) := fun X => (X.2.cell (p := ⟨g, _, none⟩) hg).trans (uc 0 _ rfl)
          have u1 : ∀ X : Later wr, X.1.cell? ⟨g, o + j * 13 + 1, none⟩ = some (.int .i64 x.s.view) := fun X => (X.2.cell (p := ⟨g, _, none⟩) hg).trans (uc 1 _ rfl)
          have u2 : ∀ X : Later wr, X.1.cell? ⟨g, o + j * 13 + 2, none⟩ = some (.bool x.s.normal) := fun X => (X.2.cell (p := ⟨g, _, none⟩) hg).trans (uc 2 _ rfl)
          have u3 : ∀ X : Later wr, X.1.cell? ⟨g, o + j * 13 + 3, none⟩ = some (.int .i64 x.s.done) := fun X => (X.2.cell (p := ⟨g, _, none⟩) hg).trans (uc 3 _ rfl)
          have u4 : ∀ X : Later wr, X.1.cell? ⟨g, o + j * 13 + 4, none⟩ = some (.int .i64 x.s.stable) := fun X => (X.2.cell (p := ⟨g, _, none⟩) hg).trans (uc 4 _ rfl)
          have u5 : ∀ X : Later wr, X.1.cell? ⟨g, o + j * 13 + 5, none⟩ = some (.int .i64 x.s.pending) := fun X => (X.2.cell (p := ⟨g, _, none⟩) hg).trans (uc 5 _ rfl)
          have u6 : ∀ X : Later wr, X.1.cell? ⟨g, o + j * 13 + 6, none⟩ = some (.slice x.s.ranS.a x.s.ranS.n x.s.ranS.cap) := fun X => (X.2.cell (p := ⟨g, _, none⟩) hg).trans (uc 6 _ rfl)
          have u7 : ∀ X : Later wr, X.1.cell? ⟨g, o + j * 13 + 7, none⟩ = some (.slice x.s.saysS.a x.s.saysS.n x.s.saysS.cap) := fun X => (X.2.cell (p := ⟨g, _, none⟩) hg).trans (uc 7 _ rfl)
          have u8 : ∀ X : Later wr, X.1.cell? ⟨g, o + j * 13 + 8, none⟩ = some (.slice x.s.recsS.a x.s.recsS.n x.s.recsS.cap) := fun X => (X.2.cell (p := ⟨g, _, none⟩) hg).trans (uc 8 _ rfl)
          have u9 : ∀ X : Later wr, X.1.cell? ⟨g, o + j * 13 + 9, none⟩ = some (.slice x.s.entsS.a x.s.entsS.n x.s.entsS.cap) := fun X => (X.2.cell (p := ⟨g, _, none⟩) hg).trans (uc 9 _ rfl)
          have u10 : ∀ X : Later wr, X.1.cell? ⟨g, o + j * 13 + 10, none⟩ = some (.slice x.s.heldS.a x.s.heldS.n x.s.heldS.cap) := fun X => (X.2.cell (p := ⟨g, _, none⟩) hg).trans (uc 10 _ rfl)
          have u11 : ∀ X : Later wr, X.1.cell? ⟨g, o + j * 13 + 11, none⟩ = some (.slice x.s.piecesS.a x.s.piecesS.n x.s.piecesS.cap) := fun X => (X.2.cell (p := ⟨g, _, none⟩) hg).trans (uc 11 _ rfl)
          have u12 : ∀ X : Later wr, X.1.cell? ⟨g, o + j * 13 + 12, none⟩ = some (.slice x.s.movesS.a x.s.movesS.n x.s.movesS.cap) := fun X => (X.2.cell (p := ⟨g, _, none⟩) hg).trans (uc 12 _ rfl)
          have v0 : ∀ X : Later wr, X.1.cell? ⟨g, o + m * 13, none⟩ = some (.int .i64 y.group) := fun X => (X.2.cell (p := ⟨g, _, none⟩) hg).trans (vc 0 _ rfl)
          have v1 : ∀ X : Later wr, X.1.cell? ⟨g, o + m * 13 + 1, none⟩ = some (.int .i64 y.s.view) := fun X => (X.2.cell (p := ⟨g, _, none⟩) hg).trans (vc 1 _ rfl)
          have v2 : ∀ X : Later wr, X.1.cell? ⟨g, o + m * 13 + 2, none⟩ = some (.bool y.s.normal) := fun X => (X.2.cell (p := ⟨g, _, none⟩) hg).trans (vc 2 _ rfl)
          have v3 : ∀ X : Later wr, X.1.cell? ⟨g, o + m * 13 + 3, none⟩ = some (.int .i64 y.s.done) := fun X => (X.2.cell (p := ⟨g, _, none⟩) hg).trans (vc 3 _ rfl)
          have v4 : ∀ X : Later wr, X.1.cell? ⟨g, o + m * 13 + 4, none⟩ = some (.int .i64 y.s.stable) := fun X => (X.2.cell (p := ⟨g, _, none⟩) hg).trans (vc 4 _ rfl)
          have v5 : ∀ X : Later wr, X.1.cell? ⟨g, o + m * 13 + 5, none⟩ = some (.int .i64 y.s.pending) := fun X => (X.2.cell (p := ⟨g, _, none⟩) hg).trans (vc 5 _ rfl)
          have v6 : ∀ X : Later wr, X.1.cell? ⟨g, o + m * 13 + 6, none⟩ = some (.slice y.s.ranS.a y.s.ranS.n y.s.ranS.cap) := fun X => (X.2.cell (p := ⟨g, _, none⟩) hg).trans (vc 6 _ rfl)
          have v7 : ∀ X : Later wr, X.1.cell? ⟨g, o + m * 13 + 7, none⟩ = some (.slice y.s.saysS.a y.s.saysS.n y.s.saysS.cap) := fun X => (X.2.cell (p := ⟨g, _, none⟩) hg).trans (vc 7 _ rfl)
          have v8 : ∀ X : Later wr, X.1.cell? ⟨g, o + m * 13 + 8, none⟩ = some (.slice y.s.recsS.a y.s.recsS.n y.s.recsS.cap) := fun X => (X.2.cell (p := ⟨g, _, none⟩) hg).trans (vc 8 _ rfl)
          have v9 : ∀ X : Later wr, X.1.cell? ⟨g, o + m * 13 + 9, none⟩ = some (.slice y.s.entsS.a y.s.entsS.n y.s.entsS.cap) := fun X => (X.2.cell (p := ⟨g, _, none⟩) hg).trans (vc 9 _ rfl)
          have v10 : ∀ X : Later wr, X.1.cell? ⟨g, o + m * 13 + 10, none⟩ = some (.slice y.s.heldS.a y.s.heldS.n y.s.heldS.cap) := fun X => (X.2.cell (p := ⟨g, _, none⟩) hg).trans (vc 10 _ rfl)
          have v11 : ∀ X : Later wr, X.1.cell? ⟨g, o + m * 13 + 11, none⟩ = some (.slice y.s.piecesS.a y.s.piecesS.n y.s.piecesS.cap) := fun X => (X.2.cell (p := ⟨g, _, none⟩) hg).trans (vc 11 _ rfl)
          have v12 : ∀ X : Later wr, X.1.cell? ⟨g, o + m * 13 + 12, none⟩ = some (.slice y.s.movesS.a y.s.movesS.n y.s.movesS.cap) := fun X => (X.2.cell (p := ⟨g, _, none⟩) hg).trans (vc 12 _ rfl)
          have hm1 : (0 : Int) ≤ (m : Int) := by omega
          have hm2 : (m : Int) < (n : Int) := by omega
          have hm3 : (j : Int) < (m : Int) := by omega
          have p1 : ∀ X : Later wr, X.1.cell? ⟨pa, 0, none⟩ = some (.slice (some ⟨g, o, none⟩) n cap) := fun X => (X.2.cell (p := ⟨pa, 0, none⟩) la2).trans q1
          have p2 : ∀ X : Later wr, X.1.cell? ⟨pi, 0, none⟩ = some (.func (.func 22) #[] #[]) := fun X => (X.2.cell (p := ⟨pi, 0, none⟩) li2).trans q2
          have HQ : Hid (∀ X : Later wr, Calls Try.prog 22 #[.agg #[.int .i64 x.group, .int .i64 x.s.view, .bool x.s.normal, .int .i64 x.s.done, .int .i64 x.s.stable, .int .i64 x.s.pending, .slice x.s.ranS.a x.s.ranS.n x.s.ranS.cap, .slice x.s.saysS.a x.s.saysS.n x.s.saysS.cap, .slice x.s.recsS.a x.s.recsS.n x.s.recsS.cap, .slice x.s.entsS.a x.s.entsS.n x.s.entsS.cap, .slice x.s.heldS.a x.s.heldS.n x.s.heldS.cap, .slice x.s.piecesS.a x.s.piecesS.n x.s.piecesS.cap, .slice x.s.movesS.a x.s.movesS.n x.s.movesS.cap], .agg #[.int .i64 y.group, .int .i64 y.s.view, .bool y.s.normal, .int .i64 y.s.done, .int .i64 y.s.stable, .int .i64 y.s.pending, .slice y.s.ranS.a y.s.ranS.n y.s.ranS.cap, .slice y.s.saysS.a y.s.saysS.n y.s.saysS.cap, .slice y.s.recsS.a y.s.recsS.n y.s.recsS.cap, .slice y.s.entsS.a y.s.entsS.n y.s.entsS.cap, .slice y.s.heldS.a y.s.heldS.n y.s.heldS.cap, .slice y.s.piecesS.a y.s.piecesS.n y.s.piecesS.cap, .slice y.s.movesS.a y.s.movesS.n y.s.movesS.cap]] X.1 fun e w' => e = .returned (.bool (ownB x y)) ∧ ∃ Y : Later wr, w' = Y.1) := fun X =>
            later_call (is_22 x y X.1 ((HS.out x (List.mem_of_getElem? hx)).1.below (HBW.out.trans (X.2.mono HBW.out.size))) ((HS.out y (List.mem_of_getElem? hy)).1.below (HBW.out.trans (X.2.mono HBW.out.size))) (HS.out x (List.mem_of_getElem? hx)).2 (HS.out y (List.mem_of_getElem? hy)).2)
          have HX := Lib.hid hx
          have HY := Lib.hid hy
          have HNX : badB ownB x y = false → Hid (∀ X : Later wr, Hid (Below W0.heap.size W0 X.1 ∧ ∀ (b : Nat) x y, j < b → b < m + 1 → L[j]? = some x → L[b]? = some y → badB ownB x y = false)) := fun hb X => ⟨HV.out.1.trans (X.2.mono HV.out.1.size), fun b x' y' h1 h2 h3 h4 => by
            by_cases e : b = m
            · subst e
              rw [HX.out] at h3
              rw [HY.out] at h4
              cases h3
              cases h4
              exact hb
            · exact HV.out.2 b x' y' h1 (by omega) h3 h4⟩
          have HNY := Lib.hid HNX
          clear hx hy uc vc hgg HNX
          cases hgr : decide (0 ≤ min x.group y.group) with
          | false =>
            have HNX := HNY.out (by unfold badB; rw [hgr]; rfl)
            clear HNY
            go_wp2_with fail
            have here := Later.here wr
            refine wp_region_later (by kernel_rfl) (by kernel_rfl) ?_
            iterate 24 (with_reducible refine wpQuiet_step (fun K hK => ?_); go_simp; first | (refine hK _ ?_; clear hK K) | (apply Exists.intro; refine ⟨fun _ => ?_, hK _ ?_⟩; (go_at_call 22; with_reducible exact HQ.out _); clear hK K))
            with_reducible refine wpQuiet_nil ?_
            intro X
            go_wp2_with fail
            exact ⟨⟨m + 1, by omega, by omega, by simp, HNX.out X⟩, by simp [intOf]; omega⟩
          | true =>
            cases hbb : ownB x y with
            | false =>
              have HNX := HNY.out (by unfold badB; rw [hgr, hbb]; rfl)
              rw [hbb] at HQ
              clear HNY hbb
              go_wp2_with fail
              have here := Later.here wr
              refine wp_region_later (by kernel_rfl) (by kernel_rfl) ?_
              iterate 24 (with_reducible refine wpQuiet_step (fun K hK => ?_); go_simp; first | (refine hK _ ?_; clear hK K) | (apply Exists.intro; refine ⟨fun _ => ?_, hK _ ?_⟩; (go_at_call 22; with_reducible exact HQ.out _); clear hK K))
              with_reducible refine wpQuiet_nil ?_
              intro X
              go_wp2_with fail
              exact ⟨⟨m + 1, by omega, by omega, by simp, HNX.out X⟩, by simp [intOf]; omega⟩
            | true =>
              have HBAD : Hid (badB ownB x y = true) := by show _ = _; unfold badB; rw [hgr, hbb]; rfl
              rw [hbb] at HQ
              clear HNY hbb
              have HRB : Hid (∀ X : Later wr, X.1.heap[w.heap.size]? = some (.cells #[.int .i64 0, .int .i64 0, .int .i64 0] 31 (0, 0))) := fun X => ((HV.out.1.trans (X.2.mono HV.out.1.size)).block _ (lt_of_heap HR0.out)).trans HR0.out
              go_wp2_with fail
              have here := Later.here wr
              refine wp_region_later (by kernel_rfl) (by kernel_rfl) ?_
              iterate 24 (with_reducible refine wpQuiet_step (fun K hK => ?_); go_simp; first | (refine hK _ ?_; clear hK K) | (apply Exists.intro; refine ⟨fun _ => ?_, hK _ ?_⟩; (go_at_call 22; with_reducible exact HQ.out _); clear hK K))
              with_reducible refine wpQuiet_nil ?_
              intro X
              have hrb := HRB.out X
              have hb := HBW.out.trans (X.2.mono HBW.out.size)
              have r0 : X.1.cell? ⟨w.heap.size, 0, none⟩ = some (.int .i64 0) := by rw [cell_of_row _ _ _ _ _ _ hrb]; rfl
              have r1 : X.1.cell? ⟨w.heap.size, 1, none⟩ = some (.int .i64 0) := by rw [cell_of_row _ _ _ _ _ _ hrb]; rfl
              have r2 : X.1.cell? ⟨w.heap.size, 2, none⟩ = some (.int .i64 0) := by rw [cell_of_row _ _ _ _ _ _ hrb]; rfl
              have fz : ∀ i, X.1.frozen? ⟨w.heap.size, i, none⟩ = false := fun i => by simp [World.frozen?, hrb]
              have f3 : X.1.cell? ⟨pf, 0, none⟩ = some (.int .i64 fault) := (X.2.cell (p := ⟨pf, 0, none⟩) lf2).trans q3
              have hrl := lt_of_heap hrb
              have lf3 := Nat.lt_of_lt_of_le lf2 X.2.size
              have HBX := Lib.hid hb
              obtain ⟨WX, hWX⟩ : ∃ WX, WX = X.1 := ⟨_, rfl⟩
              rw [← hWX] at r0 r1 r2 fz f3 hrl lf3 HBX ⊢
              clear hrb hb hWX HRB HQ p1 p2 u0 v0 u1 v1 u2 v2 u3 v3 u4 v4 u5 v5 u6 v6 u7 v7 u8 v8 u9 v9 u10 v10 u11 v11 u12 v12
              go_wp2_with fail
              refine bodyPost_ret (v := .agg #[.int .i64 fault, .int .i64 (j : Int), .int .i64 (m : Int)]) (by simp [results, Try.results14, go_sem, r0, r1, r2]) rfl ⟨⟨fault, (j : Int), (m : Int)⟩, rfl, ?_, .inr ⟨j, m, x, y, by omega, HX.out, HY.out, HBAD.out, rfl⟩⟩
              have hb := HBX.out
              go_grown
        · obtain rfl : m = n := by omega
          have HN2 : Hid (Below W0.heap.size W0 wr ∧ ∀ (a b : Nat) x y, a < j + 1 → a < b → L[a]? = some x → L[b]? = some y → badB ownB x y = false) := ⟨HV.out.1, fun a b x y h1 h2 h3 h4 => by
            by_cases e : a = j
            · subst e
              exact HV.out.2 b x y h2 (by rw [HN.out]; exact (List.getElem?_eq_some_iff.1 h4).1) h3 h4
            · exact HP.out.2 a b x y (by omega) h2 h3 h4⟩
          go_wp2_with fail
          exact ⟨⟨j + 1, by omega, by simp, HN2⟩, by simp [intOf]; omega⟩
    · obtain rfl : j = n := by omega
      have hrb := (HP.out.1.block _ (lt_of_heap HR0.out)).trans HR0.out
      have r0 : wr.cell? ⟨w.heap.size, 0, none⟩ = some (.int .i64 0) := by rw [cell_of_row _ _ _ _ _ _ hrb]; rfl
      have r1 : wr.cell? ⟨w.heap.size, 1, none⟩ = some (.int .i64 0) := by rw [cell_of_row _ _ _ _ _ _ hrb]; rfl
      have r2 : wr.cell? ⟨w.heap.size, 2, none⟩ = some (.int .i64 0) := by rw [cell_of_row _ _ _ _ _ _ hrb]; rfl
      have fz : ∀ i, wr.frozen? ⟨w.heap.size, i, none⟩ = false := fun i => by simp [World.frozen?, hrb]
      have hrl := lt_of_heap hrb
      have HBX : Hid (Below w.heap.size w wr) := HB0.out.trans (HP.out.1.mono HB0.out.size)
      clear hrb
      go_wp2_with fail
      refine bodyPost_ret (v := .agg #[.int .i64 0, .int .i64 0, .int .i64 0]) (by simp [results, Try.results14, go_sem, r0, r1, r2]) rfl ⟨verd0, rfl, ?_, .inl ⟨rfl, fun a b x y h1 h2 h3 => HP.out.2 a b x y (by rw [HN.out]; exact (List.getElem?_eq_some_iff.1 h2).1) h1 h2 h3⟩⟩
      have hb := HBX.out
      go_grown
end Go.Proofs.Ytpcmkifgfokdpaa
