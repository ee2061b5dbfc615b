/- A judge: is a trial too much? -/
import Derived.Test.YtpcmkifgfokdpaaJargs
import Derived.BigQuiet
import Derived.Deep.QuietTactic
namespace Go.Proofs.Ytpcmkifgfokdpaa
open Go.RowKit Go.My Go.My.Model Go.Deep
def tw : List Tx → Nat
  | [] => 0
  | t :: T => 1 + t.reads.length + t.writes.length + tw T
def sw : List Seen → Nat
  | [] => 0
  | s :: S => 1 + s.ran.length + s.says.length + s.recs.length + s.ents.length + s.held.length + sw S
theorem tw_app : ∀ (a b : List Tx), tw (a ++ b) = tw a + tw b
  | [], b => by simp [tw]
  | x :: a, b => by rw [List.cons_append]; simp only [tw, tw_app a b]; omega
theorem sw_app : ∀ (a b : List Seen), sw (a ++ b) = sw a + sw b
  | [], b => by simp [sw]
  | x :: a, b => by rw [List.cons_append]; simp only [sw, sw_app a b]; omega
theorem tw_step {T : List Tx} {j : Nat} {t : Tx} (h : T[j]? = some t) : tw (T.take (j + 1)) = tw (T.take j) + (1 + t.reads.length + t.writes.length) := by
  rw [List.take_add_one, h, tw_app]
  simp [tw]
theorem sw_step {T : List Seen} {j : Nat} {s : Seen} (h : T[j]? = some s) : sw (T.take (j + 1)) = sw (T.take j) + (1 + s.ran.length + s.says.length + s.recs.length + s.ents.length + s.held.length) := by
  rw [List.take_add_one, h, sw_app]
  simp [sw]
theorem tw_mem {T : List Tx} {t : Tx} (h : t ∈ T) : t.reads.length + t.writes.length ≤ tw T := by
  induction T with
  | nil => cases h
  | cons x T ih =>
    have e : tw (x :: T) = 1 + x.reads.length + x.writes.length + tw T := rfl
    rw [e]
    rcases List.mem_cons.1 h with h | h
    · rw [h]; omega
    · have := ih h; omega
theorem sw_mem {T : List Seen} {s : Seen} (h : s ∈ T) : s.ran.length + s.says.length + s.recs.length + s.ents.length + s.held.length ≤ sw T := by
  induction T with
  | nil => cases h
  | cons x T ih =>
    have e : sw (x :: T) = 1 + x.ran.length + x.says.length + x.recs.length + x.ents.length + x.held.length + sw T := rfl
    rw [e]
    rcases List.mem_cons.1 h with h | h
    · rw [h]; omega
    · have := ih h; omega
theorem tw_len : ∀ (T : List Tx), T.length ≤ tw T
  | [] => by simp [tw]
  | x :: T => by have := tw_len T; simp only [tw, List.length_cons]; omega
theorem sw_len : ∀ (T : List Seen), T.length ≤ sw T
  | [] => by simp [sw]
  | x :: T => by have := sw_len T; simp only [sw, List.length_cons]; omega
theorem tw_flat : ∀ (T : List Tx), (T.flatMap Tx.writes).length ≤ tw T
  | [] => by simp [tw]
  | x :: T => by have := tw_flat T; simp only [tw, List.flatMap_cons, List.length_append]; omega
def Small (T : List Tx) (G : List Int) (S : List Seen) : Prop := G.length + tw T + sw S < 600
theorem Small.few {T : List Tx} {G : List Int} {S : List Seen} (h : Small T G S) : FewT T ∧ G.length ≤ 1000 ∧ S.length ≤ 1000 ∧ ∀ s ∈ S, Few s := by
  unfold Small at h
  have h1 := tw_len T
  have h2 := sw_len S
  refine ⟨⟨by omega, fun t ht => by have := tw_mem ht; omega, ?_⟩, by omega, by omega, fun s hs => ?_⟩
  · have := tw_flat T
    unfold flat
    rw [List.take_of_length_le (Nat.le_refl _)]
    omega
  · have := sw_mem hs
    exact ⟨by omega, by omega, by omega, by omega, by omega⟩
def GreatLeft (w : World) (T : List Tx) (G : List Int) (S : List Seen) (e : Ending) (w' : World) : Prop := ∃ g : Bool, e = .returned (.bool g) ∧ (g = false → Small T G S) ∧ Below w.heap.size w w'
set_option maxRecDepth 100000 in
set_option maxHeartbeats 3200000 in
theorem great_7 (T : List Tx) (G : List Int) (S : List Seen) (w : World) (oa ga sa : Option Addr) (ocap gcap scap : Nat) (ho : OrdFar [] w oa T) (hf : FineT T) (hs : Lies w sa 12 seenL S) (hin : ∀ s ∈ S, SeenIn w s ∧ FineS s) (hg9 : G.length ≤ 70368744177664) (hs9 : S.length ≤ 70368744177664) :
    Calls Try.prog 7 #[.agg #[.slice oa T.length ocap, .slice ga G.length gcap, .slice sa S.length scap]] w (GreatLeft w T G S) := by
  have HO := Lib.hid ho
  have HF := Lib.hid hf
  have HS := Lib.hid hs
  have HIN := Lib.hid hin
  obtain ⟨n, hn⟩ : ∃ n, n = S.length := ⟨_, rfl⟩
  obtain ⟨gn, hgn⟩ : ∃ gn, gn = G.length := ⟨_, rfl⟩
  obtain ⟨tn, htn⟩ : ∃ tn, tn = T.length := ⟨_, rfl⟩
  have HN := Lib.hid hn
  have HGN := Lib.hid hgn
  have HTN := Lib.hid htn
  have hf1 := hf.1
  have hn8 : (n : Int) ≤ 70368744177664 := by omega
  have hgn8 : (gn : Int) ≤ 70368744177664 := by omega
  have htn8 : (tn : Int) ≤ 70368744177664 := by omega
  rw [← hn, ← hgn, ← htn]
  clear ho hf hs hin hn hgn htn hg9 hs9 hf1
  obtain ⟨W0, hW0⟩ : ∃ W0, W0 = w.alloc (.cells #[.slice oa tn ocap, .slice ga gn gcap, .slice sa n scap] 26) := ⟨_, rfl⟩
  have HB0 : Hid (Below w.heap.size w W0) := by show Below _ _ _; rw [hW0]; exact (Below.refl _ w).alloc (Nat.le_refl _) _
  have HT0 : Hid (W0.heap[w.heap.size]? = some (.cells #[.slice oa tn ocap, .slice ga gn gcap, .slice sa n scap] 26 (0, 0))) := by show _ = _; rw [hW0]; exact heap_alloc_new w _
  have HPT : Hid (∀ W, Below W0.heap.size W0 W → W.cell? ⟨w.heap.size, 0, none⟩ = some (.slice oa tn ocap) ∧ W.cell? ⟨w.heap.size, 2, none⟩ = some (.slice sa n scap) ∧ w.heap.size < W.heap.size) := fun W hb => by
    have h := (hb.block _ (lt_of_heap HT0.out)).trans HT0.out
    exact ⟨by rw [cell_of_row _ _ _ _ _ _ h]; rfl, by rw [cell_of_row _ _ _ _ _ _ h]; rfl, lt_of_heap h⟩
  have P0 : Hid (Below W0.heap.size W0 W0) := Below.refl _ _
  have hx0 : Hid (gn = gn + tw (T.take 0)) := rfl
  go_enter Try.func7, Try.ntmps7
  go_wp2_with fail
  rw [← hW0]
  clear hW0 HT0
  go_loopw [3, 4] (fun v i W => ∃ j x : Nat, j ≤ tn ∧ i = .int .i64 j ∧ v = .int .i64 x ∧ (x : Int) ≤ 1125899906842624 ∧ Hid (x = gn + tw (T.take j)) ∧ Hid (Below W0.heap.size W0 W)) (fun _ i _ => tn - (intOf i).toNat)
  case atStart => exact ⟨0, gn, by omega, rfl, rfl, by omega, hx0, P0⟩
  case round =>
    clear P0 hx0
    obtain ⟨j, x, hj, rfl, rfl, hx9, HX, HB⟩ := hrel
    obtain ⟨q0, q2, lw⟩ := HPT.out _ HB.out
    by_cases hstop : j < tn ∧ x < 600
    · obtain ⟨hlt, hx600⟩ := hstop
      obtain ⟨t, ht⟩ : ∃ t, T[j]? = some t := ⟨_, List.getElem?_eq_getElem (by rw [← HTN.out]; exact hlt)⟩
      obtain ⟨g, o, rfl, htx⟩ := HO.out j t ht
      obtain ⟨ra, rc, x2, _⟩ := htx.c2
      obtain ⟨wa, wc, x3, _⟩ := htx.c3
      have hbw := HB0.out.trans (HB.out.mono HB0.out.size)
      have c2 := (hbw.cell (p := ⟨g, o + j * 4 + 2, none⟩) htx.lt).trans x2
      have c3 := (hbw.cell (p := ⟨g, o + j * 4 + 3, none⟩) htx.lt).trans x3
      have hg2 : g < wr.heap.size := Nat.lt_of_lt_of_le htx.lt hbw.size
      obtain ⟨hr9, hw9⟩ := HF.out.2 t (List.mem_of_getElem? ht)
      have hst := tw_step ht
      obtain ⟨rl, hrl⟩ : ∃ rl, rl = t.reads.length := ⟨_, rfl⟩
      obtain ⟨wl, hwl⟩ : ∃ wl, wl = t.writes.length := ⟨_, rfl⟩
      rw [← hrl] at c2 hr9 hst
      rw [← hwl] at c3 hw9 hst
      have HST : Hid (x + 1 + rl + wl = gn + tw (T.take (j + 1))) := by show _ = _; rw [hst]; have := HX.out; omega
      have HND : Hid (∀ nq, Below W0.heap.size W0 (wr.drewN nq)) := fun nq => HB.out.trans ⟨rfl, rfl, rfl, by simp, fun _ _ => rfl⟩
      have hx8 : (x : Int) < 600 := by omega
      have hr8 : (rl : Int) ≤ 70368744177664 := by omega
      have hw8 : (wl : Int) ≤ 70368744177664 := by omega
      have hj0 : (0 : Int) ≤ (j : Int) := by omega
      have hj1 : (j : Int) < (tn : Int) := by omega
      clear ht htx x2 x3 hst hrl hwl hr9 hw9 hbw
      go_wp2_with fail
      go_quiet (fail)
      go_wp2_with fail
      exact ⟨⟨j + 1, x + 1 + rl + wl, by omega, by simp, by simp, by omega, HST, HND.out _⟩, by simp [intOf]; omega⟩
    · by_cases hlt : j < tn
      · have hj1 : (j : Int) < (tn : Int) := by omega
        have hx8 : ¬ (x : Int) < 600 := by omega
        have HX2 : Hid (x < 600 → x = gn + tw T) := fun h => by omega
        have P2 : Hid (x < 600 → x = gn + tw T + sw (S.take 0)) := fun h => by have h2 := HX2.out h; show x = gn + tw T + 0; omega
        clear HX HX2
        go_wp2_with fail
        go_loopw [3, 5] (fun v i W => ∃ j x : Nat, j ≤ n ∧ i = .int .i64 j ∧ v = .int .i64 x ∧ (x : Int) ≤ 1125899906842624 ∧ Hid (x < 600 → x = gn + tw T + sw (S.take j)) ∧ Hid (Below W0.heap.size W0 W)) (fun _ i _ => n - (intOf i).toNat)
        case atStart => exact ⟨0, x, by omega, rfl, rfl, hx9, P2, HB⟩
        case round =>
          clear P2 HB q0 q2 lw
          obtain ⟨k, y, hk, rfl, rfl, hy9, HY, HB⟩ := hrel
          obtain ⟨q0, q2, lw⟩ := HPT.out _ HB.out
          have hbw := HB0.out.trans (HB.out.mono HB0.out.size)
          have HBW := Lib.hid hbw
          by_cases hy600 : y < 600
          · have hy8 : (y : Int) < 600 := by omega
            by_cases hkn : k < n
            · obtain ⟨s, hs⟩ : ∃ s, S[k]? = some s := ⟨_, List.getElem?_eq_getElem (by rw [← HN.out]; exact hkn)⟩
              obtain ⟨sg, so, rfl, hsg, sc⟩ := HS.out.below hbw k s hs
              have s0 : wr.cell? ⟨sg, so + k * 12, none⟩ = some (.int .i64 s.view) := sc 0 _ rfl
              have s1 : wr.cell? ⟨sg, so + k * 12 + 1, none⟩ = some (.bool s.normal) := sc 1 _ rfl
              have s2 : wr.cell? ⟨sg, so + k * 12 + 2, none⟩ = some (.int .i64 s.done) := sc 2 _ rfl
              have s3 : wr.cell? ⟨sg, so + k * 12 + 3, none⟩ = some (.int .i64 s.stable) := sc 3 _ rfl
              have s4 : wr.cell? ⟨sg, so + k * 12 + 4, none⟩ = some (.int .i64 s.pending) := sc 4 _ rfl
              have s5 : wr.cell? ⟨sg, so + k * 12 + 5, none⟩ = some (.slice s.ranS.a s.ranS.n s.ranS.cap) := sc 5 _ rfl
              have s6 : wr.cell? ⟨sg, so + k * 12 + 6, none⟩ = some (.slice s.saysS.a s.saysS.n s.saysS.cap) := sc 6 _ rfl
              have s7 : wr.cell? ⟨sg, so + k * 12 + 7, none⟩ = some (.slice s.recsS.a s.recsS.n s.recsS.cap) := sc 7 _ rfl
              have s8 : wr.cell? ⟨sg, so + k * 12 + 8, none⟩ = some (.slice s.entsS.a s.entsS.n s.entsS.cap) := sc 8 _ rfl
              have s9 : wr.cell? ⟨sg, so + k * 12 + 9, none⟩ = some (.slice s.heldS.a s.heldS.n s.heldS.cap) := sc 9 _ rfl
              have s10 : wr.cell? ⟨sg, so + k * 12 + 10, none⟩ = some (.slice s.piecesS.a s.piecesS.n s.piecesS.cap) := sc 10 _ rfl
              have s11 : wr.cell? ⟨sg, so + k * 12 + 11, none⟩ = some (.slice s.movesS.a s.movesS.n s.movesS.cap) := sc 11 _ rfl
              obtain ⟨hsi, hsf⟩ := HIN.out s (List.mem_of_getElem? hs)
              have hst := sw_step hs
              obtain ⟨rl, hrl⟩ : ∃ z, z = s.ran.length := ⟨_, rfl⟩
              rw [hsi.ranN, ← hrl] at s5
              obtain ⟨yl, hyl⟩ : ∃ z, z = s.says.length := ⟨_, rfl⟩
              rw [hsi.saysN, ← hyl] at s6
              obtain ⟨cl, hcl⟩ : ∃ z, z = s.recs.length := ⟨_, rfl⟩
              rw [hsi.recsN, ← hcl] at s7
              obtain ⟨el, hel⟩ : ∃ z, z = s.ents.length := ⟨_, rfl⟩
              rw [hsi.entsN, ← hel] at s8
              obtain ⟨hl, hhl⟩ : ∃ z, z = s.held.length := ⟨_, rfl⟩
              rw [hsi.heldN, ← hhl] at s9
              have hall : (rl : Int) ≤ 70368744177664 ∧ (yl : Int) ≤ 70368744177664 ∧ (cl : Int) ≤ 70368744177664 ∧ (el : Int) ≤ 70368744177664 ∧ (hl : Int) ≤ 70368744177664 := by
                have a1 := hsf.ran; have a2 := hsf.says; have a3 := hsf.recs; have a4 := hsf.ents; have a5 := hsf.held
                omega
              obtain ⟨brl, byl, bcl, bel, bhl⟩ := hall
              have HST : Hid (y + 1 + rl + yl + cl + el + hl < 600 → y + 1 + rl + yl + cl + el + hl = gn + tw T + sw (S.take (k + 1))) := fun _ => by
                have h := HY.out hy600
                rw [hst, h]
                omega
              have hk0 : (0 : Int) ≤ (k : Int) := by omega
              have hk1 : (k : Int) < (n : Int) := by omega
              clear hs sc hsi hsf hst hbw hrl hyl hcl hel hhl hy600
              go_wp2_with fail
              exact ⟨⟨k + 1, y + 1 + rl + yl + cl + el + hl, by omega, by simp, by simp, by omega, HST, HB.out.alloc HB.out.size _⟩, by simp [intOf]; omega⟩
            · obtain rfl : k = n := by omega
              have HSM : Hid (Small T G S) := by
                have h := HY.out hy600
                rw [List.take_of_length_le (by rw [HN.out]; exact Nat.le_refl _)] at h
                show G.length + tw T + sw S < 600
                rw [← HGN.out]
                omega
              have hd : decide ((600 : Int) ≤ (y : Int)) = false := decide_eq_false (by omega)
              go_wp2_with fail
              go_ret
              exact ⟨false, by rw [← hd]; rfl, fun _ => HSM.out, HBW.out⟩
          · have hy8 : ¬ (y : Int) < 600 := by omega
            have hd : decide ((600 : Int) ≤ (y : Int)) = true := decide_eq_true (by omega)
            by_cases hkn : k < n
            · have hk1 : (k : Int) < (n : Int) := by omega
              go_wp2_with fail
              go_ret
              exact ⟨true, by rw [← hd]; rfl, (fun h => by cases h), HBW.out⟩
            · have hk1 : ¬ (k : Int) < (n : Int) := by omega
              go_wp2_with fail
              go_ret
              exact ⟨true, by rw [← hd]; rfl, (fun h => by cases h), HBW.out⟩
      · have hj1 : ¬ (j : Int) < (tn : Int) := by omega
        have HX2 : Hid (x < 600 → x = gn + tw T) := fun h => by
          have h1 := HX.out
          rw [List.take_of_length_le (by rw [← HTN.out]; omega)] at h1
          exact h1
        have P2 : Hid (x < 600 → x = gn + tw T + sw (S.take 0)) := fun h => by have h2 := HX2.out h; show x = gn + tw T + 0; omega
        clear HX HX2
        go_wp2_with fail
        go_loopw [3, 5] (fun v i W => ∃ j x : Nat, j ≤ n ∧ i = .int .i64 j ∧ v = .int .i64 x ∧ (x : Int) ≤ 1125899906842624 ∧ Hid (x < 600 → x = gn + tw T + sw (S.take j)) ∧ Hid (Below W0.heap.size W0 W)) (fun _ i _ => n - (intOf i).toNat)
        case atStart => exact ⟨0, x, by omega, rfl, rfl, hx9, P2, HB⟩
        case round =>
          clear P2 HB q0 q2 lw
          obtain ⟨k, y, hk, rfl, rfl, hy9, HY, HB⟩ := hrel
          obtain ⟨q0, q2, lw⟩ := HPT.out _ HB.out
          have hbw := HB0.out.trans (HB.out.mono HB0.out.size)
          have HBW := Lib.hid hbw
          by_cases hy600 : y < 600
          · have hy8 : (y : Int) < 600 := by omega
            by_cases hkn : k < n
            · obtain ⟨s, hs⟩ : ∃ s, S[k]? = some s := ⟨_, List.getElem?_eq_getElem (by rw [← HN.out]; exact hkn)⟩
              obtain ⟨sg, so, rfl, hsg, sc⟩ := HS.out.below hbw k s hs
              have s0 : wr.cell? ⟨sg, so + k * 12, none⟩ = some (.int .i64 s.view) := sc 0 _ rfl
              have s1 : wr.cell? ⟨sg, so + k * 12 + 1, none⟩ = some (.bool s.normal) := sc 1 _ rfl
              have s2 : wr.cell? ⟨sg, so + k * 12 + 2, none⟩ = some (.int .i64 s.done) := sc 2 _ rfl
              have s3 : wr.cell? ⟨sg, so + k * 12 + 3, none⟩ = some (.int .i64 s.stable) := sc 3 _ rfl
              have s4 : wr.cell? ⟨sg, so + k * 12 + 4, none⟩ = some (.int .i64 s.pending) := sc 4 _ rfl
              have s5 : wr.cell? ⟨sg, so + k * 12 + 5, none⟩ = some (.slice s.ranS.a s.ranS.n s.ranS.cap) := sc 5 _ rfl
              have s6 : wr.cell? ⟨sg, so + k * 12 + 6, none⟩ = some (.slice s.saysS.a s.saysS.n s.saysS.cap) := sc 6 _ rfl
              have s7 : wr.cell? ⟨sg, so + k * 12 + 7, none⟩ = some (.slice s.recsS.a s.recsS.n s.recsS.cap) := sc 7 _ rfl
              have s8 : wr.cell? ⟨sg, so + k * 12 + 8, none⟩ = some (.slice s.entsS.a s.entsS.n s.entsS.cap) := sc 8 _ rfl
              have s9 : wr.cell? ⟨sg, so + k * 12 + 9, none⟩ = some (.slice s.heldS.a s.heldS.n s.heldS.cap) := sc 9 _ rfl
              have s10 : wr.cell? ⟨sg, so + k * 12 + 10, none⟩ = some (.slice s.piecesS.a s.piecesS.n s.piecesS.cap) := sc 10 _ rfl
              have s11 : wr.cell? ⟨sg, so + k * 12 + 11, none⟩ = some (.slice s.movesS.a s.movesS.n s.movesS.cap) := sc 11 _ rfl
              obtain ⟨hsi, hsf⟩ := HIN.out s (List.mem_of_getElem? hs)
              have hst := sw_step hs
              obtain ⟨rl, hrl⟩ : ∃ z, z = s.ran.length := ⟨_, rfl⟩
              rw [hsi.ranN, ← hrl] at s5
              obtain ⟨yl, hyl⟩ : ∃ z, z = s.says.length := ⟨_, rfl⟩
              rw [hsi.saysN, ← hyl] at s6
              obtain ⟨cl, hcl⟩ : ∃ z, z = s.recs.length := ⟨_, rfl⟩
              rw [hsi.recsN, ← hcl] at s7
              obtain ⟨el, hel⟩ : ∃ z, z = s.ents.length := ⟨_, rfl⟩
              rw [hsi.entsN, ← hel] at s8
              obtain ⟨hl, hhl⟩ : ∃ z, z = s.held.length := ⟨_, rfl⟩
              rw [hsi.heldN, ← hhl] at s9
              have hall : (rl : Int) ≤ 70368744177664 ∧ (yl : Int) ≤ 70368744177664 ∧ (cl : Int) ≤ 70368744177664 ∧ (el : Int) ≤ 70368744177664 ∧ (hl : Int) ≤ 70368744177664 := by
                have a1 := hsf.ran; have a2 := hsf.says; have a3 := hsf.recs; have a4 := hsf.ents; have a5 := hsf.held
                omega
              obtain ⟨brl, byl, bcl, bel, bhl⟩ := hall
              have HST : Hid (y + 1 + rl + yl + cl + el + hl < 600 → y + 1 + rl + yl + cl + el + hl = gn + tw T + sw (S.take (k + 1))) := fun _ => by
                have h := HY.out hy600
                rw [hst, h]
                omega
              have hk0 : (0 : Int) ≤ (k : Int) := by omega
              have hk1 : (k : Int) < (n : Int) := by omega
              clear hs sc hsi hsf hst hbw hrl hyl hcl hel hhl hy600
              go_wp2_with fail
              exact ⟨⟨k + 1, y + 1 + rl + yl + cl + el + hl, by omega, by simp, by simp, by omega, HST, HB.out.alloc HB.out.size _⟩, by simp [intOf]; omega⟩
            · obtain rfl : k = n := by omega
              have HSM : Hid (Small T G S) := by
                have h := HY.out hy600
                rw [List.take_of_length_le (by rw [HN.out]; exact Nat.le_refl _)] at h
                show G.length + tw T + sw S < 600
                rw [← HGN.out]
                omega
              have hd : decide ((600 : Int) ≤ (y : Int)) = false := decide_eq_false (by omega)
              go_wp2_with fail
              go_ret
              exact ⟨false, by rw [← hd]; rfl, fun _ => HSM.out, HBW.out⟩
          · have hy8 : ¬ (y : Int) < 600 := by omega
            have hd : decide ((600 : Int) ≤ (y : Int)) = true := decide_eq_true (by omega)
            by_cases hkn : k < n
            · have hk1 : (k : Int) < (n : Int) := by omega
              go_wp2_with fail
              go_ret
              exact ⟨true, by rw [← hd]; rfl, (fun h => by cases h), HBW.out⟩
            · have hk1 : ¬ (k : Int) < (n : Int) := by omega
              go_wp2_with fail
              go_ret
              exact ⟨true, by rw [← hd]; rfl, (fun h => by cases h), HBW.out⟩
end Go.Proofs.Ytpcmkifgfokdpaa
