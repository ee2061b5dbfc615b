/- The model: a beginning. -/
import Derived.Test.YtacdnpacpndekaaPre
import Derived.WalkLawsBesides
import Derived.BigQuiet
import Derived.Deep.RegionWith
import Derived.Deep.DeepCutAuto
namespace Go.Proofs.Ytacdnpacpndekaa
open Go.RowKit Go.My Go.My.Model Go.Deep
/-- what a call of At left: the entry in a block of its own, and that it is there -/
def Elder5 (w : World) (e : Ent) (x y : Value) (W : World) : Prop := ∃ g, x = .pointer (some ⟨g, 0, none⟩) ∧ y = .bool true ∧ W.heap[g]? = some (.cells #[.string e.key, .string e.value, .int .i64 e.ver] 26 (0, 0)) ∧ Below w.heap.size w W
theorem elder5_new {wr w' : World} {e : Ent} (hb : Below wr.drew.heap.size wr.drew w') : Elder5 wr e (.pointer (some ⟨w'.heap.size, 0, none⟩)) (.bool true) (w'.alloc (.cells #[.string e.key, .string e.value, .int .i64 e.ver] 26)) := by
  have h : Below wr.heap.size wr w' := (Below.refl _ wr).drew.trans hb
  exact ⟨_, rfl, rfl, heap_alloc_new w' _, h.alloc h.size _⟩
theorem elder5_old {wr w' : World} {e : Ent} (hb : Below wr.heap.size wr w') (hrow : w'.heap[wr.heap.size]? = some (.cells #[.string ⟨#[]⟩, .string ⟨#[]⟩, .int .i64 0] 26 (0, 0))) :
    Elder5 wr e (.pointer (some ⟨wr.heap.size, 0, none⟩)) (.bool true) (((w'.setCell ⟨wr.heap.size, 0, none⟩ (.string e.key)).setCell ⟨wr.heap.size, 1, none⟩ (.string e.value)).setCell ⟨wr.heap.size, 2, none⟩ (.int .i64 e.ver)) := by
  have h1 := heap_setCell_same _ wr.heap.size 0 _ _ (.string e.key) hrow
  have h2 := heap_setCell_same _ wr.heap.size 1 _ _ (.string e.value) h1
  have h3 := heap_setCell_same _ wr.heap.size 2 _ _ (.int .i64 e.ver) h2
  have hw := (((Wrote.of_below (S := []) hb).setCell (p := ⟨wr.heap.size, 0, none⟩) (.inr (Nat.le_refl _)) (.string e.key)).setCell (p := ⟨wr.heap.size, 1, none⟩) (.inr (Nat.le_refl _)) (.string e.value)).setCell (p := ⟨wr.heap.size, 2, none⟩) (.inr (Nat.le_refl _)) (.int .i64 e.ver)
  exact ⟨_, rfl, rfl, h3, hw.below (Nat.le_refl _) (by simp)⟩
set_option maxRecDepth 100000 in
set_option maxHeartbeats 3200000 in
theorem prefix_any (a : Option Addr) (n cap : Nat) (T : List Tx) (u : Int) (key : ByteArray) (w : World) (ha : Asks w a n cap T) (hp : AsksPre w a n cap T) (hu0 : 0 ≤ u) (hu1 : u ≤ 255) (hcap : n ≤ cap) (_ : cap ≤ maxLen) :
    Calls Try.prog 5 #[.slice a n cap, .int .u8 u, .string key] w fun e w' => e = .returned (.bool true) ∧ Below w.heap.size w w' := by
  have HA := Lib.hid ha
  have HP := Lib.hid hp
  clear ha hp
  go_enter Try.func5, Try.ntmps5
  go_wp2_with fail
  refine (HA.out.head w).mono ?_
  rintro e w1 ⟨rfl, hb1⟩
  have HB1 := Lib.hid hb1
  clear hb1
  go_wp2_with fail
  refine (HA.out.great w1 HB1.out).mono ?_
  rintro e w2 ⟨g, rfl, hg, hb2⟩
  have HB2 : Hid (Below w.heap.size w w2) := HB1.out.trans (hb2.mono HB1.out.size)
  cases g with
  | true =>
    clear hg hb2
    go_wp2_with fail
    go_ret
    exact ⟨rfl, HB2.out⟩
  | false =>
    have HS : Hid (Small T) := hg rfl
    have hn40 : (n : Int) ≤ 40 := by have h1 := HA.out.len; have h2 := HS.out.1; omega
    obtain ⟨k, hk, hkn⟩ : ∃ k : Nat, u.tmod ((n : Int) + 1) = (k : Int) ∧ k ≤ n := by
      have h1 := Int.tmod_nonneg ((n : Int) + 1) hu0
      have h2 := Int.tmod_lt_of_pos u (b := (n : Int) + 1) (by omega)
      exact ⟨(u.tmod ((n : Int) + 1)).toNat, by omega, by omega⟩
    have hk2 : (k : Int) ≤ (n : Int) := by omega
    have hk3 : (k : Int) ≤ (cap : Int) := by omega
    have hk4 : (0 : Int) ≤ (k : Int) := by omega
    clear hg hb2
    go_wp2_with fail
    refine (HP.out.run w2 k HB2.out HS.out hkn).mono ?_
    rintro e w3 hrun
    obtain ⟨ra, rc, rfl, hl3⟩ := left_open hrun
    have HL := Lib.hid hl3
    have hb3 := hl3.below
    have HB3 : Hid (Below w.heap.size w w3) := HB2.out.trans (hb3.mono HB2.out.size)
    obtain ⟨ws', hws'⟩ : ∃ ws', ws' = flat T k := ⟨_, rfl⟩
    have HPRE : Hid (ws' <+: flat T T.length) := by show _ <+: _; rw [hws']; exact flat_pre T k
    have hfw : ws'.length ≤ 1600 := by rw [hws']; exact small_flat HS.out _
    have hrl := run_few ws'
    rw [← hws'] at HL ⊢
    obtain ⟨L, hL⟩ : ∃ L, L = runL (stateOf ws') := ⟨_, rfl⟩
    rw [← hL] at HL hrl ⊢
    obtain ⟨q, hq⟩ : ∃ q, q = L.length := ⟨_, rfl⟩
    rw [← hq] at hrl ⊢
    have HK := Lib.hid hq
    have hq0 : (q : Int) ≤ 1600 := by omega
    have HME : Hid (∀ e ∈ L, countK ws' e.key ≠ 0 ∧ e = entOf ws' e.key) := by rw [hL]; exact fun e he => run_mem.1 he
    clear hq hrl hL hws' hfw hrun hl3 hb3
    go_wp2_with fail
    go_loopw [10] (fun i W => ∃ m : Nat, m ≤ q ∧ i = .int .i64 m ∧ Hid (Below w3.heap.size w3 W)) (fun i _ => q - (intOf i).toNat)
    case atStart => exact ⟨0, by omega, rfl, Below.refl _ _⟩
    case round =>
      obtain ⟨m, hm, rfl, HBR⟩ := hrel
      by_cases hlm : m < q
      · obtain ⟨e, he⟩ : ∃ e, L[m]? = some e := ⟨_, List.getElem?_eq_getElem (by rw [← HK.out]; exact hlm)⟩
        obtain ⟨g, rfl, hg1, hg2, hce⟩ := HL.out.ent m e he
        obtain ⟨d0, d1, d2⟩ := hce _ HBR.out
        obtain ⟨hne, hee⟩ := HME.out e (List.mem_of_getElem? he)
        have hat := at_pre HPRE.out hne
        rw [← hee] at hat
        have hver : (countK ws' e.key : Int) = e.ver := by rw [hee]; rfl
        rw [hver] at hat
        have HAT := Lib.hid hat
        have HEC := Lib.hid hce
        have hm1 : (m : Int) < (q : Int) := by omega
        have hm2 : (0 : Int) ≤ (m : Int) := by omega
        have hg3 : g < wr.heap.size := Nat.lt_of_lt_of_le hg2 HBR.out.size
        have HCALL : Hid (∀ W, Below wr.heap.size wr W → Calls Try.prog 10 #[.slice a n cap, .string e.key, .int .i64 e.ver] W fun r w' => r = .returned (.tuple #[.agg #[.string e.key, .string e.value, .int .i64 e.ver], .bool true]) ∧ Below W.heap.size W w') := fun W hb => by
          have h := HA.out.at_ W e.key e.ver (HB3.out.trans ((HBR.out.trans (hb.mono HBR.out.size)).mono HB3.out.size)) HS.out
          unfold AtLeft at h
          rw [hat.1, hat.2] at h
          exact h
        have HCALL2 : Hid (Calls Try.prog 10 #[.slice a n cap, .string e.key, .int .i64 e.ver] (wr.drew.alloc (.cells #[.string ⟨#[]⟩, .string ⟨#[]⟩, .int .i64 0] 26)) fun r w' => r = .returned (.tuple #[.agg #[.string e.key, .string e.value, .int .i64 e.ver], .bool true]) ∧
            Below wr.heap.size wr w' ∧ w'.heap[wr.heap.size]? = some (.cells #[.string ⟨#[]⟩, .string ⟨#[]⟩, .int .i64 0] 26 (0, 0)) ∧ w'.cell? ⟨wr.heap.size, 0, none⟩ = some (.string ⟨#[]⟩) ∧ w'.cell? ⟨wr.heap.size, 1, none⟩ = some (.string ⟨#[]⟩) ∧ w'.cell? ⟨wr.heap.size, 2, none⟩ = some (.int .i64 0) ∧
            (∀ i, w'.frozen? ⟨wr.heap.size, i, none⟩ = false) ∧ wr.heap.size < w'.heap.size) := by
          have hbA : Below wr.heap.size wr (wr.drew.alloc (.cells #[.string ⟨#[]⟩, .string ⟨#[]⟩, .int .i64 0] 26)) := (Below.refl _ wr).drew.alloc (Nat.le_refl _) _
          refine (HCALL.out _ hbA).mono ?_
          rintro r w' ⟨rfl, hb⟩
          have hrow : w'.heap[wr.heap.size]? = some (.cells #[.string ⟨#[]⟩, .string ⟨#[]⟩, .int .i64 0] 26 (0, 0)) := (hb.block _ (by simp)).trans (heap_alloc_new wr.drew _)
          exact ⟨rfl, hbA.trans (hb.mono hbA.size), hrow, by rw [cell_of_row _ _ _ _ _ _ hrow]; rfl, by rw [cell_of_row _ _ _ _ _ _ hrow]; rfl, by rw [cell_of_row _ _ _ _ _ _ hrow]; rfl, fun i => by simp [World.frozen?, hrow], lt_of_heap hrow⟩
        clear hat hver hee hne he hce
        go_upto_region 9 with fail
        go_cut [11, 12] from 34 to 48 (fun x y wx => Elder5 wr e x y wx)
        case first =>
          go_region_with (go_at_call 10; first | (refine (HCALL.out _ (Below.refl _ wr).drew).mono ?_; rintro r w' ⟨rfl, hb⟩) | (refine HCALL2.out.mono ?_; rintro r w' ⟨rfl, hb, hrow, c0, c1, c2, fz, hlt2⟩))
          all_goals (go_wp2_with fail; go_meet; first | exact elder5_new hb | exact elder5_old hb hrow)
        case rest =>
          obtain ⟨gg, rfl, rfl, hrow, hb⟩ := hcut
          have HBC := Lib.hid (HBR.out.trans (hb.mono HBR.out.size))
          clear d0 d1 d2 hg3
          obtain ⟨d0, d1, d2⟩ := HEC.out _ HBC.out
          have hg3 : g < wc.heap.size := Nat.lt_of_lt_of_le hg2 HBC.out.size
          have hgg := lt_of_heap hrow
          have x0 : wc.cell? ⟨gg, 0, none⟩ = some (.string e.key) := by rw [cell_of_row _ _ _ _ _ _ hrow]; rfl
          have x1 : wc.cell? ⟨gg, 1, none⟩ = some (.string e.value) := by rw [cell_of_row _ _ _ _ _ _ hrow]; rfl
          have x2 : wc.cell? ⟨gg, 2, none⟩ = some (.int .i64 e.ver) := by rw [cell_of_row _ _ _ _ _ _ hrow]; rfl
          have HND : Hid (∀ nq, Below w3.heap.size w3 (wc.drewN nq)) := fun nq => HBC.out.trans ⟨rfl, rfl, rfl, by simp, fun _ _ => rfl⟩
          clear hrow hb HCALL HCALL2 HAT
          go_wp2_with fail
          go_quiet (fail)
          go_wp2_with fail
          exact ⟨⟨m + 1, by omega, by simp, HND.out _⟩, by simp [intOf]; omega⟩
      · obtain rfl : m = q := by omega
        have HB4 : Hid (Below w.heap.size w wr) := HB3.out.trans (HBR.out.mono HB3.out.size)
        obtain ⟨f, hf⟩ : ∃ f, f = fitsN T := ⟨_, rfl⟩
        have hfn : f ≤ n := by rw [hf, HA.out.len]; exact fits_le T
        have hf1 : (f : Int) ≤ (n : Int) := by omega
        have hf2 : (f : Int) ≤ (cap : Int) := by omega
        have hf3 : (0 : Int) ≤ (f : Int) := by omega
        have HF := Lib.hid hf
        clear hf
        go_wp2_with fail
        refine (HA.out.fits wr HB4.out HS.out).mono ?_
        rintro e w5 ⟨rfl, hb5⟩
        rw [← HF.out]
        have HB5 := Lib.hid (HB4.out.trans (hb5.mono HB4.out.size))
        clear hb5
        go_wp2_with fail
        refine (HP.out.fits w5 f HB5.out HS.out hfn).mono ?_
        rintro e w6 ⟨rfl, hb6⟩
        rw [← HF.out, Nat.min_self]
        have HB6 := Lib.hid (HB5.out.trans (hb6.mono HB5.out.size))
        clear hb6
        go_wp2_with fail
        refine (HP.out.fits w6 k HB6.out HS.out hkn).mono ?_
        rintro e w7 ⟨rfl, hb7⟩
        rw [← HF.out]
        have HB7 := Lib.hid (HB6.out.trans (hb7.mono HB6.out.size))
        clear hb7
        go_wp2_with fail
        have hmin : (((min f k : Nat) : Int) == min (f : Int) (k : Int)) = true := by rw [beq_iff_eq]; omega
        go_ret
        exact ⟨by rw [hmin]; rfl, HB7.out⟩
end Go.Proofs.Ytacdnpacpndekaa
