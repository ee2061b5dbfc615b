/- The model: what the code answers is what the document answers. -/
import Derived.Test.YtacdnpacpndekaaRfit
namespace Go.Proofs.Ytacdnpacpndekaa
open Go.RowKit Go.My Go.My.Model Go.Deep
/-- What the document answers, wherever the transactions still are. -/
structure AsksRef (w : World) (a : Option Addr) (n cap : Nat) (T : List Tx) : Prop where
  run : ∀ W, Below w.heap.size w W → Small T → Calls Try.prog 14 #[.slice a n cap] W (RunDone W (stateOf (flat T n)))
  at_ : ∀ W k v, Below w.heap.size w W → Small T → Calls Try.prog 11 #[.slice a n cap, .string k, .int .i64 v] W (AtLeft W T k v)
  fits : ∀ W, Below w.heap.size w W → Small T → Calls Try.prog 16 #[.slice a n cap] W (FitsLeft W T)
theorem asksRef {w : World} {a : Option Addr} {T : List Tx} (cap : Nat) (ho : OrdAt w a T) (hc : T.length ≤ cap) : AsksRef w a T.length cap T where
  run W hb hs := ref_run a cap T W (ord_far ho hb (by simp)) (by have := hs.1; omega) (by have := small_flat hs T.length; omega)
  at_ W k v hb hs := ref_at a cap T k v W (ord_far ho hb (by simp)) (by have := hs.1; omega) (by have := small_flat hs T.length; omega)
  fits W hb hs := ref_fits a cap T W (ord_far ho hb (by simp)) (by have := hs.1; omega) hc (by have := small_flat hs T.length; omega) (fun t ht => by have := hs.2 t ht; omega)
set_option maxRecDepth 100000 in
set_option maxHeartbeats 3200000 in
theorem tells_any (a : Option Addr) (n cap : Nat) (T : List Tx) (key : ByteArray) (v : Int) (w : World) (ha : Asks w a n cap T) (hr : AsksRef w a n cap T) :
    Calls Try.prog 3 #[.slice a n cap, .string key, .int .i64 v] w fun e w' => e = .returned (.bool true) ∧ Below w.heap.size w w' := by
  have HA := Lib.hid ha
  have HR := Lib.hid hr
  clear ha hr
  go_enter Try.func3, Try.ntmps3
  go_wp2_with fail
  refine (HA.out.head w).mono ?_
  rintro e w1 ⟨rfl, hb1⟩
  have HB1 := Lib.hid hb1
  clear hb1
  go_wp2_with fail
  refine (HA.out.great w1 HB1.out).mono ?_
  rintro e w2 ⟨g, rfl, hg, hb2⟩
  have HB2 : Hid (Below w.heap.size w w2) := HB1.out.trans (hb2.mono HB1.out.size)
  cases g with
  | true =>
    clear hg hb2
    go_wp2_with fail
    go_ret
    exact ⟨rfl, HB2.out⟩
  | false =>
    have HS : Hid (Small T) := hg rfl
    clear hg hb2
    obtain ⟨ds, hds⟩ : ∃ ds, ds = flat T n := ⟨_, rfl⟩
    have hfw : ds.length ≤ 1600 := by rw [hds]; exact small_flat HS.out _
    have hrl := run_few ds
    obtain ⟨L, hL⟩ : ∃ L, L = runL (stateOf ds) := ⟨_, rfl⟩
    rw [← hL] at hrl
    obtain ⟨q, hq⟩ : ∃ q, q = L.length := ⟨_, rfl⟩
    have HQL := Lib.hid hq
    have hq9 : q ≤ 100000 := by omega
    have hq8 : (q : Int) ≤ 100000 := by omega
    have open_ : ∀ (W : World) e W', RunDone W (stateOf ds) e W' → ∃ ra rc, e = .returned (.slice ra q rc) ∧ Left3 W W' ra L := fun W e W' h => by
      obtain ⟨ra, rc, h1, h2⟩ := left_open h
      rw [hq, hL]
      exact ⟨ra, rc, h1, h2⟩
    have HR1 : Hid (∀ W, Below w.heap.size w W → Calls Try.prog 13 #[.slice a n cap] W fun e W' => ∃ ra rc, e = .returned (.slice ra q rc) ∧ Left3 W W' ra L) := fun W hb => (by have h := HA.out.run W hb HS.out; rw [← hds] at h; exact h : Calls Try.prog 13 #[.slice a n cap] W (RunDone W (stateOf ds))).mono fun e W' h => open_ W e W' h
    have HR2 : Hid (∀ W, Below w.heap.size w W → Calls Try.prog 14 #[.slice a n cap] W fun e W' => ∃ ra rc, e = .returned (.slice ra q rc) ∧ Left3 W W' ra L) := fun W hb => (by have h := HR.out.run W hb HS.out; rw [← hds] at h; exact h : Calls Try.prog 14 #[.slice a n cap] W (RunDone W (stateOf ds))).mono fun e W' h => open_ W e W' h
    obtain ⟨fe, hfe⟩ : ∃ fe, fe = atEnt (flat T T.length) key v := ⟨_, rfl⟩
    obtain ⟨fb, hfb⟩ : ∃ fb, fb = atOk (flat T T.length) key v := ⟨_, rfl⟩
    obtain ⟨fk, fv, fn⟩ := fe
    have HT1 : Hid (∀ W, Below w.heap.size w W → Calls Try.prog 10 #[.slice a n cap, .string key, .int .i64 v] W fun e W' => e = .returned (.tuple #[.agg #[.string fk, .string fv, .int .i64 fn], .bool fb]) ∧ Below W.heap.size W W') := fun W hb => by
      have h := HA.out.at_ W key v hb HS.out
      unfold AtLeft at h
      rw [← hfe, ← hfb] at h
      exact h
    have HT2 : Hid (∀ W, Below w.heap.size w W → Calls Try.prog 11 #[.slice a n cap, .string key, .int .i64 v] W fun e W' => e = .returned (.tuple #[.agg #[.string fk, .string fv, .int .i64 fn], .bool fb]) ∧ Below W.heap.size W W') := fun W hb => by
      have h := HR.out.at_ W key v hb HS.out
      unfold AtLeft at h
      rw [← hfe, ← hfb] at h
      exact h
    obtain ⟨z, hz⟩ : ∃ z : Int, z = (fitsN T : Nat) := ⟨_, rfl⟩
    have HF1 : Hid (∀ W, Below w.heap.size w W → Calls Try.prog 15 #[.slice a n cap] W fun e W' => e = .returned (.int .i64 z) ∧ Below W.heap.size W W') := fun W hb => by
      have h := HA.out.fits W hb HS.out
      unfold FitsLeft at h
      rw [← hz] at h
      exact h
    have HF2 : Hid (∀ W, Below w.heap.size w W → Calls Try.prog 16 #[.slice a n cap] W fun e W' => e = .returned (.int .i64 z) ∧ Below W.heap.size W W') := fun W hb => by
      have h := HR.out.fits W hb HS.out
      unfold FitsLeft at h
      rw [← hz] at h
      exact h
    clear hds hfw hrl hL hq open_ hfe hfb hz
    go_wp2_with fail
    refine (HT1.out w2 HB2.out).mono ?_
    rintro e w3 ⟨rfl, hb3⟩
    have HB3 : Hid (Below w.heap.size w w3) := HB2.out.trans (hb3.mono HB2.out.size)
    clear hb3
    go_wp2_with fail
    obtain ⟨W4, hW4⟩ : ∃ W4, W4 = w3.alloc (.cells #[.string fk, .string fv, .int .i64 fn] 26) := ⟨_, rfl⟩
    have HB4 : Hid (Below w.heap.size w W4) := by show Below _ _ _; rw [hW4]; exact HB3.out.alloc HB3.out.size _
    have HX4 : Hid (W4.heap[w3.heap.size]? = some (.cells #[.string fk, .string fv, .int .i64 fn] 26 (0, 0))) := by show _ = _; rw [hW4]; exact heap_alloc_new w3 _
    obtain ⟨xb, hxb⟩ : ∃ xb, xb = w3.heap.size := ⟨_, rfl⟩
    rw [← hW4, ← hxb]
    rw [← hxb] at HX4
    clear hW4 hxb
    refine (HT2.out W4 HB4.out).mono ?_
    rintro e w5 ⟨rfl, hb5⟩
    have HB5 : Hid (Below w.heap.size w w5) := HB4.out.trans (hb5.mono HB4.out.size)
    have HX5 : Hid (w5.heap[xb]? = some (.cells #[.string fk, .string fv, .int .i64 fn] 26 (0, 0))) := (hb5.block _ (lt_of_heap HX4.out)).trans HX4.out
    clear hb5
    go_wp2_with fail
    obtain ⟨W6, hW6⟩ : ∃ W6, W6 = w5.alloc (.cells #[.string fk, .string fv, .int .i64 fn] 26) := ⟨_, rfl⟩
    have HB6 : Hid (Below w.heap.size w W6) := by show Below _ _ _; rw [hW6]; exact HB5.out.alloc HB5.out.size _
    have HX6 : Hid (W6.heap[xb]? = some (.cells #[.string fk, .string fv, .int .i64 fn] 26 (0, 0))) := by show _ = _; rw [hW6]; exact (((Below.refl _ w5).alloc (Nat.le_refl _) _).block _ (lt_of_heap HX5.out)).trans HX5.out
    have HY6 : Hid (W6.heap[w5.heap.size]? = some (.cells #[.string fk, .string fv, .int .i64 fn] 26 (0, 0))) := by show _ = _; rw [hW6]; exact heap_alloc_new w5 _
    obtain ⟨yb, hyb⟩ : ∃ yb, yb = w5.heap.size := ⟨_, rfl⟩
    rw [← hW6, ← hyb]
    rw [← hyb] at HY6
    clear hW6 hyb
    refine (HR1.out W6 HB6.out).mono ?_
    rintro e w7 ⟨ra, rc, rfl, hl7⟩
    have HL7 := Lib.hid hl7
    have HB7 : Hid (Below W6.heap.size W6 w7) := hl7.below
    have HB7w : Hid (Below w.heap.size w w7) := HB6.out.trans (HB7.out.mono HB6.out.size)
    clear hl7
    go_wp2_with fail
    refine (HR2.out w7 HB7w.out).mono ?_
    rintro e w8 ⟨rb, rc', rfl, hl8⟩
    have HB8 : Hid (Below W6.heap.size W6 w8) := HB7.out.trans (hl8.below.mono HB7.out.size)
    have HSM := Lib.hid (same_yes ra rb rc rc' q L w8 HQL.out (HL7.out.rows hl8.below) (hl8.rows (Below.refl _ _)) hq9)
    clear hl8
    go_wp2_with fail
    refine HSM.out.mono ?_
    rintro e w9 ⟨rfl, hb9⟩
    have HB9 : Hid (Below W6.heap.size W6 w9) := HB8.out.trans (hb9.mono HB8.out.size)
    have HB9w : Hid (Below w.heap.size w w9) := HB6.out.trans (HB9.out.mono HB6.out.size)
    have hx := (HB9.out.block _ (lt_of_heap HX6.out)).trans HX6.out
    have hy := (HB9.out.block _ (lt_of_heap HY6.out)).trans HY6.out
    have hxl := lt_of_heap hx
    have hyl := lt_of_heap hy
    have x0 : w9.cell? ⟨xb, 0, none⟩ = some (.string fk) := by rw [cell_of_row _ _ _ _ _ _ hx]; rfl
    have x1 : w9.cell? ⟨xb, 1, none⟩ = some (.string fv) := by rw [cell_of_row _ _ _ _ _ _ hx]; rfl
    have x2 : w9.cell? ⟨xb, 2, none⟩ = some (.int .i64 fn) := by rw [cell_of_row _ _ _ _ _ _ hx]; rfl
    have y0 : w9.cell? ⟨yb, 0, none⟩ = some (.string fk) := by rw [cell_of_row _ _ _ _ _ _ hy]; rfl
    have y1 : w9.cell? ⟨yb, 1, none⟩ = some (.string fv) := by rw [cell_of_row _ _ _ _ _ _ hy]; rfl
    have y2 : w9.cell? ⟨yb, 2, none⟩ = some (.int .i64 fn) := by rw [cell_of_row _ _ _ _ _ _ hy]; rfl
    have hbb : (fb == fb) = true := by simp
    clear hb9 HSM hx hy
    go_wp2_with fail
    refine (HF1.out w9 HB9w.out).mono ?_
    rintro e w10 ⟨rfl, hb10⟩
    have HB10 : Hid (Below w.heap.size w w10) := HB9w.out.trans (hb10.mono HB9w.out.size)
    clear hb10
    go_wp2_with fail
    refine (HF2.out w10 HB10.out).mono ?_
    rintro e w11 ⟨rfl, hb11⟩
    have HB11 : Hid (Below w.heap.size w w11) := HB10.out.trans (hb11.mono HB10.out.size)
    clear hb11
    go_wp2_with fail
    go_ret
    exact ⟨rfl, HB11.out⟩
end Go.Proofs.Ytacdnpacpndekaa
