/- A judge: what the first of its finds finds. -/
import Derived.Test.YtpcmkifgfokdpaaFinds
import Derived.Test.YtpcmkifgfokdpaaPairs
namespace Go.Proofs.Ytpcmkifgfokdpaa
open Go.RowKit Go.My Go.My.Model Go.Deep
def Firsts : List (Verd → Prop) → Verd → Prop
  | [], v => v = verd0
  | S :: R, v => (S v ∧ v.fault ≠ 0) ∨ ((∃ z, S z ∧ z.fault = 0) ∧ Firsts R v)
set_option maxRecDepth 100000 in
set_option maxHeartbeats 3200000 in
theorem first_19 (w : World) (ga : Nat) (q0 r0 r1 r2 s0 s1 s2 t0 t1 y0 y1 y2 : Option Addr) (S0 S1 S2 S3 S4 : Verd → Prop)
    (ha : w.heap[ga]? = some (.cells #[.func (.func 15) #[] #[.pointer q0], .func (.func 14) #[] #[.pointer r0, .pointer r1, .pointer r2], .func (.func 14) #[] #[.pointer s0, .pointer s1, .pointer s2], .func (.func 17) #[] #[.pointer t0, .pointer t1], .func (.func 14) #[] #[.pointer y0, .pointer y1, .pointer y2]] 68 (0, 0)))
    (h0 : ∀ W, Below w.heap.size w W → Calls Try.prog 15 #[.pointer q0] W (FindLeft W S0))
    (h1 : ∀ W, Below w.heap.size w W → Calls Try.prog 14 #[.pointer r0, .pointer r1, .pointer r2] W (FindLeft W S1))
    (h2 : ∀ W, Below w.heap.size w W → Calls Try.prog 14 #[.pointer s0, .pointer s1, .pointer s2] W (FindLeft W S2))
    (h3 : ∀ W, Below w.heap.size w W → Calls Try.prog 17 #[.pointer t0, .pointer t1] W (FindLeft W S3))
    (h4 : ∀ W, Below w.heap.size w W → Calls Try.prog 14 #[.pointer y0, .pointer y1, .pointer y2] W (FindLeft W S4)) :
    Calls Try.prog 19 #[.slice (some ⟨ga, 0, none⟩) 5 5] w (FindLeft w (Firsts [S0, S1, S2, S3, S4])) := by
  have HA := Lib.hid ha
  have H0 := Lib.hid h0
  have H1 := Lib.hid h1
  have H2 := Lib.hid h2
  have H3 := Lib.hid h3
  have H4 := Lib.hid h4
  have HC : Hid (∀ W, Below w.heap.size w W → ga < W.heap.size ∧ W.cell? ⟨ga, 0, none⟩ = some (.func (.func 15) #[] #[.pointer q0]) ∧ W.cell? ⟨ga, 1, none⟩ = some (.func (.func 14) #[] #[.pointer r0, .pointer r1, .pointer r2]) ∧ W.cell? ⟨ga, 2, none⟩ = some (.func (.func 14) #[] #[.pointer s0, .pointer s1, .pointer s2]) ∧ W.cell? ⟨ga, 3, none⟩ = some (.func (.func 17) #[] #[.pointer t0, .pointer t1]) ∧ W.cell? ⟨ga, 4, none⟩ = some (.func (.func 14) #[] #[.pointer y0, .pointer y1, .pointer y2])) := fun W hb => by
    have h := (hb.block _ (lt_of_heap HA.out)).trans HA.out
    exact ⟨lt_of_heap h, by rw [cell_of_row _ _ _ _ _ _ h]; rfl, by rw [cell_of_row _ _ _ _ _ _ h]; rfl, by rw [cell_of_row _ _ _ _ _ _ h]; rfl, by rw [cell_of_row _ _ _ _ _ _ h]; rfl, by rw [cell_of_row _ _ _ _ _ _ h]; rfl⟩
  clear ha h0 h1 h2 h3 h4 HA
  obtain ⟨W0, hW0⟩ : ∃ W0, W0 = w.alloc (.cells #[.int .i64 0, .int .i64 0, .int .i64 0] 31) := ⟨_, rfl⟩
  have HB0 : Hid (Below w.heap.size w W0) := by show Below _ _ _; rw [hW0]; exact (Below.refl _ w).alloc (Nat.le_refl _) _
  have HR0 : Hid (W0.heap[w.heap.size]? = some (.cells #[.int .i64 0, .int .i64 0, .int .i64 0] 31 (0, 0))) := by show _ = _; rw [hW0]; exact heap_alloc_new w _
  have HRB : Hid (∀ W, Below W0.heap.size W0 W → W.cell? ⟨w.heap.size, 0, none⟩ = some (.int .i64 0) ∧ W.cell? ⟨w.heap.size, 1, none⟩ = some (.int .i64 0) ∧ W.cell? ⟨w.heap.size, 2, none⟩ = some (.int .i64 0) ∧ (∀ i, W.frozen? ⟨w.heap.size, i, none⟩ = false) ∧ w.heap.size < W.heap.size) := fun W hb => by
    have h := (hb.block _ (lt_of_heap HR0.out)).trans HR0.out
    exact ⟨by rw [cell_of_row _ _ _ _ _ _ h]; rfl, by rw [cell_of_row _ _ _ _ _ _ h]; rfl, by rw [cell_of_row _ _ _ _ _ _ h]; rfl, fun i => by simp [World.frozen?, h], lt_of_heap h⟩
  clear HR0
  go_enter Try.func19, Try.ntmps19
  go_wp2_with fail
  rw [← hW0]
  clear hW0
  have BA0 : Hid (Below W0.heap.size W0 W0) := Below.refl _ _
  refine wp_loop_rounds 6 ?_
  rw [rounds_succ]
  obtain ⟨gl, c0, c1, c2, c3, c4⟩ := HC.out W0 (HB0.out.trans (BA0.out.mono HB0.out.size))
  go_wp2_with fail
  refine (H0.out W0 (HB0.out.trans (BA0.out.mono HB0.out.size))).mono ?_
  rintro e Y0 ⟨v0, rfl, hb, hs0⟩
  have BY : Hid (Below W0.heap.size W0 Y0) := BA0.out.trans (hb.mono BA0.out.size)
  have HS0 := Lib.hid hs0
  clear hb hs0 gl c0 c1 c2 c3 c4
  obtain ⟨f0, a0, b0⟩ := v0
  unfold verA
  simp only
  obtain ⟨X1, hX⟩ : ∃ X, X = Y0.alloc (.cells #[.int .i64 f0, .int .i64 a0, .int .i64 b0] 31) := ⟨_, rfl⟩
  have BA1 : Hid (Below W0.heap.size W0 X1) := by show Below _ _ _; rw [hX]; exact BY.out.alloc BY.out.size _
  by_cases hf : f0 = 0
  · have hf1 : (f0 != 0) = false := by simpa using hf
    have HZ0 : Hid (∃ z, S0 z ∧ z.fault = 0) := ⟨_, HS0.out, hf⟩
    clear hf
    go_wp2_with fail
    rw [← hX]
    clear hX
    rw [rounds_succ]
    obtain ⟨gl, c0, c1, c2, c3, c4⟩ := HC.out X1 (HB0.out.trans (BA1.out.mono HB0.out.size))
    go_wp2_with fail
    refine (H1.out X1 (HB0.out.trans (BA1.out.mono HB0.out.size))).mono ?_
    rintro e Y1 ⟨v1, rfl, hb, hs1⟩
    have BY : Hid (Below W0.heap.size W0 Y1) := BA1.out.trans (hb.mono BA1.out.size)
    have HS1 := Lib.hid hs1
    clear hb hs1 gl c0 c1 c2 c3 c4
    obtain ⟨f1, a1, b1⟩ := v1
    unfold verA
    simp only
    obtain ⟨X2, hX⟩ : ∃ X, X = Y1.alloc (.cells #[.int .i64 f1, .int .i64 a1, .int .i64 b1] 31) := ⟨_, rfl⟩
    have BA2 : Hid (Below W0.heap.size W0 X2) := by show Below _ _ _; rw [hX]; exact BY.out.alloc BY.out.size _
    by_cases hf : f1 = 0
    · have hf1 : (f1 != 0) = false := by simpa using hf
      have HZ1 : Hid (∃ z, S1 z ∧ z.fault = 0) := ⟨_, HS1.out, hf⟩
      clear hf
      go_wp2_with fail
      rw [← hX]
      clear hX
      rw [rounds_succ]
      obtain ⟨gl, c0, c1, c2, c3, c4⟩ := HC.out X2 (HB0.out.trans (BA2.out.mono HB0.out.size))
      go_wp2_with fail
      refine (H2.out X2 (HB0.out.trans (BA2.out.mono HB0.out.size))).mono ?_
      rintro e Y2 ⟨v2, rfl, hb, hs2⟩
      have BY : Hid (Below W0.heap.size W0 Y2) := BA2.out.trans (hb.mono BA2.out.size)
      have HS2 := Lib.hid hs2
      clear hb hs2 gl c0 c1 c2 c3 c4
      obtain ⟨f2, a2, b2⟩ := v2
      unfold verA
      simp only
      obtain ⟨X3, hX⟩ : ∃ X, X = Y2.alloc (.cells #[.int .i64 f2, .int .i64 a2, .int .i64 b2] 31) := ⟨_, rfl⟩
      have BA3 : Hid (Below W0.heap.size W0 X3) := by show Below _ _ _; rw [hX]; exact BY.out.alloc BY.out.size _
      by_cases hf : f2 = 0
      · have hf1 : (f2 != 0) = false := by simpa using hf
        have HZ2 : Hid (∃ z, S2 z ∧ z.fault = 0) := ⟨_, HS2.out, hf⟩
        clear hf
        go_wp2_with fail
        rw [← hX]
        clear hX
        rw [rounds_succ]
        obtain ⟨gl, c0, c1, c2, c3, c4⟩ := HC.out X3 (HB0.out.trans (BA3.out.mono HB0.out.size))
        go_wp2_with fail
        refine (H3.out X3 (HB0.out.trans (BA3.out.mono HB0.out.size))).mono ?_
        rintro e Y3 ⟨v3, rfl, hb, hs3⟩
        have BY : Hid (Below W0.heap.size W0 Y3) := BA3.out.trans (hb.mono BA3.out.size)
        have HS3 := Lib.hid hs3
        clear hb hs3 gl c0 c1 c2 c3 c4
        obtain ⟨f3, a3, b3⟩ := v3
        unfold verA
        simp only
        obtain ⟨X4, hX⟩ : ∃ X, X = Y3.alloc (.cells #[.int .i64 f3, .int .i64 a3, .int .i64 b3] 31) := ⟨_, rfl⟩
        have BA4 : Hid (Below W0.heap.size W0 X4) := by show Below _ _ _; rw [hX]; exact BY.out.alloc BY.out.size _
        by_cases hf : f3 = 0
        · have hf1 : (f3 != 0) = false := by simpa using hf
          have HZ3 : Hid (∃ z, S3 z ∧ z.fault = 0) := ⟨_, HS3.out, hf⟩
          clear hf
          go_wp2_with fail
          rw [← hX]
          clear hX
          rw [rounds_succ]
          obtain ⟨gl, c0, c1, c2, c3, c4⟩ := HC.out X4 (HB0.out.trans (BA4.out.mono HB0.out.size))
          go_wp2_with fail
          refine (H4.out X4 (HB0.out.trans (BA4.out.mono HB0.out.size))).mono ?_
          rintro e Y4 ⟨v4, rfl, hb, hs4⟩
          have BY : Hid (Below W0.heap.size W0 Y4) := BA4.out.trans (hb.mono BA4.out.size)
          have HS4 := Lib.hid hs4
          clear hb hs4 gl c0 c1 c2 c3 c4
          obtain ⟨f4, a4, b4⟩ := v4
          unfold verA
          simp only
          obtain ⟨X5, hX⟩ : ∃ X, X = Y4.alloc (.cells #[.int .i64 f4, .int .i64 a4, .int .i64 b4] 31) := ⟨_, rfl⟩
          have BA5 : Hid (Below W0.heap.size W0 X5) := by show Below _ _ _; rw [hX]; exact BY.out.alloc BY.out.size _
          by_cases hf : f4 = 0
          · have hf1 : (f4 != 0) = false := by simpa using hf
            have HZ4 : Hid (∃ z, S4 z ∧ z.fault = 0) := ⟨_, HS4.out, hf⟩
            clear hf
            go_wp2_with fail
            rw [← hX]
            clear hX
            rw [rounds_succ]
            obtain ⟨r0, r1, r2, fz, hrl⟩ := HRB.out _ BA5.out
            go_wp2_with fail
            refine bodyPost_ret (v := .agg #[.int .i64 0, .int .i64 0, .int .i64 0]) (by simp [results, Try.results19, go_sem, r0, r1, r2]) rfl ⟨verd0, rfl, ?_, .inr ⟨HZ0.out, .inr ⟨HZ1.out, .inr ⟨HZ2.out, .inr ⟨HZ3.out, .inr ⟨HZ4.out, rfl⟩⟩⟩⟩⟩⟩
            have hb := HB0.out.trans (BA5.out.mono HB0.out.size)
            go_grown
          · have hf1 : (f4 != 0) = true := by simpa using hf
            have HFS : Hid (Firsts [S0, S1, S2, S3, S4] ⟨f4, a4, b4⟩) := .inr ⟨HZ0.out, .inr ⟨HZ1.out, .inr ⟨HZ2.out, .inr ⟨HZ3.out, .inl ⟨HS4.out, hf⟩⟩⟩⟩⟩
            obtain ⟨r0, r1, r2, fz, hrl⟩ := HRB.out _ BY.out
            have qa : ∀ (W : World) o i, W.heap.size = Y4.heap.size → (W.alloc o).cell? ⟨w.heap.size, i, none⟩ = W.cell? ⟨w.heap.size, i, none⟩ := fun W o i h => ((Below.refl _ W).alloc (Nat.le_refl _) o).cell (p := ⟨_, i, none⟩) (show w.heap.size < W.heap.size by omega)
            clear hX hf
            go_wp2_with fail
            refine bodyPost_ret (v := .agg #[.int .i64 f4, .int .i64 a4, .int .i64 b4]) (by simp [results, Try.results19, go_sem, qa, r0, r1, r2]) rfl ⟨⟨f4, a4, b4⟩, rfl, ?_, HFS.out⟩
            have hb := HB0.out.trans (BY.out.mono HB0.out.size)
            go_grown
        · have hf1 : (f3 != 0) = true := by simpa using hf
          have HFS : Hid (Firsts [S0, S1, S2, S3, S4] ⟨f3, a3, b3⟩) := .inr ⟨HZ0.out, .inr ⟨HZ1.out, .inr ⟨HZ2.out, .inl ⟨HS3.out, hf⟩⟩⟩⟩
          obtain ⟨r0, r1, r2, fz, hrl⟩ := HRB.out _ BY.out
          have qa : ∀ (W : World) o i, W.heap.size = Y3.heap.size → (W.alloc o).cell? ⟨w.heap.size, i, none⟩ = W.cell? ⟨w.heap.size, i, none⟩ := fun W o i h => ((Below.refl _ W).alloc (Nat.le_refl _) o).cell (p := ⟨_, i, none⟩) (show w.heap.size < W.heap.size by omega)
          clear hX hf
          go_wp2_with fail
          refine bodyPost_ret (v := .agg #[.int .i64 f3, .int .i64 a3, .int .i64 b3]) (by simp [results, Try.results19, go_sem, qa, r0, r1, r2]) rfl ⟨⟨f3, a3, b3⟩, rfl, ?_, HFS.out⟩
          have hb := HB0.out.trans (BY.out.mono HB0.out.size)
          go_grown
      · have hf1 : (f2 != 0) = true := by simpa using hf
        have HFS : Hid (Firsts [S0, S1, S2, S3, S4] ⟨f2, a2, b2⟩) := .inr ⟨HZ0.out, .inr ⟨HZ1.out, .inl ⟨HS2.out, hf⟩⟩⟩
        obtain ⟨r0, r1, r2, fz, hrl⟩ := HRB.out _ BY.out
        have qa : ∀ (W : World) o i, W.heap.size = Y2.heap.size → (W.alloc o).cell? ⟨w.heap.size, i, none⟩ = W.cell? ⟨w.heap.size, i, none⟩ := fun W o i h => ((Below.refl _ W).alloc (Nat.le_refl _) o).cell (p := ⟨_, i, none⟩) (show w.heap.size < W.heap.size by omega)
        clear hX hf
        go_wp2_with fail
        refine bodyPost_ret (v := .agg #[.int .i64 f2, .int .i64 a2, .int .i64 b2]) (by simp [results, Try.results19, go_sem, qa, r0, r1, r2]) rfl ⟨⟨f2, a2, b2⟩, rfl, ?_, HFS.out⟩
        have hb := HB0.out.trans (BY.out.mono HB0.out.size)
        go_grown
    · have hf1 : (f1 != 0) = true := by simpa using hf
      have HFS : Hid (Firsts [S0, S1, S2, S3, S4] ⟨f1, a1, b1⟩) := .inr ⟨HZ0.out, .inl ⟨HS1.out, hf⟩⟩
      obtain ⟨r0, r1, r2, fz, hrl⟩ := HRB.out _ BY.out
      have qa : ∀ (W : World) o i, W.heap.size = Y1.heap.size → (W.alloc o).cell? ⟨w.heap.size, i, none⟩ = W.cell? ⟨w.heap.size, i, none⟩ := fun W o i h => ((Below.refl _ W).alloc (Nat.le_refl _) o).cell (p := ⟨_, i, none⟩) (show w.heap.size < W.heap.size by omega)
      clear hX hf
      go_wp2_with fail
      refine bodyPost_ret (v := .agg #[.int .i64 f1, .int .i64 a1, .int .i64 b1]) (by simp [results, Try.results19, go_sem, qa, r0, r1, r2]) rfl ⟨⟨f1, a1, b1⟩, rfl, ?_, HFS.out⟩
      have hb := HB0.out.trans (BY.out.mono HB0.out.size)
      go_grown
  · have hf1 : (f0 != 0) = true := by simpa using hf
    have HFS : Hid (Firsts [S0, S1, S2, S3, S4] ⟨f0, a0, b0⟩) := .inl ⟨HS0.out, hf⟩
    obtain ⟨r0, r1, r2, fz, hrl⟩ := HRB.out _ BY.out
    have qa : ∀ (W : World) o i, W.heap.size = Y0.heap.size → (W.alloc o).cell? ⟨w.heap.size, i, none⟩ = W.cell? ⟨w.heap.size, i, none⟩ := fun W o i h => ((Below.refl _ W).alloc (Nat.le_refl _) o).cell (p := ⟨_, i, none⟩) (show w.heap.size < W.heap.size by omega)
    clear hX hf
    go_wp2_with fail
    refine bodyPost_ret (v := .agg #[.int .i64 f0, .int .i64 a0, .int .i64 b0]) (by simp [results, Try.results19, go_sem, qa, r0, r1, r2]) rfl ⟨⟨f0, a0, b0⟩, rfl, ?_, HFS.out⟩
    have hb := HB0.out.trans (BY.out.mono HB0.out.size)
    go_grown
end Go.Proofs.Ytpcmkifgfokdpaa
