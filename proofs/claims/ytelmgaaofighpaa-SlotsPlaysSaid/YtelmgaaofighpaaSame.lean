/- The open numbers: SameProofs of like proofs. -/
import Derived.Test.YtelmgaaofighpaaPrf
import Derived.Test.YtelmgaaofighpaaGenl
namespace Go.Proofs.Ytelmgaaofighpaa
open Go.RowKit Go.My Go.My.Slots

set_option maxRecDepth 100000 in
theorem same_none (w : World) : Calls Try.prog 47 #[.slice none 0 0, .slice none 0 0] w fun e w' => e = .returned (.bool true) ∧ w = w' := by
  go_enter Try.func47, Try.ntmps47
  go_wp2_with fail
  refine wp_loop_rounds 1 ?_
  rw [rounds_succ]
  go_wp2_with fail
  go_ret
  exact ⟨rfl, rfl⟩
set_option maxRecDepth 100000 in
theorem same_cert (w : World) : Calls Try.prog 34 #[.agg #[.int .i64 0, .int .i64 0, .slice none 0 0], .agg #[.int .i64 0, .int .i64 0, .slice none 0 0]] w fun e w' => e = .returned (.bool true) ∧ Below w.heap.size w w' := by
  go_enter Try.func34, Try.ntmps34
  go_wp2_with (go_at_call 47; refine (same_none _).mono ?_; rintro e w' ⟨rfl, rfl⟩)
  go_ret
  exact ⟨rfl, ((Below.refl _ w).alloc (Nat.le_refl _) _).alloc (by simp) _⟩

theorem prepL_len (p : Int × Int × Int) : (prepL p).length = 6 := rfl
set_option maxRecDepth 100000 in
set_option maxHeartbeats 1600000 in
theorem same_any (w : World) (L : List (Int × Int × Int)) (base base' : Nat) (va vb : Value) (ha : w.ownsRow base 44 6 va L.length (L.flatMap prepL)) (hb : w.ownsRow base' 44 6 vb L.length (L.flatMap prepL)) (hl : L.length ≤ 1000) :
    Calls Try.prog 20 #[va, vb] w fun e w' => e = .returned (.bool true) ∧ Below w.heap.size w w' := by
  have HA := Lib.hid ha
  have HB := Lib.hid hb
  obtain ⟨a, ca, rfl, ha1⟩ := row_form ha
  obtain ⟨b, cb, rfl, hb1⟩ := row_form hb
  clear ha hb
  obtain ⟨n, hn⟩ : ∃ n, n = L.length := ⟨_, rfl⟩
  have HN := Lib.hid hn
  rw [← hn] at hl ha1 hb1 HA HB ⊢
  clear hn
  have HA1 := Lib.hid ha1
  have HB1 := Lib.hid hb1
  clear ha1 hb1
  go_enter Try.func20, Try.ntmps20
  go_wp2_with fail
  go_loopw [5] (fun i wr => ∃ k : Nat, k ≤ n ∧ i = .int .i64 k ∧ Hid (Below w.heap.size w wr)) (fun i _ => n - (intOf i).toNat)
  case atStart => exact ⟨0, by omega, rfl, Below.refl _ _⟩
  case round =>
    obtain ⟨k, hk, rfl, HR⟩ := hrel
    by_cases hlt : k < n
    · obtain ⟨ga, rfl, _, hga⟩ := HA1.out (by omega)
      obtain ⟨gb, rfl, _, hgb⟩ := HB1.out (by omega)
      obtain ⟨p, hp⟩ : ∃ p, L[k]? = some p := ⟨_, List.getElem?_eq_getElem (by rw [← HN.out]; exact hlt)⟩
      have ca : ∀ (X : Later wr) (j : Nat) v, (prepL p)[j]? = some v → X.1.cell? ⟨ga, k * 6 + j, none⟩ = some v := fun X j v hv => by
        have hj : j < 6 := (List.getElem?_eq_some_iff.1 hv).1
        rw [(HR.out.trans (X.2.mono HR.out.size)).cell (p := ⟨ga, k * 6 + j, none⟩) hga, row_cell HA.out prepL_len HN.out hp hj, hv]
      have cb : ∀ (X : Later wr) (j : Nat) v, (prepL p)[j]? = some v → X.1.cell? ⟨gb, k * 6 + j, none⟩ = some v := fun X j v hv => by
        have hj : j < 6 := (List.getElem?_eq_some_iff.1 hv).1
        rw [(HR.out.trans (X.2.mono HR.out.size)).cell (p := ⟨gb, k * 6 + j, none⟩) hgb, row_cell HB.out prepL_len HN.out hp hj, hv]
      obtain ⟨p1, p2, p3⟩ := p
      have a0 := fun X => ca X 0 _ rfl
      have a1 := fun X => ca X 1 _ rfl
      have a2 := fun X => ca X 2 _ rfl
      have a3 := fun X => ca X 3 _ rfl
      have a4 := fun X => ca X 4 _ rfl
      have a5 := fun X => ca X 5 _ rfl
      have b0 := fun X => cb X 0 _ rfl
      have b1 := fun X => cb X 1 _ rfl
      have b2 := fun X => cb X 2 _ rfl
      have b3 := fun X => cb X 3 _ rfl
      have b4 := fun X => cb X 4 _ rfl
      have b5 := fun X => cb X 5 _ rfl
      simp only [Nat.add_zero] at a0 b0
      have f1 : ((p1 : Int) != p1) = false := by simp
      have f2 : ((p2 : Int) != p2) = false := by simp
      have f3 : ((p3 : Int) != p3) = false := by simp
      have HQ : Hid (∀ X : Later wr, Calls Try.prog 34 #[.agg #[.int .i64 0, .int .i64 0, .slice none 0 0], .agg #[.int .i64 0, .int .i64 0, .slice none 0 0]] X.1 fun e w' => e = .returned (.bool true) ∧ ∃ Y : Later wr, w' = Y.1) := fun X => later_call (same_cert X.1)
      have hk0 : (0 : Int) ≤ (k : Int) := by omega
      have hk1 : (k : Int) < (n : Int) := by omega
      clear ca cb hp
      go_wp2_with fail
      have here := Later.here wr
      refine wp_region_later (by kernel_rfl) (by kernel_rfl) ?_
      iterate 51 (with_reducible refine wpQuiet_step (fun K hK => ?_); go_simp; first | (refine hK _ ?_; clear hK K) | (apply Exists.intro; refine ⟨fun _ => ?_, hK _ ?_⟩; (go_at_call 34; with_reducible exact HQ.out _); clear hK K))
      with_reducible refine wpQuiet_nil ?_
      intro X
      go_wp2_with fail
      exact ⟨⟨k + 1, by omega, by simp, HR.out.trans (X.2.mono HR.out.size)⟩, by simp [intOf]; omega⟩
    · go_wp2_with fail
      go_ret
      exact ⟨rfl, HR.out⟩
end Go.Proofs.Ytelmgaaofighpaa
