/- Merkle: MerkleSizes. -/
import Derived.Test.YtlepjjcnlcnnfaaMkNo
namespace Go.Proofs.Ytlepjjcnlcnnfaa.Merkle
open Go.RowKit Go.My

set_option maxRecDepth 100000 in
set_option maxHeartbeats 3200000 in
theorem sizes_any (a : Option Addr) (cap : Nat) (l : List Ent) (x y : Nat) (w : World) (hl : LIn w a l) (hc : l.length ≤ cap) (hc9 : cap ≤ maxLen) (hx : x ≤ 255) (hy : y ≤ 255) :
    Calls Try.prog 6 #[.slice a l.length cap, .int .u8 (x : Int), .int .u8 (y : Int)] w fun e w' => e = .returned (.bool true) ∧ Below w.heap.size w w' := by
  have HIN := Lib.hid hl
  have HCAP := Lib.hid (And.intro hc hc9)
  obtain ⟨n, hn⟩ : ∃ n, n = l.length := ⟨_, rfl⟩
  have HN := Lib.hid hn
  rw [← hn]
  rw [← hn] at hc
  unfold maxLen at hc9
  have i0 : (n : Int) ≤ (cap : Int) := by omega
  have i9 : (cap : Int) ≤ 9223372036854775807 := by omega
  clear hl hn
  go_enter Try.func6, Try.ntmps6
  go_wp2_with fail
  refine (head_any w).mono ?_
  rintro e w1 ⟨rfl, hb1⟩
  have HB1 := Lib.hid hb1
  clear hb1
  go_wp2_with fail
  refine (Book.new_any w1).mono ?_
  rintro e w2 ⟨b, m, v, rfl, hs2, hb2⟩
  have hB : w.heap.size ≤ w1.heap.size := HB1.out.size
  have hb02 : Below w.heap.size w w2 := HB1.out.trans (hb2.mono hB)
  have H2 : Hid (LawAt w w2 w1.heap.size b m v [] a l) := ⟨⟨hs2, List.nodup_nil⟩, HIN.out.ents hB hb02, hB, hb02⟩
  clear hs2 hb2 hb02 hB
  go_wp2_with fail
  have hg := great_any a l cap w2 H2.out.ents.lies HIN.out.most
  rw [← HN.out] at hg
  refine hg.mono ?_
  rintro e w3 ⟨g, rfl, hg, hb3⟩
  have H3 : Hid (LawAt w w3 w1.heap.size b m v [] a l) := H2.out.low hb3
  have HG3 := Lib.hid hg
  clear hg hb3
  cases g with
  | true =>
    go_wp2_with fail
    go_ret
    exact ⟨rfl, H3.out.below⟩
  | false =>
    have hn6 : n ≤ 6000 := by rw [HN.out]; exact (HG3.out rfl).1
    have HW : Hid (Wide l) := HIN.out.wide (HG3.out rfl).2
    clear HG3
    obtain ⟨f, hf⟩ : ∃ f, f = x % (n + 1) := ⟨_, rfl⟩
    obtain ⟨k, hk⟩ : ∃ k, k = y % (n - f + 1) := ⟨_, rfl⟩
    have hf1 : f ≤ n := by have := Nat.mod_lt x (show 0 < n + 1 by omega); omega
    have hk1 : f + k ≤ n := by have := Nat.mod_lt y (show 0 < n - f + 1 by omega); omega
    have m1 : IntKind.i64.wrap ((n : Int) + 1) = (n : Int) + 1 := IntWalk.i64_in _ (by omega)
    have m2 : Int.tmod (x : Int) ((n : Int) + 1) = (f : Int) := by rw [hf]; rfl
    have m3 : IntKind.i64.wrap ((n : Int) - (f : Int)) = (n : Int) - (f : Int) := IntWalk.i64_in _ (by omega)
    have m4 : IntKind.i64.wrap ((n : Int) - (f : Int) + 1) = (n : Int) - (f : Int) + 1 := IntWalk.i64_in _ (by omega)
    have m5 : Int.tmod (y : Int) ((n : Int) - (f : Int) + 1) = (k : Int) := by
      rw [show (n : Int) - (f : Int) + 1 = ((n - f + 1 : Nat) : Int) by omega, hk]
      rfl
    have m6 : IntKind.i64.wrap (x : Int) = (x : Int) := IntWalk.i64_in _ (by omega)
    have m7 : IntKind.i64.wrap (y : Int) = (y : Int) := IntWalk.i64_in _ (by omega)
    have m8 : IntKind.i64.wrap (f : Int) = (f : Int) := IntWalk.i64_in _ (by omega)
    have m9 : IntKind.i64.wrap (k : Int) = (k : Int) := IntWalk.i64_in _ (by omega)
    have n1 : ((n : Int) + 1 == 0) = false := by simp; omega
    have n2 : ((n : Int) - (f : Int) + 1 == 0) = false := by simp; omega
    have n3 : ¬ ((n : Int) + 1 = 0) := by omega
    have n4 : ¬ ((n : Int) - (f : Int) + 1 = 0) := by omega
    clear hf hk
    go_wp2_with fail
    cases hr : rightB l with
    | false =>
      have HR := prove_no b a cap l (f : Int) (k : Int) w3 H3.out.ents.lies (by have := HN.out; omega) HW.out hr
      rw [← HN.out] at HR
      refine HR.mono ?_
      rintro e w4 ⟨rfl, hb4⟩
      have H4 := Lib.hid (H3.out.low hb4).below
      clear hb4 hr HR
      unfold zeroP wrongV
      go_wp2_with fail
      go_ret
      exact ⟨rfl, H4.out.trans ((bl_alloc w4 _).mono H4.out.size)⟩
    | true =>
      have HR := prove_yes w1.heap.size b m v [] a cap l f k w3 H3.out.bk H3.out.ents HW.out hr HCAP.out.1 HCAP.out.2 (by have := HN.out; omega) (by simp)
      rw [← HN.out] at HR
      refine HR.mono ?_
      rintro e w4 ⟨v4, T4, a1, c1, a2, c2, ds, rfl, h4, hx4, hbd, he1, hl2, hs2, hdc, hT4, hf4⟩
      rw [← HN.out]
      have hds := hbd.len
      rw [← HN.out] at hds
      have H4 : Hid (Below w.heap.size w w4) := H3.out.below.trans (hf4.below.mono H3.out.ge)
      clear h4 hx4 hbd he1 hl2 hs2 hT4 hf4 HR hr
      have hA : k = 0 → ds.length = 1 := fun h => by
        subst h
        rw [hds]
        exact parts_apart (apart_iff.2 (.inl (Nat.le_refl _)))
      have hB : ∀ h, 0 < k → n ≤ 2 ^ h → ds.length ≤ 2 * h + 1 := fun h h1 h2 => by
        rw [hds]
        exact parts_most h n 0 f (f + k) (by omega) h2
      have hC : 0 < k → ¬ k < n → ds.length = 0 := fun h1 h2 => by
        rw [hds]
        exact parts_all n 0 f (f + k) (by omega) (by omega) (by omega)
      obtain ⟨dl, hdl⟩ : ∃ dl, dl = ds.length := ⟨_, rfl⟩
      rw [← hdl] at hA hB hC hdc ⊢
      have HP := Lib.hid (And.intro hA (And.intro hB hC))
      clear hA hB hC hds hdl
      obtain ⟨q, hq⟩ : ∃ q, q = w4.heap.size := ⟨_, rfl⟩
      obtain ⟨W8, hW8⟩ : ∃ W8 : World, W8 = w4.alloc (.cells #[.int .i64 (n : Int), .int .i64 (f : Int), .slice a1 k c1, .slice a2 dl c2] 25) := ⟨_, rfl⟩
      have hbx : W8.heap[q]? = some (.cells #[.int .i64 (n : Int), .int .i64 (f : Int), .slice a1 k c1, .slice a2 dl c2] 25 (0, 0)) := by rw [hW8, hq]; exact heap_alloc_new w4 _
      have z3 : W8.cell? ⟨q, 3, none⟩ = some (.slice a2 dl c2) := by rw [cell_of_row _ _ _ _ _ _ hbx]; rfl
      have H8 : Hid (Below w.heap.size w W8) := by
        rw [hW8]
        exact H4.out.trans ((bl_alloc w4 _).mono H4.out.size)
      have HW8 : Hid (w4.alloc (.cells #[.int .i64 (n : Int), .int .i64 (f : Int), .slice a1 k c1, .slice a2 dl c2] 25) = W8 ∧ w4.heap.size = q) := ⟨hW8.symm, hq.symm⟩
      clear hW8 hq hbx
      go_upto_region 8 with fail
      rw [HW8.out.1, HW8.out.2]
      go_wp2_with fail
      go_loopw [13, 14] (fun u i wr => ∃ h P : Nat, u = .int .i64 (2 * h + 2 : Int) ∧ i = .int .i64 P ∧ Hid (P = 2 ^ h ∧ (P = 1 ∨ P < 2 * n) ∧ wr = W8)) (fun _ i _ => 2 * n + 2 - (intOf i).toNat)
      case atStart => exact ⟨0, 1, rfl, rfl, rfl, .inl rfl, rfl⟩
      case round =>
        obtain ⟨h, P, rfl, rfl, HJ⟩ := hrel
        obtain rfl := HJ.out.2.2
        have hP9 : P ≤ 12001 := by have := HJ.out.2.1; omega
        have hh9 : h < P := by rw [HJ.out.1]; exact Nat.lt_two_pow_self
        have w5 : IntKind.i64.wrap (2 * (P : Int)) = 2 * (P : Int) := IntWalk.i64_in _ (by omega)
        have w6 : IntKind.i64.wrap (2 * (h : Int) + 2 + 2) = 2 * (h : Int) + 2 + 2 := IntWalk.i64_in _ (by omega)
        by_cases hlt : (P : Int) < (n : Int)
        · have HNX : Hid (2 * P = 2 ^ (h + 1) ∧ (2 * P = 1 ∨ 2 * P < 2 * n) ∧ wr = wr) := ⟨by rw [HJ.out.1, Nat.pow_succ]; omega, .inr (by omega), rfl⟩
          go_wp2_with fail
          exact ⟨⟨h + 1, 2 * P, by simp; omega, by simp, HNX.out.1, HNX.out.2.1, trivial⟩, by simp [intOf]; omega⟩
        · have hB := HP.out.2.1 h
          rw [← HJ.out.1] at hB
          have HQ : Hid (0 < k → (dl : Int) ≤ 2 * (h : Int) + 2) := fun h1 => by
            have := hB h1 (by omega)
            omega
          clear hB
          by_cases hk0 : k = 0
          · have hd1 := HP.out.1 hk0
            subst hk0
            subst hd1
            go_wp2_with fail
            go_ret
            exact ⟨rfl, H8.out⟩
          · have hk2 : ¬ (k : Int) = 0 := by omega
            have hd2 := HQ.out (by omega)
            by_cases hkn : (k : Int) < (n : Int)
            · go_wp2_with fail
              go_ret
              exact ⟨rfl, H8.out⟩
            · have hd3 := HP.out.2.2 (by omega) (by omega)
              subst hd3
              go_wp2_with fail
              go_ret
              exact ⟨rfl, H8.out⟩
end Go.Proofs.Ytlepjjcnlcnnfaa.Merkle
