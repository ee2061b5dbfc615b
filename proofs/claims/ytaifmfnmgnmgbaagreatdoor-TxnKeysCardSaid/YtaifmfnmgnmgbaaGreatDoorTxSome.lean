/- Txn: reading rows. -/
import Derived.Test.YtaifmfnmgnmgbaaGreatDoorTxGetA
import Derived.Test.YtaifmfnmgnmgbaaGreatDoorBase
import Derived.Maps.AppendAt
namespace Go.Proofs.YtaifmfnmgnmgbaaGreatDoor.Txn
open Go.RowKit Go.My
open Go.Proofs.YtaifmfnmgnmgbaaGreatDoor.Merkle (news_at)

theorem stRows_len {α : Type} (one : St → α × St) : ∀ (n : Nat) (s : St), (stRows one n s).1.length = n
  | 0, _ => rfl
  | n + 1, s => by rw [stRows, List.length_cons, stRows_len one n]
theorem stInt_in (most : Int) (s : St) (hm : 0 ≤ most) : 0 ≤ (stInt most s).1 ∧ (stInt most s).1 ≤ most := by
  cases s with
  | none => exact ⟨Int.le_refl _, hm⟩
  | some l =>
    rw [stInt_some]
    split
    · exact ⟨Int.le_refl _, hm⟩
    · split
      · exact ⟨Int.le_refl _, hm⟩
      · constructor <;> simp only <;> omega
theorem rd_info : (Tryz.prog.info? 53).map (fun i => (i.zero, i.size, i.bytes)) = some (some (.agg #[.string ⟨#[]⟩, .int .i64 0]), 2, 24) := by kernel_rfl
theorem rd_one (x : Rd) : ∀ u ∈ rdL x, u.oneCell' = true := by
  intro u hu
  simp only [rdL, List.mem_cons, List.not_mem_nil, or_false] at hu
  rcases hu with rfl | rfl <;> rfl
theorem rd_len (x : Rd) : (rdL x).length = 2 := rfl
/-- what some leaves -/
def SomeRd (w : World) (rb : Nat) (s : St) (e : Ending) (w' : World) : Prop :=
  ∃ v, e = .returned v ∧ w'.ownsRow w.heap.size 53 2 v (stSome stRd s).1.length ((stSome stRd s).1.flatMap rdL) ∧ StAt w' rb (stSome stRd s).2 ∧ Wrote [rb] w w' ∧ (stSome stRd s).1.length ≤ 8
structure SmRd (w : World) (rb : Nat) (s1 : St) (j : Nat) (u : Value) (wr : World) : Prop where
  row : wr.ownsRow w.heap.size 53 2 u (stRows stRd j s1).1.length ((stRows stRd j s1).1.flatMap rdL)
  st : StAt wr rb (stRows stRd j s1).2
  wrote : Wrote [rb] w wr
set_option maxRecDepth 100000 in
set_option maxHeartbeats 3200000 in
theorem some_rd (rb p : Nat) (s : St) (w : World) (h : StAt w rb s) (hp : w.cell? ⟨p, 0, none⟩ = some (.pointer (some ⟨rb, 0, none⟩))) (hpr : p ≠ rb) :
    Calls Tryz.prog 35 #[.pointer (some ⟨rb, 0, none⟩), .func (.func 36) #[] #[.pointer (some ⟨p, 0, none⟩)]] w (SomeRd w rb s) := by
  have HI := Lib.hid (int_any rb 8 s w h)
  have HLT : Hid (rb < w.heap.size) := h.lt
  have HP : Hid (∀ W, Wrote [rb] w W → W.cell? ⟨p, 0, none⟩ = some (.pointer (some ⟨rb, 0, none⟩))) := fun W hW => (hW.cell (p := ⟨p, 0, none⟩) (World.block_lt_of_cell? w ⟨p, 0, none⟩ hp) (by simpa using hpr)).trans hp
  have HPR : Hid (p ≠ rb) := hpr
  obtain ⟨i0, hi0, hz0, hz1, hz2⟩ := info_parts rd_info
  have HI0 := Lib.hid hi0
  have HZ := Lib.hid hz0
  have HS := Lib.hid hz1
  have HY := Lib.hid hz2
  have HIN : Hid (0 ≤ (stInt 8 s).1 ∧ (stInt 8 s).1 ≤ 8) := stInt_in 8 s (by omega)
  clear h hp hi0 hz0 hz1 hz2 hpr
  go_enter Tryz.func35, Tryz.ntmps35
  go_wp2_with fail
  refine HI.out.mono ?_
  rintro e w1 ⟨rfl, hs, hw⟩
  obtain ⟨N, hN⟩ : ∃ N : Nat, N = (stInt 8 s).1.toNat := ⟨_, rfl⟩
  have HN := Lib.hid hN
  have hNe : (stInt 8 s).1 = (N : Int) := by have := HIN.out; omega
  have hN8 : N ≤ 8 := by have := HIN.out; omega
  obtain ⟨s1, hs1⟩ : ∃ s1, s1 = (stInt 8 s).2 := ⟨_, rfl⟩
  have HS1 := Lib.hid hs1
  rw [← hs1] at hs
  rw [hNe]
  have P0 : Hid (SmRd w rb s1 0 (.slice none 0 0) w1) := ⟨World.ownsRow_nil _ _ _ _, hs, hw⟩
  have HDONE : Hid (stSome stRd s = stRows stRd N s1) := by show _ = _; unfold stSome; rw [← HN.out, ← HS1.out]
  have HLEN : Hid (∀ j, (stRows stRd j s1).1.length = j) := fun j => stRows_len _ j s1
  clear hs hw hN hs1 hNe
  go_wp2_with fail
  go_loopw [5, 6] (fun u i wr => ∃ j : Nat, j ≤ N ∧ i = .int .i64 ((N : Int) - (j : Int)) ∧ Hid (SmRd w rb s1 j u wr)) (fun _ i _ => (intOf i).toNat)
  case atStart => exact ⟨0, by omega, by simp, P0⟩
  case round =>
    clear P0
    obtain ⟨j, hj, rfl, HJ⟩ := hrel
    by_cases hlt : j < N
    · have g0 : (0 : Int) < (N : Int) - (j : Int) := by omega
      have g1 : IntKind.i64.wrap ((N : Int) - (j : Int) - 1) = (N : Int) - ((j + 1 : Nat) : Int) := by rw [show (N : Int) - (j : Int) - 1 = (N : Int) - ((j + 1 : Nat) : Int) by omega]; exact IntWalk.i64_in _ (by omega)
      have g2 : 0 < (N : Int) - (j : Int) := g0
      have HO := Lib.hid (get_rd rb p _ wr HJ.out.st (HP.out wr HJ.out.wrote) HPR.out)
      obtain ⟨z, hz⟩ : ∃ z : Int, z = (N : Int) - (j : Int) := ⟨_, rfl⟩
      rw [← hz] at g0 g1 g2 ⊢
      have HZZ := Lib.hid hz
      clear hz
      go_wp2_with fail
      refine HO.out.mono ?_
      rintro e w2 ⟨rfl, hs, hw⟩
      obtain ⟨x, hx⟩ : ∃ x, x = (stRd (stRows stRd j s1).2).1 := ⟨_, rfl⟩
      have HX := Lib.hid hx
      rw [← hx]
      obtain ⟨xk, xv⟩ := x
      have hrow2 := row_wrote HJ.out.row hw fun g hg => by
        have h1 := (row_block HJ.out.row hg).1
        have h2 := HLT.out
        simp
        omega
      have H2 : Hid (StAt w2 rb (stRd (stRows stRd j s1).2).2 ∧ Wrote [rb] w w2 ∧ w2.ownsRow w.heap.size 53 2 u5 (stRows stRd j s1).1.length ((stRows stRd j s1).1.flatMap rdL)) := ⟨hs, HJ.out.wrote.trans hw, hrow2⟩
      clear hs hw hx hrow2
      unfold rdA
      go_wp2_with (at_builtin; refine wpList_append_own_at _ rfl _ _ 22 rfl w.heap.size 53 i0 (.agg #[.string ⟨#[]⟩, .int .i64 0]) 2 24 Tryz.underlying22 HI0.out HZ.out HS.out HY.out rfl (by decide) _ _ _ rfl ((row_below H2.out.2.2 (Below.refl _ _)).alloc _) ⟨w2.heap.size, 0, none⟩ 1 1 [.string xk, .int .i64 xv] rfl rfl (news_at w2 [.string xk, .int .i64 xv] 53) (rd_one ⟨xk, xv⟩) (by have := HLEN.out j; unfold maxLen; omega) (by have := HLEN.out j; omega) (by simp; have := H2.out.2.1.size; omega) ?_)
      intro v1 w4 hown1 hgrow1 _ _
      obtain ⟨va, vc, rfl⟩ := row_slice hown1
      have HNX : Hid (SmRd w rb s1 (j + 1) (.slice va ((stRows stRd j s1).1.length + 1) vc) w4) := by
        have hlen := HLEN.out j
        have e1 : stRows stRd (j + 1) s1 = ((stRows stRd j s1).1 ++ [⟨xk, xv⟩], (stRd (stRows stRd j s1).2).2) := by rw [stRows_snoc, ← HX.out]
        have hw4 : Wrote u5.ownBlock.toList w2 w4 := (((Wrote.refl _ _).alloc _).trans (Wrote.of_grown hgrow1))
        refine ⟨?_, ?_, ?_⟩
        · rw [e1, List.length_append, List.flatMap_append]
          simpa [rdL] using hown1
        · rw [e1]
          exact H2.out.1.wrote hw4 fun k hk => by
            have h1 := (row_block H2.out.2.2 (by simpa using hk)).1
            have h2 := HLT.out
            omega
        · refine (H2.out.2.1.mono (T := rb :: u5.ownBlock.toList) (by simp)).trans (hw4.mono (by simp; intro a ha; exact .inr ha)) |>.of_new fun k hk => ?_
          rcases List.mem_cons.1 hk with rfl | hk
          · exact .inl (by simp)
          · exact .inr (row_block H2.out.2.2 (by simpa using hk)).1
      clear hown1 hgrow1
      go_wp2_with fail
      exact ⟨⟨j + 1, by omega, rfl, HNX⟩, by simp [intOf]; have := HZZ.out; omega⟩
    · obtain rfl : j = N := by omega
      have g0 : ¬ (0 : Int) < (j : Int) - (j : Int) := by omega
      have HF := Lib.hid HJ.out
      go_wp2_with fail
      go_ret
      refine ⟨_, rfl, ?_, ?_, HF.out.wrote, ?_⟩
      · rw [HDONE.out]; exact HF.out.row
      · rw [HDONE.out]; exact HF.out.st
      · rw [HDONE.out, HLEN.out]; exact hN8
theorem wr_info : (Tryz.prog.info? 48).map (fun i => (i.zero, i.size, i.bytes)) = some (some (.agg #[.string ⟨#[]⟩, .string ⟨#[]⟩]), 2, 32) := by kernel_rfl
theorem wr_one (x : Wr) : ∀ u ∈ wrL x, u.oneCell' = true := by
  intro u hu
  simp only [wrL, List.mem_cons, List.not_mem_nil, or_false] at hu
  rcases hu with rfl | rfl <;> rfl
theorem wr_len (x : Wr) : (wrL x).length = 2 := rfl
/-- what some leaves -/
def SomeWr (w : World) (rb : Nat) (s : St) (e : Ending) (w' : World) : Prop :=
  ∃ v, e = .returned v ∧ w'.ownsRow w.heap.size 48 2 v (stSome stWr s).1.length ((stSome stWr s).1.flatMap wrL) ∧ StAt w' rb (stSome stWr s).2 ∧ Wrote [rb] w w' ∧ (stSome stWr s).1.length ≤ 8
structure SmWr (w : World) (rb : Nat) (s1 : St) (j : Nat) (u : Value) (wr : World) : Prop where
  row : wr.ownsRow w.heap.size 48 2 u (stRows stWr j s1).1.length ((stRows stWr j s1).1.flatMap wrL)
  st : StAt wr rb (stRows stWr j s1).2
  wrote : Wrote [rb] w wr
set_option maxRecDepth 100000 in
set_option maxHeartbeats 3200000 in
theorem some_wr (rb p : Nat) (s : St) (w : World) (h : StAt w rb s) (hp : w.cell? ⟨p, 0, none⟩ = some (.pointer (some ⟨rb, 0, none⟩))) (hpr : p ≠ rb) :
    Calls Tryz.prog 38 #[.pointer (some ⟨rb, 0, none⟩), .func (.func 39) #[] #[.pointer (some ⟨p, 0, none⟩)]] w (SomeWr w rb s) := by
  have HI := Lib.hid (int_any rb 8 s w h)
  have HLT : Hid (rb < w.heap.size) := h.lt
  have HP : Hid (∀ W, Wrote [rb] w W → W.cell? ⟨p, 0, none⟩ = some (.pointer (some ⟨rb, 0, none⟩))) := fun W hW => (hW.cell (p := ⟨p, 0, none⟩) (World.block_lt_of_cell? w ⟨p, 0, none⟩ hp) (by simpa using hpr)).trans hp
  have HPR : Hid (p ≠ rb) := hpr
  obtain ⟨i0, hi0, hz0, hz1, hz2⟩ := info_parts wr_info
  have HI0 := Lib.hid hi0
  have HZ := Lib.hid hz0
  have HS := Lib.hid hz1
  have HY := Lib.hid hz2
  have HIN : Hid (0 ≤ (stInt 8 s).1 ∧ (stInt 8 s).1 ≤ 8) := stInt_in 8 s (by omega)
  clear h hp hi0 hz0 hz1 hz2 hpr
  go_enter Tryz.func38, Tryz.ntmps38
  go_wp2_with fail
  refine HI.out.mono ?_
  rintro e w1 ⟨rfl, hs, hw⟩
  obtain ⟨N, hN⟩ : ∃ N : Nat, N = (stInt 8 s).1.toNat := ⟨_, rfl⟩
  have HN := Lib.hid hN
  have hNe : (stInt 8 s).1 = (N : Int) := by have := HIN.out; omega
  have hN8 : N ≤ 8 := by have := HIN.out; omega
  obtain ⟨s1, hs1⟩ : ∃ s1, s1 = (stInt 8 s).2 := ⟨_, rfl⟩
  have HS1 := Lib.hid hs1
  rw [← hs1] at hs
  rw [hNe]
  have P0 : Hid (SmWr w rb s1 0 (.slice none 0 0) w1) := ⟨World.ownsRow_nil _ _ _ _, hs, hw⟩
  have HDONE : Hid (stSome stWr s = stRows stWr N s1) := by show _ = _; unfold stSome; rw [← HN.out, ← HS1.out]
  have HLEN : Hid (∀ j, (stRows stWr j s1).1.length = j) := fun j => stRows_len _ j s1
  clear hs hw hN hs1 hNe
  go_wp2_with fail
  go_loopw [5, 6] (fun u i wr => ∃ j : Nat, j ≤ N ∧ i = .int .i64 ((N : Int) - (j : Int)) ∧ Hid (SmWr w rb s1 j u wr)) (fun _ i _ => (intOf i).toNat)
  case atStart => exact ⟨0, by omega, by simp, P0⟩
  case round =>
    clear P0
    obtain ⟨j, hj, rfl, HJ⟩ := hrel
    by_cases hlt : j < N
    · have g0 : (0 : Int) < (N : Int) - (j : Int) := by omega
      have g1 : IntKind.i64.wrap ((N : Int) - (j : Int) - 1) = (N : Int) - ((j + 1 : Nat) : Int) := by rw [show (N : Int) - (j : Int) - 1 = (N : Int) - ((j + 1 : Nat) : Int) by omega]; exact IntWalk.i64_in _ (by omega)
      have g2 : 0 < (N : Int) - (j : Int) := g0
      have HO := Lib.hid (get_wr rb p _ wr HJ.out.st (HP.out wr HJ.out.wrote) HPR.out)
      obtain ⟨z, hz⟩ : ∃ z : Int, z = (N : Int) - (j : Int) := ⟨_, rfl⟩
      rw [← hz] at g0 g1 g2 ⊢
      have HZZ := Lib.hid hz
      clear hz
      go_wp2_with fail
      refine HO.out.mono ?_
      rintro e w2 ⟨rfl, hs, hw⟩
      obtain ⟨x, hx⟩ : ∃ x, x = (stWr (stRows stWr j s1).2).1 := ⟨_, rfl⟩
      have HX := Lib.hid hx
      rw [← hx]
      obtain ⟨xk, xv⟩ := x
      have hrow2 := row_wrote HJ.out.row hw fun g hg => by
        have h1 := (row_block HJ.out.row hg).1
        have h2 := HLT.out
        simp
        omega
      have H2 : Hid (StAt w2 rb (stWr (stRows stWr j s1).2).2 ∧ Wrote [rb] w w2 ∧ w2.ownsRow w.heap.size 48 2 u5 (stRows stWr j s1).1.length ((stRows stWr j s1).1.flatMap wrL)) := ⟨hs, HJ.out.wrote.trans hw, hrow2⟩
      clear hs hw hx hrow2
      unfold wrA
      go_wp2_with (at_builtin; refine wpList_append_own_at _ rfl _ _ 23 rfl w.heap.size 48 i0 (.agg #[.string ⟨#[]⟩, .string ⟨#[]⟩]) 2 32 Tryz.underlying23 HI0.out HZ.out HS.out HY.out rfl (by decide) _ _ _ rfl ((row_below H2.out.2.2 (Below.refl _ _)).alloc _) ⟨w2.heap.size, 0, none⟩ 1 1 [.string xk, .string xv] rfl rfl (news_at w2 [.string xk, .string xv] 48) (wr_one ⟨xk, xv⟩) (by have := HLEN.out j; unfold maxLen; omega) (by have := HLEN.out j; omega) (by simp; have := H2.out.2.1.size; omega) ?_)
      intro v1 w4 hown1 hgrow1 _ _
      obtain ⟨va, vc, rfl⟩ := row_slice hown1
      have HNX : Hid (SmWr w rb s1 (j + 1) (.slice va ((stRows stWr j s1).1.length + 1) vc) w4) := by
        have hlen := HLEN.out j
        have e1 : stRows stWr (j + 1) s1 = ((stRows stWr j s1).1 ++ [⟨xk, xv⟩], (stWr (stRows stWr j s1).2).2) := by rw [stRows_snoc, ← HX.out]
        have hw4 : Wrote u5.ownBlock.toList w2 w4 := (((Wrote.refl _ _).alloc _).trans (Wrote.of_grown hgrow1))
        refine ⟨?_, ?_, ?_⟩
        · rw [e1, List.length_append, List.flatMap_append]
          simpa [wrL] using hown1
        · rw [e1]
          exact H2.out.1.wrote hw4 fun k hk => by
            have h1 := (row_block H2.out.2.2 (by simpa using hk)).1
            have h2 := HLT.out
            omega
        · refine (H2.out.2.1.mono (T := rb :: u5.ownBlock.toList) (by simp)).trans (hw4.mono (by simp; intro a ha; exact .inr ha)) |>.of_new fun k hk => ?_
          rcases List.mem_cons.1 hk with rfl | hk
          · exact .inl (by simp)
          · exact .inr (row_block H2.out.2.2 (by simpa using hk)).1
      clear hown1 hgrow1
      go_wp2_with fail
      exact ⟨⟨j + 1, by omega, rfl, HNX⟩, by simp [intOf]; have := HZZ.out; omega⟩
    · obtain rfl : j = N := by omega
      have g0 : ¬ (0 : Int) < (j : Int) - (j : Int) := by omega
      have HF := Lib.hid HJ.out
      go_wp2_with fail
      go_ret
      refine ⟨_, rfl, ?_, ?_, HF.out.wrote, ?_⟩
      · rw [HDONE.out]; exact HF.out.row
      · rw [HDONE.out]; exact HF.out.st
      · rw [HDONE.out, HLEN.out]; exact hN8
end Go.Proofs.YtaifmfnmgnmgbaaGreatDoor.Txn
