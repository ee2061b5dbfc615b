/- A route: three rows of pieces, one behind the other. -/
import Derived.Test.YtemgcliihbjjiaaDoorRmvd
import Derived.Lib.AppendZeros
namespace Go.Proofs.YtemgcliihbjjiaaDoor
open Go.RowKit Go.My
def GrowLeft (w : World) (e : Ending) (w' : World) : Prop := ∃ v, e = .returned v ∧ w'.ownsRow w.heap.size 35 3 v 0 [] ∧ Below w.heap.size w w'
set_option maxRecDepth 100000 in
set_option maxHeartbeats 1600000 in
theorem grow_45 (n : Nat) (w : World) (hn : n ≤ 2000) : Calls Tryd.prog 45 #[.slice none 0 0, .int .i64 (n : Int)] w (GrowLeft w) := by
  by_cases h0 : n = 0
  · subst h0
    go_enter Tryd.func45, Tryd.ntmps45
    go_wp2_with fail
    go_ret
    exact ⟨_, rfl, World.ownsRow_nil _ _ _ _, Below.refl _ _⟩
  · obtain ⟨i0, hi, hz0, hz1, hz2⟩ := info_parts pc_info
    have happ := Lib.run_append_nil_zeros (P := Tryd.prog) w 22 3 22 35 i0 (pcA pc0) .i64 .i64 Tryd.underlying22 Tryd.underlying3 hi hz0 n (by omega) (by rw [hz1]; omega) (by omega) (by rw [hz2]; omega)
    generalize hcap : grownCap w n 0 35 = cap2 at happ
    have hcapge : n ≤ cap2 := by rw [← hcap]; exact grownCap_ge w _ 0 35
    have hcaple : cap2 ≤ maxLen := by rw [← hcap]; exact grownCap_le_maxLen w _ 0 35 (by unfold maxLen; omega)
    generalize hZ : (Builtin.zeroCells (pcA pc0).cells n ++ Builtin.zeroCells (pcA pc0).cells (cap2 - n)) = Z at happ
    have hZs : Z.size = cap2 * 3 := by rw [← hZ]; simp [size_zeroCells, pcA, Value.cells]; omega
    have HE : Hid (GrowLeft w (.returned (.slice (some ⟨w.heap.size, 0, none⟩) 0 cap2)) (w.drew.alloc (.cells Z 35))) := ⟨_, rfl, ⟨rfl, .inr ⟨w.heap.size, cap2, Z, rfl, Nat.le_refl _, heap_alloc_new w.drew _, Nat.zero_le _, hcaple, hZs, by simp⟩⟩, ⟨rfl, rfl, rfl, by simp, fun k hk => Below.heap_alloc w _ k hk⟩⟩
    have hn1 : (0 : Int) < (n : Int) := by omega
    have hn2 : (n : Int) ≤ 2000 := by omega
    clear hi hz0 hz1 hz2 hcap hZ hZs
    go_enter Tryd.func45, Tryd.ntmps45
    go_wp2_with (at_builtin; refine Lib.wpList_append_run _ rfl _ _ _ _ rfl _ _ rfl rfl _ _ happ ?_)
    go_ret
    exact HE.out
def partOf (X Y Z : List Pc) : Nat → List Pc
  | 0 => []
  | 1 => X
  | 2 => X ++ Y
  | _ => X ++ Y ++ Z
set_option maxRecDepth 100000 in
set_option maxHeartbeats 3200000 in
theorem concat_32 (H : Nat) (ax ay az : Option Addr) (cx cy cz : Nat) (X Y Z : List Pc) (w : World) (hh : w.heap[H]? = some (.cells #[.slice ax X.length cx, .slice ay Y.length cy, .slice az Z.length cz] 22 (0, 0))) (hx : SrcAny w ax cx X) (hy : SrcAny w ay cy Y) (hz : SrcAny w az cz Z) (hX : X.length ≤ 500) (hY : Y.length ≤ 500) (hZ : Z.length ≤ 500) :
    Calls Tryd.prog 32 #[.slice (some ⟨H, 0, none⟩) 3 3] w (RowLeft w (X ++ Y ++ Z)) := by
  have HX := Lib.hid hx
  have HY := Lib.hid hy
  have HZ := Lib.hid hz
  obtain ⟨nx, hnx⟩ : ∃ n, n = X.length := ⟨_, rfl⟩
  obtain ⟨ny, hny⟩ : ∃ n, n = Y.length := ⟨_, rfl⟩
  obtain ⟨nz, hnz⟩ : ∃ n, n = Z.length := ⟨_, rfl⟩
  rw [← hnx, ← hny, ← hnz] at hh
  have HNX := Lib.hid hnx
  have HNY := Lib.hid hny
  have HNZ := Lib.hid hnz
  have HH := Lib.hid hh
  have hx9 : nx ≤ 500 := by omega
  have hy9 : ny ≤ 500 := by omega
  have hz9 : nz ≤ 500 := by omega
  have HG : Hid (Calls Tryd.prog 45 #[.slice none 0 0, .int .i64 ((nx + ny + nz : Nat) : Int)] w (GrowLeft w)) := grow_45 (nx + ny + nz) w (by omega)
  have c0 : w.cell? ⟨H, 0, none⟩ = some (.slice ax nx cx) := by rw [cell_of_row _ _ _ _ _ _ hh]; rfl
  have c1 : w.cell? ⟨H, 1, none⟩ = some (.slice ay ny cy) := by rw [cell_of_row _ _ _ _ _ _ hh]; rfl
  have c2 : w.cell? ⟨H, 2, none⟩ = some (.slice az nz cz) := by rw [cell_of_row _ _ _ _ _ _ hh]; rfl
  have lH := lt_of_heap hh
  clear hx hy hz hnx hny hnz hh hX hY hZ
  go_enter Tryd.func32, Tryd.ntmps32
  go_wp2_with fail
  go_loopw [3, 11] (fun sz iv wr => wr = w ∧ ∃ i s : Nat, sz = .int .i64 (s : Int) ∧ iv = .int .i64 (i : Int) ∧ ((i = 0 ∧ s = 0) ∨ (i = 1 ∧ s = nx) ∨ (i = 2 ∧ s = nx + ny) ∨ (i = 3 ∧ s = nx + ny + nz))) (fun _ iv _ => 4 - (intOf iv).toNat)
  case atStart => exact ⟨rfl, 0, 0, rfl, rfl, .inl ⟨rfl, rfl⟩⟩
  case round =>
    obtain ⟨ew, i, s, rfl, rfl, hd⟩ := hrel
    obtain rfl : w = wr := ew.symm
    rcases hd with ⟨rfl, rfl⟩ | ⟨rfl, rfl⟩ | ⟨rfl, rfl⟩ | ⟨rfl, rfl⟩
    · go_wp2_with fail
      exact ⟨⟨trivial, 1, nx, by simp, rfl, .inr (.inl ⟨rfl, rfl⟩)⟩, by simp [intOf]⟩
    · go_wp2_with fail
      exact ⟨⟨trivial, 2, s + ny, by simp, rfl, .inr (.inr (.inl ⟨rfl, rfl⟩))⟩, by simp [intOf]⟩
    · go_wp2_with fail
      exact ⟨⟨trivial, 3, nx + ny + nz, by simp, rfl, .inr (.inr (.inr ⟨rfl, rfl⟩))⟩, by simp [intOf]⟩
    · go_wp2_with fail
      refine HG.out.mono ?_
      rintro e w1 ⟨v, rfl, hown, hb⟩
      have P0 : Hid (w1.ownsRow w.heap.size 35 3 v (partOf X Y Z 0).length ((partOf X Y Z 0).flatMap pcL) ∧ Below w.heap.size w w1) := ⟨hown, hb⟩
      have HH2 : Hid (∀ W, Below w.heap.size w W → W.cell? ⟨H, 0, none⟩ = some (.slice ax nx cx) ∧ W.cell? ⟨H, 1, none⟩ = some (.slice ay ny cy) ∧ W.cell? ⟨H, 2, none⟩ = some (.slice az nz cz) ∧ H < W.heap.size) := fun W hb => ⟨(hb.cell (p := ⟨H, 0, none⟩) lH).trans c0, (hb.cell (p := ⟨H, 1, none⟩) lH).trans c1, (hb.cell (p := ⟨H, 2, none⟩) lH).trans c2, Nat.lt_of_lt_of_le lH hb.size⟩
      clear hown hb c0 c1 c2
      go_wp2_with fail
      go_loopw [6, 27] (fun ov iv W => ∃ i : Nat, iv = .int .i64 (i : Int) ∧ i ≤ 3 ∧ Hid (W.ownsRow w.heap.size 35 3 ov (partOf X Y Z i).length ((partOf X Y Z i).flatMap pcL) ∧ Below w.heap.size w W)) (fun _ iv _ => 4 - (intOf iv).toNat)
      case atStart => exact ⟨0, rfl, by omega, P0⟩
      case round =>
        clear P0
        obtain ⟨i, rfl, hi2, HB⟩ := hrel
        obtain ⟨c0, c1, c2, lH2⟩ := HH2.out wr HB.out.2
        rcases (by omega : i = 0 ∨ i = 1 ∨ i = 2 ∨ i = 3) with rfl | rfl | rfl | rfl
        · go_wp2_with (at_builtin; refine append_src rfl _ _ rfl w.heap.size _ (partOf X Y Z 0) X rfl HB.out.1 ax cx (by rw [← HNX.out]; rfl) (HX.out.below HB.out.2) (by simp [partOf]) (by rw [← HNX.out]; omega) HB.out.2.size ?_)
          intro v' w3 hown hgrow
          have HB3 : Hid (w3.ownsRow w.heap.size 35 3 v' (partOf X Y Z 1).length ((partOf X Y Z 1).flatMap pcL) ∧ Below w.heap.size w w3) := by
            refine ⟨by simpa [partOf, Nat.add_assoc] using hown, ?_⟩
            have hW : Wrote u6.ownBlock.toList _ w3 := Wrote.of_grown hgrow
            exact HB.out.2.trans (hW.below HB.out.2.size fun g hg' => by
              simp only [Option.mem_toList] at hg'
              exact (row_block HB.out.1 hg').1)
          clear hown hgrow
          go_wp2_with fail
          exact ⟨⟨1, rfl, by omega, HB3⟩, by simp [intOf]⟩
        · go_wp2_with (at_builtin; refine append_src rfl _ _ rfl w.heap.size _ (partOf X Y Z 1) Y rfl HB.out.1 ay cy (by rw [← HNY.out]; rfl) (HY.out.below HB.out.2) (by simp only [partOf]; rw [← HNX.out]; omega) (by rw [← HNY.out]; omega) HB.out.2.size ?_)
          intro v' w3 hown hgrow
          have HB3 : Hid (w3.ownsRow w.heap.size 35 3 v' (partOf X Y Z 2).length ((partOf X Y Z 2).flatMap pcL) ∧ Below w.heap.size w w3) := by
            refine ⟨by simpa [partOf, Nat.add_assoc] using hown, ?_⟩
            have hW : Wrote u6.ownBlock.toList _ w3 := Wrote.of_grown hgrow
            exact HB.out.2.trans (hW.below HB.out.2.size fun g hg' => by
              simp only [Option.mem_toList] at hg'
              exact (row_block HB.out.1 hg').1)
          clear hown hgrow
          go_wp2_with fail
          exact ⟨⟨2, rfl, by omega, HB3⟩, by simp [intOf]⟩
        · go_wp2_with (at_builtin; refine append_src rfl _ _ rfl w.heap.size _ (partOf X Y Z 2) Z rfl HB.out.1 az cz (by rw [← HNZ.out]; rfl) (HZ.out.below HB.out.2) (by simp only [partOf, List.length_append]; rw [← HNX.out, ← HNY.out]; omega) (by rw [← HNZ.out]; omega) HB.out.2.size ?_)
          intro v' w3 hown hgrow
          have HB3 : Hid (w3.ownsRow w.heap.size 35 3 v' (partOf X Y Z 3).length ((partOf X Y Z 3).flatMap pcL) ∧ Below w.heap.size w w3) := by
            refine ⟨by simpa [partOf, Nat.add_assoc] using hown, ?_⟩
            have hW : Wrote u6.ownBlock.toList _ w3 := Wrote.of_grown hgrow
            exact HB.out.2.trans (hW.below HB.out.2.size fun g hg' => by
              simp only [Option.mem_toList] at hg'
              exact (row_block HB.out.1 hg').1)
          clear hown hgrow
          go_wp2_with fail
          exact ⟨⟨3, rfl, by omega, HB3⟩, by simp [intOf]⟩
        · go_wp2_with fail
          go_ret
          exact ⟨_, rfl, HB.out.1, HB.out.2⟩
end Go.Proofs.YtemgcliihbjjiaaDoor
