/- Merkle: what the laws ask of their arguments. -/
import Derived.Test.YtlepjjcnlcnnfaaDoorMkChk2
namespace Go.Proofs.YtlepjjcnlcnnfaaDoor.Merkle
open Go.RowKit Go.My

def GreatLeft (w : World) (l : List Ent) (e : Ending) (w' : World) : Prop := ∃ g : Bool, e = .returned (.bool g) ∧ (g = false → l.length ≤ 6000 ∧ ∀ x ∈ l, x.key.size < 60000 ∧ x.value.size < 60000) ∧ Below w.heap.size w w'
set_option maxRecDepth 100000 in
set_option maxHeartbeats 1600000 in
theorem great_any (a : Option Addr) (l : List Ent) (cap : Nat) (w : World) (ha : LiesAt w a 3 entL l) (hm : l.length ≤ maxLen) :
    Calls Tryd.prog 7 #[.slice a l.length cap] w (GreatLeft w l) := by
  unfold maxLen at hm
  have HA := Lib.hid ha
  obtain ⟨len, hlen⟩ : ∃ len, len = l.length := ⟨_, rfl⟩
  have HL := Lib.hid hlen
  rw [← hlen] at hm ⊢
  have P0 : Hid (Below w.heap.size w w) := Below.refl _ _
  have hm9 : (len : Int) ≤ 9223372036854775807 := by omega
  clear hlen ha
  go_enter Tryd.func7, Tryd.ntmps7
  go_wp2_with fail
  go_loopw [3, 4] (fun n i wr => ∃ (k : Nat) (c : Int), k ≤ len ∧ i = .int .i64 k ∧ n = .int .i64 c ∧ 10 * (k : Int) ≤ c ∧ c < 190000 ∧ Hid (∀ (j : Nat) x, j < k → l[j]? = some x → (min x.key.size 60000 : Int) ≤ c ∧ (min x.value.size 60000 : Int) ≤ c) ∧ Hid (Below w.heap.size w wr)) (fun _ i _ => len - (intOf i).toNat)
  case atStart => exact ⟨0, 0, by omega, rfl, rfl, by omega, by omega, fun j s h => by omega, P0⟩
  case round =>
    clear P0
    obtain ⟨k, c, hk, rfl, rfl, hc0, hc, HC, HB⟩ := hrel
    by_cases hlt : k < len
    · obtain ⟨⟨xk, xu, xn⟩, hx⟩ : ∃ x, l[k]? = some x := ⟨_, List.getElem?_eq_getElem (by rw [← HL.out]; exact hlt)⟩
      obtain ⟨g, o, rfl, lg, hcc⟩ := (HA.out.below HB.out) k _ hx
      have d0 := hcc 0 _ rfl
      have d1 := hcc 1 _ rfl
      simp only [Nat.add_zero] at d0 d1
      have HK := Lib.hid hx
      have hj0 : (0 : Int) ≤ (k : Int) := by omega
      have hj1 : (k : Int) < (len : Int) := by omega
      have HQ : Hid (∀ q, Below w.heap.size w (wr.drewN q)) := fun q => ⟨HB.out.os, HB.out.tape, HB.out.output, HB.out.size, HB.out.block⟩
      obtain ⟨c', hc'⟩ : ∃ c' : Int, c' = c + 10 + min (xk.size : Int) 60000 + min (xu.size : Int) 60000 := ⟨_, rfl⟩
      have HN : Hid (10 * ((k + 1 : Nat) : Int) ≤ c' ∧ (c < 60000 → c' < 190000) ∧ ∀ (j : Nat) x, j < k + 1 → l[j]? = some x → (min x.key.size 60000 : Int) ≤ c' ∧ (min x.value.size 60000 : Int) ≤ c') := by
        refine ⟨by omega, by omega, ?_⟩
        intro j t hj ht
        by_cases e : j = k
        · subst e
          rw [HK.out] at ht
          cases ht
          simp only
          omega
        · have := HC.out j t (by omega) ht
          omega
      by_cases hc2 : c < 60000
      · have w1 : IntKind.i64.wrap (c + 10) = c + 10 := IntWalk.i64_in _ (by omega)
        have w2 : IntKind.i64.wrap (c + 10 + min (xk.size : Int) 60000) = c + 10 + min (xk.size : Int) 60000 := IntWalk.i64_in _ (by omega)
        have w3 : IntKind.i64.wrap (c + 10 + min (xk.size : Int) 60000 + min (xu.size : Int) 60000) = c' := by rw [← hc']; exact IntWalk.i64_in _ (by omega)
        clear hx hcc lg hc'
        go_wp2_with fail
        go_quiet (fail)
        go_wp2_with fail
        exact ⟨⟨k + 1, c', by omega, by simp, rfl, HN.out.1, HN.out.2.1 hc2, HN.out.2.2, HQ.out _⟩, by simp [intOf]; omega⟩
      · clear hx hcc lg hc'
        go_wp2_with fail
        go_ret
        exact ⟨true, rfl, (fun h => by cases h), HB.out⟩
    · have HF : Hid (c < 60000 → l.length ≤ 6000 ∧ ∀ x ∈ l, x.key.size < 60000 ∧ x.value.size < 60000) := by
        intro hc3
        refine ⟨by have := HL.out; omega, fun x hs => ?_⟩
        obtain ⟨j, hj⟩ := List.getElem?_of_mem hs
        have hjl := (List.getElem?_eq_some_iff.1 hj).1
        have := HC.out j x (by have := HL.out; omega) hj
        omega
      by_cases hc2 : c < 60000
      · go_wp2_with fail
        go_ret
        refine ⟨_, rfl, fun h => ?_, HB.out⟩
        exact HF.out hc2
      · go_wp2_with fail
        go_ret
        exact ⟨true, rfl, (fun h => by cases h), HB.out⟩
def GreatPLeft (w : World) (p : Prf) (e : Ending) (w' : World) : Prop := ∃ g : Bool, e = .returned (.bool g) ∧ (g = false → (p.L.length ≤ 6000 ∧ ∀ x ∈ p.L, x.key.size < 60000 ∧ x.value.size < 60000) ∧ p.B.length ≤ 3000) ∧ Below w.heap.size w w'
set_option maxRecDepth 100000 in
theorem greatP_any (p : Prf) (a1 : Option Addr) (c1 : Nat) (a2 : Option Addr) (c2 : Nat) (w : World) (hL : LiesAt w a1 3 entL p.L) (hm : p.L.length ≤ maxLen) (hb9 : p.B.length ≤ maxLen) :
    Calls Tryd.prog 8 #[prfV p a1 c1 a2 c2] w (GreatPLeft w p) := by
  obtain ⟨W, hW⟩ : ∃ W : World, W = w.alloc (.cells #[.int .i64 p.many, .int .i64 p.first, .slice a1 p.L.length c1, .slice a2 p.B.length c2] 25) := ⟨_, rfl⟩
  have hbw : Below w.heap.size w W := by rw [hW]; exact (Below.refl _ _).alloc (Nat.le_refl _) _
  have hbx : W.heap[w.heap.size]? = some (.cells #[.int .i64 p.many, .int .i64 p.first, .slice a1 p.L.length c1, .slice a2 p.B.length c2] 25 (0, 0)) := by rw [hW]; exact heap_alloc_new w _
  have HG := Lib.hid (great_any a1 p.L c1 W (hL.below hbw) hm)
  have HBX := Lib.hid hbx
  have HBW := Lib.hid hbw
  unfold maxLen at hb9
  unfold prfV
  obtain ⟨pm, pf, L, B⟩ := p
  simp only at hW HBX hb9 HG hbx ⊢
  obtain ⟨ln, hln⟩ : ∃ q, q = L.length := ⟨_, rfl⟩
  obtain ⟨bn, hbn⟩ : ∃ q, q = B.length := ⟨_, rfl⟩
  rw [← hln] at hW HBX HG hbx ⊢
  rw [← hbn] at hW HBX hb9 hbx ⊢
  have HBN := Lib.hid hbn
  have HW := Lib.hid hW.symm
  have d2 : W.cell? ⟨w.heap.size, 2, none⟩ = some (.slice a1 ln c1) := by rw [cell_of_row _ _ _ _ _ _ hbx]; rfl
  have hb8 : (bn : Int) ≤ 9223372036854775807 := by omega
  clear hL hm hW hbw hbx hln hbn
  go_enter Tryd.func8, Tryd.ntmps8
  go_upto_region 1 with fail
  rw [HW.out]
  go_wp2_with fail
  refine HG.out.mono ?_
  rintro e w1 ⟨g, rfl, hg, hb⟩
  have hx := box_kept hb HBX.out
  have d3 : w1.cell? ⟨w.heap.size, 3, none⟩ = some (.slice a2 bn c2) := by rw [cell_of_row _ _ _ _ _ _ hx]; rfl
  have HB := Lib.hid (HBW.out.trans (hb.mono HBW.out.size))
  have HGF : Hid (g = false → L.length ≤ 6000 ∧ ∀ x ∈ L, x.key.size < 60000 ∧ x.value.size < 60000) := hg
  clear hb hx hg
  cases g with
  | true =>
    go_wp2_with fail
    go_ret
    exact ⟨true, rfl, (fun h => by cases h), HB.out⟩
  | false =>
    by_cases h3 : (3000 : Int) < (bn : Int)
    · go_wp2_with fail
      go_ret
      exact ⟨true, rfl, (fun h => by cases h), HB.out⟩
    · have h4 : decide ((3000 : Int) < (bn : Int)) = false := by simpa using h3
      have HGG : Hid (L.length ≤ 6000 ∧ ∀ x ∈ L, x.key.size < 60000 ∧ x.value.size < 60000) := HGF.out rfl
      go_wp2_with fail
      go_ret
      refine ⟨false, rfl, fun _ => ⟨HGG.out, ?_⟩, HB.out⟩
      show B.length ≤ 3000
      have := HBN.out
      omega
end Go.Proofs.YtlepjjcnlcnnfaaDoor.Merkle
