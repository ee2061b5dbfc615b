/- Merkle: may they be entries? -/
import Derived.Test.YtlepjjcnlcnnfaaDoorMkTop2
import Derived.Test.YtlepjjcnlcnnfaaDoorLess
import Derived.Deep.RegionHeld3
namespace Go.Proofs.YtlepjjcnlcnnfaaDoor.Merkle
open Go.RowKit Go.My

def okB (l : List Ent) (i : Nat) : Bool :=
  match l[i]? with
  | none => true
  | some x => decide (x.key.size ≤ 16) && (decide (x.value.size ≤ 64) && (decide (i = 0) || match l[i - 1]? with
    | some y => lessK y.key x.key
    | none => true))
def rightB (l : List Ent) : Bool := (List.range l.length).all (okB l) && decide (l.length ≤ 1024)
def RightLeft (w : World) (l : List Ent) (e : Ending) (w' : World) : Prop := e = .returned (.bool (rightB l)) ∧ Below w.heap.size w w'
theorem le_not (a b : ByteArray) : (Op.bytesLess a.toList b.toList || a.toList == b.toList) = !lessK b a := by
  rw [← gtK a b]
  cases Op.bytesLess a.toList b.toList <;> cases a.toList == b.toList <;> rfl
theorem right_no {l : List Ent} {i : Nat} (hi : i < l.length) (h : okB l i = false) : rightB l = false := by
  unfold rightB
  have : (List.range l.length).all (okB l) = false := by
    rw [List.all_eq_false]
    exact ⟨i, by simpa using hi, by simp [h]⟩
  rw [this]
  rfl
theorem right_end {l : List Ent} (h : ∀ i, i < l.length → okB l i = true) : rightB l = decide (l.length ≤ 1024) := by
  unfold rightB
  have : (List.range l.length).all (okB l) = true := by
    rw [List.all_eq_true]
    intro i hi
    exact h i (by simpa using hi)
  rw [this]
  rfl
set_option maxRecDepth 100000 in
set_option maxHeartbeats 3200000 in
theorem right_any (a : Option Addr) (cap : Nat) (l : List Ent) (w : World) (hL : LiesAt w a 3 entL l) (hm : l.length ≤ 100000) (hs : ∀ x ∈ l, x.key.size ≤ 100000 ∧ x.value.size ≤ 100000) :
    Calls Tryd.prog 15 #[.slice a l.length cap] w (RightLeft w l) := by
  have HL := Lib.hid hL
  have HS := Lib.hid hs
  obtain ⟨n, hn⟩ : ∃ n, n = l.length := ⟨_, rfl⟩
  have HN := Lib.hid hn
  have hn9 : (n : Int) ≤ 100000 := by omega
  have P0 : Hid ((∀ i, i < 0 → okB l i = true) ∧ Below w.heap.size w w) := ⟨fun i hi => by omega, Below.refl _ _⟩
  rw [← hn]
  clear hL hs hn hm
  go_enter Tryd.func15, Tryd.ntmps15
  go_wp2_with fail
  go_loopw [7] (fun i wr => ∃ j : Nat, j ≤ n ∧ i = .int .i64 j ∧ Hid ((∀ i, i < j → okB l i = true) ∧ Below w.heap.size w wr)) (fun i _ => n - (intOf i).toNat)
  case atStart => exact ⟨0, by omega, rfl, P0⟩
  case round =>
    clear P0
    obtain ⟨j, hj, rfl, HR⟩ := hrel
    by_cases hlt : j < n
    · obtain ⟨x, hx⟩ : ∃ x, l[j]? = some x := ⟨_, List.getElem?_eq_getElem (by rw [← HN.out]; exact hlt)⟩
      have hsz := HS.out x (List.mem_of_getElem? hx)
      obtain ⟨g, o, rfl, lg, hc⟩ := (HL.out.below HR.out.2) j x hx
      have d0 := hc 0 _ rfl
      have d1 := hc 1 _ rfl
      have d2 := hc 2 _ rfl
      obtain ⟨xk, xu, xn⟩ := x
      simp only [Nat.add_zero] at d0 d1 d2
      simp only at hsz
      have hj0 : (0 : Int) ≤ (j : Int) := by omega
      have hj1 : (j : Int) < (n : Int) := by omega
      have HX := Lib.hid hx
      have HSZ := Lib.hid hsz
      obtain ⟨W, hW⟩ : ∃ W : World, W = wr.alloc (.cells #[.string xk, .string xu, .int .i64 xn] 36) := ⟨_, rfl⟩
      obtain ⟨xb, hxb⟩ : ∃ k, k = wr.heap.size := ⟨_, rfl⟩
      have hbx : W.heap[xb]? = some (.cells #[.string xk, .string xu, .int .i64 xn] 36 (0, 0)) := by rw [hW, hxb]; exact heap_alloc_new wr _
      have e0 : W.cell? ⟨xb, 0, none⟩ = some (.string xk) := by rw [cell_of_row _ _ _ _ _ _ hbx]; rfl
      have e1 : W.cell? ⟨xb, 1, none⟩ = some (.string xu) := by rw [cell_of_row _ _ _ _ _ _ hbx]; rfl
      have HBW : Hid (Below w.heap.size w W) := by rw [hW]; exact HR.out.2.trans (((Below.refl _ _).alloc (Nat.le_refl _) _).mono HR.out.2.size)
      have HBW2 : Hid (Below wr.heap.size wr W) := by rw [hW]; exact (Below.refl _ _).alloc (Nat.le_refl _) _
      obtain ⟨kn, hkn⟩ : ∃ k, k = xk.size := ⟨_, rfl⟩
      obtain ⟨un, hun⟩ : ∃ k, k = xu.size := ⟨_, rfl⟩
      have HKN := Lib.hid hkn
      have HUN := Lib.hid hun
      have hkl : (kn : Int) ≤ 100000 := by omega
      have hul : (un : Int) ≤ 100000 := by omega
      clear hx hc hsz hbx hkn hun
      go_upto_region 4 with fail
      rw [← hW, ← hxb]
      clear hW hxb d0 d1 d2
      have HQ : Hid (∀ q, Below w.heap.size w (W.drewN q)) := fun q => ⟨HBW.out.os, HBW.out.tape, HBW.out.output, HBW.out.size, HBW.out.block⟩
      have HPOS : Hid (j < l.length) := by rw [← HN.out]; exact hlt
      by_cases hA : (16 : Int) < (kn : Int)
      · have HNO : Hid (rightB l = false) := right_no HPOS.out (by unfold okB; rw [HX.out]; have : ¬ xk.size ≤ 16 := (by rw [← HKN.out]; omega); simp [this])
        have hA' : (16 : Int) < (xk.size : Int) := by have := HKN.out; omega
        refine wp_region_quiet_lit (by kernel_rfl) (by kernel_rfl) ?_
        iterate 25 (with_reducible refine wpQuiet_step (fun K hK => ?_); go_simp; first | (refine hK _ ?_; clear hK K) | (rw [if_neg (by decide)]; refine hK _ ?_; clear hK K))
        with_reducible refine wpQuiet_nil ?_
        rintro _ ⟨nq, rfl⟩
        go_wp2_with fail
        go_ret
        exact ⟨by rw [HNO.out]; rfl, HQ.out _⟩
      · have hA' : ¬ (16 : Int) < (xk.size : Int) := by have := HKN.out; omega
        by_cases hB : (64 : Int) < (un : Int)
        · have HNO : Hid (rightB l = false) := right_no HPOS.out (by unfold okB; rw [HX.out]; have : ¬ xu.size ≤ 64 := (by rw [← HUN.out]; omega); simp [this])
          have hB' : (64 : Int) < (xu.size : Int) := by have := HUN.out; omega
          refine wp_region_quiet_lit (by kernel_rfl) (by kernel_rfl) ?_
          iterate 25 (with_reducible refine wpQuiet_step (fun K hK => ?_); go_simp; first | (refine hK _ ?_; clear hK K) | (rw [if_neg (by decide)]; refine hK _ ?_; clear hK K))
          with_reducible refine wpQuiet_nil ?_
          rintro _ ⟨nq, rfl⟩
          go_wp2_with fail
          go_ret
          exact ⟨by rw [HNO.out]; rfl, HQ.out _⟩
        · have hB' : ¬ (64 : Int) < (xu.size : Int) := by have := HUN.out; omega
          have HK1 : Hid (xk.size ≤ 16) := by rw [← HKN.out]; show _ ≤ _; omega
          have HK2 : Hid (xu.size ≤ 64) := by rw [← HUN.out]; show _ ≤ _; omega
          by_cases h0 : j = 0
          · subst h0
            have HNX : Hid (∀ q, (∀ i, i < 0 + 1 → okB l i = true) ∧ Below w.heap.size w (W.drewN q)) := fun q => ⟨fun i hi => by
              have : i = 0 := by omega
              subst this
              unfold okB
              rw [HX.out]
              simp [HK1.out, HK2.out], HQ.out q⟩
            refine wp_region_quiet_lit (by kernel_rfl) (by kernel_rfl) ?_
            iterate 25 (with_reducible refine wpQuiet_step (fun K hK => ?_); go_simp; first | (refine hK _ ?_; clear hK K) | (rw [if_neg (by decide)]; refine hK _ ?_; clear hK K))
            with_reducible refine wpQuiet_nil ?_
            rintro _ ⟨nq, rfl⟩
            go_wp2_with fail
            exact ⟨⟨0 + 1, by omega, by simp, HNX.out _⟩, by simp [intOf]; omega⟩
          · obtain ⟨p, hp⟩ : ∃ p, p + 1 = j := ⟨j - 1, by omega⟩
            have HPJ := Lib.hid hp
            obtain ⟨y, hy⟩ : ∃ y, l[p]? = some y := ⟨_, List.getElem?_eq_getElem (by have := HPOS.out; omega)⟩
            obtain ⟨g', o', e2, lg', hc'⟩ := (HL.out.below HR.out.2) p y hy
            cases e2
            have f0 : W.cell? ⟨g, o + p * 3, none⟩ = some (.string y.key) := (HBW2.out.cell (p := ⟨g, _, none⟩) lg').trans (hc' 0 _ rfl)
            have w1 : IntKind.i64.wrap ((j : Int) - 1) = (p : Int) := by rw [← hp]; simp; exact IntWalk.i64_in _ (by omega)
            have p0 : (0 : Int) ≤ (p : Int) := by omega
            have p1 : (p : Int) < (n : Int) := by omega
            have j1 : (0 : Int) < (j : Int) := by omega
            have j2 : 0 < j := by omega
            obtain ⟨yk, yu, yn⟩ := y
            simp only at f0
            obtain ⟨rb, hrb⟩ : ∃ rb, rb = lessK yk xk := ⟨_, rfl⟩
            have ht : (Op.bytesLess xk.toList yk.toList || xk.toList == yk.toList) = !rb := by rw [hrb]; exact le_not xk yk
            have HOK : Hid (okB l j = rb) := by
              show _ = _
              unfold okB
              rw [HX.out]
              have e : j - 1 = p := by omega
              simp [HK1.out, HK2.out, h0, e, hy, hrb]
            clear hp hy hc' hrb h0
            cases rb with
            | true =>
              have HNX : Hid (∀ q, (∀ i, i < j + 1 → okB l i = true) ∧ Below w.heap.size w (W.drewN q)) := fun q => ⟨fun i hi => by
                rcases Nat.lt_or_ge i j with h | h
                · exact HR.out.1 i h
                · have : i = j := by omega
                  subst this
                  exact HOK.out, HQ.out q⟩
              refine wp_region_quiet_lit (by kernel_rfl) (by kernel_rfl) ?_
              iterate 25 (with_reducible refine wpQuiet_step (fun K hK => ?_); go_simp; first | (refine hK _ ?_; clear hK K) | (rw [if_neg (by decide)]; refine hK _ ?_; clear hK K))
              with_reducible refine wpQuiet_nil ?_
              rintro _ ⟨nq, rfl⟩
              go_wp2_with fail
              exact ⟨⟨j + 1, by omega, by simp, HNX.out _⟩, by simp [intOf]; omega⟩
            | false =>
              have HNO : Hid (rightB l = false) := right_no HPOS.out HOK.out
              refine wp_region_quiet_lit (by kernel_rfl) (by kernel_rfl) ?_
              iterate 25 (with_reducible refine wpQuiet_step (fun K hK => ?_); go_simp; first | (refine hK _ ?_; clear hK K) | (rw [if_neg (by decide)]; refine hK _ ?_; clear hK K))
              with_reducible refine wpQuiet_nil ?_
              rintro _ ⟨nq, rfl⟩
              go_wp2_with fail
              go_ret
              exact ⟨by rw [HNO.out]; rfl, HQ.out _⟩
    · obtain rfl : n = j := by omega
      have HE : Hid (RightLeft w l (.returned (.bool (decide ((n : Int) ≤ 1024)))) wr) := ⟨by rw [right_end (fun i hi => HR.out.1 i (by rw [HN.out]; exact hi)), ← HN.out]; congr 2; exact decide_eq_decide.2 (by omega), HR.out.2⟩
      clear HR
      go_wp2_with fail
      go_ret
      exact HE.out
end Go.Proofs.YtlepjjcnlcnnfaaDoor.Merkle
