/- A route: one piece laid in at the head of a row. -/
import Derived.Test.YtemgcliihbjjiaaDoorRmvd
import Derived.Test.YtemgcliihbjjiaaDoorCpy
import Derived.Lib.AppendZeros
import Derived.Lib.Overlaps
import Derived.Deep.RegionLaw
namespace Go.Proofs.YtemgcliihbjjiaaDoor
open Go.RowKit Go.My

/-- 'append(s[:0], make(S, n)...)' where there is no room. -/
theorem run_append_cut_zeros {P : Program} (w : World) (t tn ty e : TypeId) (i : TypeInfo) (z : Value) (k kn : IntKind) (ht : P.underlying t = some (.slice e)) (htn : P.underlying tn = some (.int kn)) (hi : P.info? e = some i) (hz : i.zero = some z)
    (a : Addr) (cap n : Nat) (hg : cap < n) (hs : 0 < i.size) (h63 : (n : Int) ≤ 9223372036854775807) (h48 : n * i.bytes ≤ 281474976710656) (h48' : Builtin.nextslicecap n cap * i.bytes ≤ 281474976710656) :
    (Builtin.append_ #[t, tn] ty #[.slice (some a) 0 cap, .int k n]).run P w =
      .ok (.slice (some ⟨w.heap.size, 0, none⟩) n (grownCap w n cap e)) (w.drew.alloc (.cells (Builtin.zeroCells z.cells n ++ Builtin.zeroCells z.cells (grownCap w n cap e - n)) e)) := by
  have hn : n ≠ 0 := by omega
  have hw : IntKind.i64.wrap (n : Int) = n := by rw [IntKind.wrap_i64]; omega
  have h63' : ¬ (9223372036854775807 < (n : Int)) := by omega
  have h48n : ¬ (281474976710656 < Builtin.nextslicecap n cap * i.bytes) := by omega
  have h48i : ¬ (281474976710656 < (n : Int) * (i.bytes : Int)) := by
    rw [← Int.natCast_mul]
    omega
  have hneg : ¬ ((n : Int) < 0) := by omega
  have hns : ¬ (n * i.size = 0) := Nat.mul_ne_zero hn (by omega)
  have hle : ¬ (n ≤ cap) := by omega
  have hf : ∀ W, (Builtin.firstCells i.size 0 (.slice (some a) 0 cap)).run P W = .ok #[] W := fun W =>
    run_firstCells_some (P := P) W i.size 0 a 0 cap [] (by simp) (fun j u h => by simp at h)
  simp [Builtin.append_, run_underlying ht, run_underlying htn, sizeOf, typeInfo, zeroValue, hi, hz, asInt, asIntOf, hw, hneg, hns, h63', h48n, h48i, hle, Question.forced, hf, newRow, grownCap]

theorem splice_two {α : Type} (Z A B : List α) (k : Nat) (hk : A.length = k) : (splice (splice Z 0 A) k B).take (k + B.length) = A ++ B := by
  subst hk
  unfold splice
  simp
  rw [← List.append_assoc, List.take_append_of_le_length (by simp)]
  exact List.take_of_length_le (by simp)
theorem splice_two' {α : Type} (Z A B : List α) (k : Nat) (hk : A.length = k) (h : A.length + B.length ≤ Z.length) : (splice (splice Z k B) 0 A).take (k + B.length) = A ++ B := by
  subst hk
  unfold splice
  have e : (Z.take A.length ++ (B ++ Z.drop (A.length + B.length))).drop A.length = B ++ Z.drop (A.length + B.length) := by
    rw [List.drop_append_of_le_length (by simp; omega)]
    simp
  simp only [List.take_zero, List.nil_append, Nat.zero_add]
  rw [e, ← List.append_assoc, List.take_append_of_le_length (by simp)]
  exact List.take_of_length_le (by simp)
/-- What Insert leaves: a row, in the one that was there or in a new one. -/
def InsLeft (w : World) (base : Nat) (v : Value) (R : List Pc) (e : Ending) (w' : World) : Prop :=
  ∃ v', e = .returned v' ∧ w'.ownsRow base 35 3 v' R.length (R.flatMap pcL) ∧ Wrote v.ownBlock.toList w w'
theorem one_of3 {w : World} {vb : Nat} {x : Pc} (hx : w.heap[vb]? = some (.cells #[.string x.fr, .int .i64 x.sh, .int .i64 x.ep] 35 (0, 0))) : ∀ j v, (pcL x)[j]? = some v → w.cell? ((⟨vb, 0, none⟩ : Addr).add j) = some v := by
  intro j v hj
  rw [Addr.add_lit, Nat.zero_add, cell_of_row _ _ _ _ _ _ hx]
  simpa [pcL] using hj
theorem pcL_one (x : Pc) : ∀ v ∈ pcL x, v.oneCell' = true := by
  intro u hu
  simp only [pcL, List.mem_cons, List.not_mem_nil, or_false] at hu
  rcases hu with rfl | rfl | rfl <;> rfl
set_option maxRecDepth 100000 in
set_option maxHeartbeats 1600000 in
theorem insert_nil (base : Nat) (a : Option Addr) (cap : Nat) (x : Pc) (vb : Nat) (w : World) (hS : w.ownsRow base 35 3 (.slice a 0 cap) ([] : List Pc).length (([] : List Pc).flatMap pcL)) (hbase : base ≤ w.heap.size)
    (hx : w.heap[vb]? = some (.cells #[.string x.fr, .int .i64 x.sh, .int .i64 x.ep] 35 (0, 0))) :
    Calls Tryd.prog 31 #[.slice a 0 cap, .int .i64 0, .slice (some ⟨vb, 0, none⟩) 1 1] w (InsLeft w base (.slice a 0 cap) [x]) := by
  have HS := Lib.hid hS
  have HX := Lib.hid (src_one hx)
  have HB := hbase
  obtain ⟨v, hv⟩ : ∃ v, v = Value.slice a 0 cap := ⟨_, rfl⟩
  have HV := Lib.hid hv
  clear hS hx hv
  go_enter Tryd.func31, Tryd.ntmps31
  go_wp2_with (at_builtin; refine append_src rfl _ _ rfl base _ [] [x] rfl HS.out _ 1 rfl HX.out (by simp) (by simp) HB ?_)
  intro v' w3 hown hgrow
  have HE : Hid (InsLeft w base v [x] (.returned v') w3) := ⟨v', rfl, hown, by rw [HV.out]; exact Wrote.of_grown hgrow⟩
  clear hown hgrow
  go_wp2_with fail
  go_ret
  rw [← HV.out]
  exact HE.out

set_option maxRecDepth 100000 in
set_option maxHeartbeats 3200000 in
theorem insert_grow (base : Nat) (g cap : Nat) (S : List Pc) (x : Pc) (vb : Nat) (w : World) (hS : w.ownsRow base 35 3 (.slice (some ⟨g, 0, none⟩) S.length cap) S.length (S.flatMap pcL)) (hbase : base ≤ w.heap.size)
    (hx : w.heap[vb]? = some (.cells #[.string x.fr, .int .i64 x.sh, .int .i64 x.ep] 35 (0, 0))) (hl : S.length ≤ 64) (h0 : 0 < S.length) (hcap : cap < S.length + 1) :
    Calls Tryd.prog 31 #[.slice (some ⟨g, 0, none⟩) S.length cap, .int .i64 0, .slice (some ⟨vb, 0, none⟩) 1 1] w (InsLeft w base (.slice (some ⟨g, 0, none⟩) S.length cap) (x :: S)) := by
  obtain ⟨i0, hi, hz0, hz1, hz2⟩ := info_parts pc_info
  have hcells := hS.cells (g := g) rfl
  obtain ⟨n, hn⟩ : ∃ n, n = S.length := ⟨_, rfl⟩
  have hxs : (S.flatMap pcL).length = n * 3 := by rw [flatP_len, hn]
  obtain ⟨xs, hxs0⟩ : ∃ xs, xs = S.flatMap pcL := ⟨_, rfl⟩
  have hnsc : Builtin.nextslicecap (n + 1) cap ≤ 200 := by
    unfold Builtin.nextslicecap
    split
    · omega
    · split
      · omega
      · omega
  have happ := run_append_cut_zeros (P := Tryd.prog) w 22 3 22 35 i0 (pcA pc0) .i64 .i64 Tryd.underlying22 Tryd.underlying3 hi hz0 ⟨g, 0, none⟩ cap (n + 1) (by omega) (by rw [hz1]; omega) (by omega) (by rw [hz2]; omega) (by rw [hz2]; omega)
  generalize hc2 : grownCap w (n + 1) cap 35 = cap2 at happ
  have hcapge : n + 1 ≤ cap2 := by rw [← hc2]; exact grownCap_ge w _ _ 35
  have hcaple : cap2 ≤ maxLen := by rw [← hc2]; exact grownCap_le_maxLen w _ _ 35 (by unfold maxLen; omega)
  generalize hZ : (Builtin.zeroCells (pcA pc0).cells (n + 1) ++ Builtin.zeroCells (pcA pc0).cells (cap2 - (n + 1))) = Z at happ
  have hZs : Z.size = cap2 * 3 := by rw [← hZ]; simp [size_zeroCells, pcA, Value.cells]; omega
  obtain ⟨W2, hW2⟩ : ∃ W2, W2 = w.drew.alloc (.cells Z 35) := ⟨_, rfl⟩
  rw [← hW2] at happ
  obtain ⟨H, hH⟩ : ∃ H, H = w.heap.size := ⟨_, rfl⟩
  have hbel : Below w.heap.size w W2 := by rw [hW2]; exact ⟨rfl, rfl, rfl, by simp, fun k hk => Below.heap_alloc w _ k hk⟩
  have hrow : W2.heap[H]? = some (.cells Z 35 (0, 0)) := by rw [hW2, hH]; exact heap_alloc_new w.drew _
  have hlt : vb < w.heap.size := lt_of_heap hx
  have hgl : g < w.heap.size := (hS.lt g rfl).2
  have HX2 : Hid (W2.heap[vb]? = some (.cells #[.string x.fr, .int .i64 x.sh, .int .i64 x.ep] 35 (0, 0))) := (hbel.block _ hlt).trans hx
  have HROW := Lib.hid (show W2.heap[H]? = some (.cells Z.toList.toArray 35 (0, 0)) by simpa using hrow)
  have HSRC : Hid (∀ W3, Wrote [H] W2 W3 → ∀ j v, xs[j]? = some v → W3.cell? ((⟨g, 0, none⟩ : Addr).add j) = some v) := fun W3 hw j v hj => by
    have h1 := hcells j v (by rw [← hxs0]; exact hj)
    rw [Addr.add_lit] at h1 ⊢
    rw [hw.cell (p := ⟨g, 0 + j, none⟩) (by show g < _; have := hbel.size; omega) (by show g ∉ [H]; rw [hH]; simp; omega)]
    exact (hbel.cell (p := ⟨g, 0 + j, none⟩) hgl).trans h1
  have HXO := Lib.hid (one_of3 HX2.out)
  have HP1 := Lib.hid (pcL_one x)
  have HS1 : Hid (∀ v ∈ xs, v.oneCell' = true) := fun v hv => by rw [hxs0] at hv; exact one_cells v hv
  have HXL : Hid (xs.length = n * 3) := by show _ = _; rw [hxs0, hxs]
  have HEND : Hid (∀ W4, W4.heap[H]? = some (.cells (splice (splice Z.toList 0 (pcL x)) 3 xs).toArray 35 (0, 0)) → Wrote [H] W2 W4 → InsLeft w base (.slice (some ⟨g, 0, none⟩) n cap) (x :: S) (.returned (.slice (some ⟨H, 0, none⟩) (n + 1) cap2)) W4) := fun W4 hh hw => by
    refine ⟨_, rfl, ⟨?_, .inr ⟨H, cap2, _, ?_, by omega, hh, ?_, hcaple, ?_, ?_⟩⟩, ?_⟩
    · rw [flatP_len]
    · rw [List.length_cons, hn]
    · rw [List.length_cons, ← hn]; exact hcapge
    · have hl3 : xs.length = n * 3 := HXL.out
      rw [List.size_toArray, length_splice _ _ _ (by rw [length_splice _ _ _ (by simp [pcL_len]; omega), hl3]; simp; omega), length_splice _ _ _ (by simp [pcL_len]; omega)]
      simp; omega
    · have := splice_two Z.toList (pcL x) xs 3 rfl
      have hl3 : xs.length = n * 3 := HXL.out
      rw [hl3] at this
      rw [List.flatMap_cons, ← hxs0, ← this]
      congr 1
      rw [List.length_cons, hn]; omega
    · exact ((Wrote.of_below (S := [H]) hbel).trans hw).of_new (fun k hk => by
        obtain rfl : k = H := by simpa using hk
        exact .inr (by omega))
  have hci : (cap : Int) < (n : Int) + 1 := by omega
  have hn0 : ¬ (0 : Int) = (n : Int) := by omega
  have hn64 : (n : Int) ≤ 64 := by omega
  have hc2i : (n : Int) + 1 ≤ (cap2 : Int) := by omega
  have hc0 : (0 : Int) ≤ (cap : Int) := by omega
  have hc9 : (cap2 : Int) ≤ 9223372036854775807 := by unfold maxLen at hcaple; omega
  have hc21 : ¬ cap2 = 1 := by omega
  have hc2p : (1 : Int) ≤ (n : Int) + 1 := by omega
  have hc2q : (0 : Int) ≤ (n : Int) + 1 := by omega
  have hw1 : IntKind.i64.wrap 1 = 1 := by decide
  have hsz : Hid ((Tryd.prog.info? 35).map (·.size) = some 3) := by show _ = _; kernel_rfl
  rw [← hn]
  clear hS hx hcells hxs hnsc hi hz0 hz1 hz2 hc2 hZ hW2 hbel hrow hlt hgl hn hxs0 hcapge hcaple hl h0 hcap
  rw [show ((n + 1 : Nat) : Int) = (n : Int) + 1 by omega] at happ
  have HA := Lib.hid happ
  rw [← hH] at HA
  clear happ hH
  go_enter Tryd.func31, Tryd.ntmps31
  go_wp2_with (first | (at_builtin; refine Lib.wpList_append_run _ rfl _ _ _ _ rfl _ _ rfl rfl _ _ HA.out ?_) | (refine wpList_copyN rfl (.tmp 43) (.tmp 44) 22 22 rfl 35 3 Tryd.underlying22 hsz.out ⟨vb, 0, none⟩ (n + 1) cap2 1 1 H 0 (by rfl) (by rfl) Z.toList 35 HROW.out (pcL x) 1 (by simp) rfl HXO.out (by simp [pcL_len]; omega) HP1.out ?_))
  intro w3 hg3 hw3
  have HG3 := hg3
  have HW3 := Lib.hid hw3
  clear hg3 hw3
  go_wp2_with fail
  have HG4 : Hid (w3.drew.heap[H]? = some (.cells (splice Z.toList 0 (pcL x)).toArray 35 (0, 0))) := HG3.out
  have HSR := Lib.hid (HSRC.out w3.drew HW3.out.drew)
  have HFT : Hid (3 + xs.length ≤ (splice Z.toList 0 (pcL x)).length) := by
    show _ ≤ _
    rw [length_splice _ _ _ (by simp [pcL_len]; omega), HXL.out]; simp; omega
  generalize splice Z.toList 0 (pcL x) = cur at HG4 HFT HEND
  go_region_law ((refine step_copyN (by rfl) (.tmp 50) (.tmp 53) 22 22 (by rfl) 35 3 Tryd.underlying22 hsz.out ⟨g, 0, none⟩ n (cap2 - 1) n cap H 3 (by go_simp) (by go_simp) cur 35 HG4.out xs n (Nat.min_self n) HXL.out HSR.out HFT.out HS1.out ?_; intro w4 hg4 hw4))
  have HE := Lib.hid (HEND.out w4 hg4.out (HW3.out.drew.trans hw4))
  clear hg4 hw4
  go_wp2_with fail
  go_ret
  exact HE.out
set_option maxRecDepth 100000 in
set_option maxHeartbeats 3200000 in
theorem insert_room (base : Nat) (g cap : Nat) (S : List Pc) (x : Pc) (vb : Nat) (w : World) (hS : w.ownsRow base 35 3 (.slice (some ⟨g, 0, none⟩) S.length cap) S.length (S.flatMap pcL))
    (hx : w.heap[vb]? = some (.cells #[.string x.fr, .int .i64 x.sh, .int .i64 x.ep] 35 (0, 0))) (hne : vb ≠ g) (hl : S.length ≤ 64) (h0 : 0 < S.length) (hcap : S.length + 1 ≤ cap) :
    Calls Tryd.prog 31 #[.slice (some ⟨g, 0, none⟩) S.length cap, .int .i64 0, .slice (some ⟨vb, 0, none⟩) 1 1] w (InsLeft w base (.slice (some ⟨g, 0, none⟩) S.length cap) (x :: S)) := by
  have hcells := hS.cells (g := g) rfl
  obtain ⟨n, hn⟩ : ∃ n, n = S.length := ⟨_, rfl⟩
  have hxs : (S.flatMap pcL).length = n * 3 := by rw [flatP_len, hn]
  obtain ⟨xs, hxs0⟩ : ∃ xs, xs = S.flatMap pcL := ⟨_, rfl⟩
  obtain ⟨cur, hrow, hcur, htake, hcm, hbg⟩ : ∃ cur : Array Value, w.heap[g]? = some (.cells cur 35 (0, 0)) ∧ cur.size = cap * 3 ∧ cur.toList.take (n * 3) = xs ∧ cap ≤ maxLen ∧ base ≤ g := by
    rcases hS.2 with ⟨h1, _⟩ | ⟨g', cap', cur, h1, hb, h2, _, h3, h4, h5⟩
    · cases h1
    · injection h1 with h6 h7 h8
      obtain rfl : g = g' := by simpa using h6
      subst h8
      exact ⟨cur, h2, h4, by rw [hxs0, ← h5, hn], h3, hb⟩
  have HX := Lib.hid hx
  have HROW : Hid (w.drew.heap[g]? = some (.cells cur.toList.toArray 35 (0, 0))) := by show w.heap[g]? = _; simpa using hrow
  have HSRC : Hid (∀ j v, xs[j]? = some v → w.drew.cell? ((⟨g, 0, none⟩ : Addr).add j) = some v) := fun j v hj => hcells j v (by rw [← hxs0]; exact hj)
  have HXO : Hid (∀ W3, Wrote [g] w W3 → ∀ j v, (pcL x)[j]? = some v → W3.cell? ((⟨vb, 0, none⟩ : Addr).add j) = some v) := fun W3 hw => one_of3 (hw.heap hx (by simpa using hne))
  have HP1 := Lib.hid (pcL_one x)
  have HS1 : Hid (∀ v ∈ xs, v.oneCell' = true) := fun v hv => by rw [hxs0] at hv; exact one_cells v hv
  have HXL : Hid (xs.length = n * 3) := by show _ = _; rw [hxs0, hxs]
  have HF1 : Hid (3 + xs.length ≤ cur.toList.length) := by show _ ≤ _; rw [HXL.out]; simp; omega
  have HF2 : Hid (0 + (pcL x).length ≤ (splice cur.toList 3 xs).length) := by show _ ≤ _; rw [length_splice _ _ _ HF1.out]; simp [pcL_len]; omega
  have HEND : Hid (∀ W4, W4.heap[g]? = some (.cells (splice (splice cur.toList 3 xs) 0 (pcL x)).toArray 35 (0, 0)) → Wrote [g] w W4 → InsLeft w base (.slice (some ⟨g, 0, none⟩) n cap) (x :: S) (.returned (.slice (some ⟨g, 0, none⟩) (n + 1) cap)) W4) := fun W4 hh hw => by
    refine ⟨_, rfl, ⟨?_, .inr ⟨g, cap, _, ?_, hbg, hh, ?_, hcm, ?_, ?_⟩⟩, ?_⟩
    · rw [flatP_len]
    · rw [List.length_cons, hn]
    · rw [List.length_cons, ← hn]; omega
    · rw [List.size_toArray, length_splice _ _ _ HF2.out, length_splice _ _ _ HF1.out]
      simp; omega
    · have := splice_two' cur.toList (pcL x) xs 3 rfl (by have := HF1.out; simpa [pcL_len] using this)
      have hl3 : xs.length = n * 3 := HXL.out
      rw [hl3] at this
      rw [List.flatMap_cons, ← hxs0, ← this]
      congr 1
      rw [List.length_cons, hn]; omega
    · exact hw
  have h43 := @run_callFunc_extern Tryd.prog 43 _ (Extern.SlicesOverlaps.overlaps #[22, 22] #[4]) Tryd.func43 (by kernel_rfl) (by kernel_rfl) (by kernel_rfl) (by kernel_rfl)
  have hov := Lib.run_overlaps_apart (P := Tryd.prog) w 22 4 35 Tryd.underlying22 3 (fun _ => by kernel_rfl) ⟨vb, 0, none⟩ ⟨g, 3, none⟩ 1 1 n (cap - 1) hne 35 35 3 (cap * 3) (by simp [World.shape?, hx]) (by simp [World.shape?, hrow, hcur]) (by omega) (by simp [World.frozen?, hx]) (by simp [World.frozen?, hx])
  have hci : ¬ (cap : Int) < (n : Int) + 1 := by omega
  have hci2 : (n : Int) + 1 ≤ (cap : Int) := by omega
  have hn0 : ¬ (0 : Int) = (n : Int) := by omega
  have hn64 : (n : Int) ≤ 64 := by omega
  have hc0 : (0 : Int) ≤ (cap : Int) := by omega
  have hc9 : (cap : Int) ≤ 9223372036854775807 := by unfold maxLen at hcm; omega
  have hc21 : ¬ cap = 1 := by omega
  have hc2p : (1 : Int) ≤ (n : Int) + 1 := by omega
  have hc2q : (0 : Int) ≤ (n : Int) + 1 := by omega
  have hw1 : IntKind.i64.wrap 1 = 1 := by decide
  have hsz : Hid ((Tryd.prog.info? 35).map (·.size) = some 3) := by show _ = _; kernel_rfl
  rw [← hn]
  clear hS hx hcells hxs hrow hcur htake hn hxs0 hl h0 hcap hcm hbg
  generalize cur.toList = cu at HROW HF1 HF2 HEND
  go_enter Tryd.func31, Tryd.ntmps31
  go_wp2_with fail
  go_region_law ((refine step_copyN (by rfl) (.tmp 73) (.tmp 76) 22 22 (by rfl) 35 3 Tryd.underlying22 hsz.out ⟨g, 0, none⟩ n (cap - 1) (n + 1) cap g 3 (by go_simp) (by go_simp) cu 35 HROW.out xs n (Nat.min_eq_right (by omega)) HXL.out HSRC.out HF1.out HS1.out ?_; intro w4 hg4 hw4))
  have HG4 := hg4
  have HW4 : Hid (Wrote [g] w w4) := (Wrote.refl [g] w).drew.trans hw4
  have HX4 := Lib.hid (HXO.out w4 HW4.out)
  clear hg4 hw4
  go_wp2_with (refine wpList_copyN rfl (.tmp 80) (.tmp 81) 22 22 rfl 35 3 Tryd.underlying22 hsz.out ⟨vb, 0, none⟩ (n + 1) cap 1 1 g 0 (by rfl) (by rfl) (splice cu 3 xs) 35 HG4.out (pcL x) 1 (by simp) rfl HX4.out HF2.out HP1.out ?_)
  intro w5 hg5 hw5
  have HE := Lib.hid (HEND.out w5 hg5.out (HW4.out.trans hw5))
  clear hg5 hw5
  go_wp2_with fail
  go_ret
  exact HE.out
theorem insert_31 (base : Nat) (v : Value) (S : List Pc) (x : Pc) (vb : Nat) (w : World) (hS : w.ownsRow base 35 3 v S.length (S.flatMap pcL)) (hbase : base ≤ w.heap.size)
    (hx : w.heap[vb]? = some (.cells #[.string x.fr, .int .i64 x.sh, .int .i64 x.ep] 35 (0, 0))) (hne : v.ownBlock ≠ some vb) (hl : S.length ≤ 64) :
    Calls Tryd.prog 31 #[v, .int .i64 0, .slice (some ⟨vb, 0, none⟩) 1 1] w (InsLeft w base v (x :: S)) := by
  obtain ⟨a, cap, rfl, hpos⟩ := row_form hS
  cases S with
  | nil => exact insert_nil base a cap x vb w hS hbase hx
  | cons y S =>
    obtain ⟨g, rfl, _, _⟩ := hpos (by simp)
    by_cases hc : cap < (y :: S).length + 1
    · exact insert_grow base g cap (y :: S) x vb w hS hbase hx hl (by simp) hc
    · exact insert_room base g cap (y :: S) x vb w hS hx (fun e => hne (by rw [e]; rfl)) hl (by simp) (by omega)
end Go.Proofs.YtemgcliihbjjiaaDoor
