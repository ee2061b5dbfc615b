/- The document's open numbers: Prove. -/
import Derived.Test.YtelmgaaofighpaaSd3
namespace Go.Proofs.Ytelmgaaofighpaa
open Go.RowKit Go.My Go.My.Slots

abbrev Tr := Int × Int × Int
def dnP (L : List Tr) (n : Int) (j : Nat) : Bool := (L.take j).any fun x => decide (n ≤ x.1)
def ltP (L : List Tr) (n : Int) (j : Nat) : List Tr := (L.take j).filter fun x => decide (x.1 < n)
def gtP (L : List Tr) (n : Int) (j : Nat) : List Tr := (L.take j).filter fun x => decide (n < x.1)
def outP (L : List Tr) (p : Tr) (j : Nat) : List Tr := if dnP L p.1 j = true then ltP L p.1 j ++ p :: gtP L p.1 j else L.take j
def insP (L : List Tr) (p : Tr) : List Tr := ltP L p.1 L.length ++ p :: gtP L p.1 L.length
section
variable {L : List Tr} {p x : Tr} {j : Nat}
theorem take_next (hx : L[j]? = some x) : L.take (j + 1) = L.take j ++ [x] := by
  rw [List.take_add_one, hx]
  rfl
theorem dn_next (hx : L[j]? = some x) (n : Int) : dnP L n (j + 1) = (dnP L n j || decide (n ≤ x.1)) := by
  unfold dnP
  rw [take_next hx, List.any_append]
  simp
theorem lt_next (hx : L[j]? = some x) (n : Int) : ltP L n (j + 1) = if x.1 < n then ltP L n j ++ [x] else ltP L n j := by
  unfold ltP
  rw [take_next hx, List.filter_append]
  by_cases h : x.1 < n <;> simp [h]
theorem gt_next (hx : L[j]? = some x) (n : Int) : gtP L n (j + 1) = if n < x.1 then gtP L n j ++ [x] else gtP L n j := by
  unfold gtP
  rw [take_next hx, List.filter_append]
  by_cases h : n < x.1 <;> simp [h]
theorem dn_all {n : Int} (h : dnP L n j = false) : ltP L n j = L.take j ∧ gtP L n j = [] := by
  unfold dnP at h
  rw [List.any_eq_false] at h
  unfold ltP gtP
  refine ⟨List.filter_eq_self.2 fun y hy => ?_, List.filter_eq_nil_iff.2 fun y hy => ?_⟩
  · have := h y hy
    simp only [decide_eq_true_eq] at this ⊢
    omega
  · have := h y hy
    simp only [decide_eq_true_eq] at this ⊢
    omega
theorem dn_gt {n : Int} (hu : L.Pairwise fun a b => a.1 < b.1) (hx : L[j]? = some x) (h : dnP L n j = true) : n < x.1 := by
  unfold dnP at h
  rw [List.any_eq_true] at h
  obtain ⟨y, hy, hn⟩ := h
  simp only [decide_eq_true_eq] at hn
  obtain ⟨i, hi⟩ := List.getElem?_of_mem hy
  have hij : i < j := by
    have := (List.getElem?_eq_some_iff.1 hi).1
    rw [List.length_take] at this
    omega
  rw [List.getElem?_take_of_lt hij] at hi
  obtain ⟨h1, e1⟩ := List.getElem?_eq_some_iff.1 hi
  obtain ⟨h2, e2⟩ := List.getElem?_eq_some_iff.1 hx
  have := List.pairwise_iff_getElem.1 hu i j h1 h2 hij
  rw [e1, e2] at this
  omega
theorem out_done (hx : L[j]? = some x) (hd : dnP L p.1 j = true) (hg : p.1 < x.1) : outP L p (j + 1) = outP L p j ++ [x] := by
  unfold outP
  rw [dn_next hx, hd, Bool.true_or, if_pos rfl, if_pos rfl, lt_next hx, gt_next hx, if_neg (by omega), if_pos hg, List.append_assoc]
  rfl
theorem out_less (hx : L[j]? = some x) (hd : dnP L p.1 j = false) (hg : x.1 < p.1) : outP L p (j + 1) = outP L p j ++ [x] := by
  unfold outP
  rw [dn_next hx, hd, decide_eq_false (by omega : ¬ p.1 ≤ x.1)]
  simp only [Bool.or_false, Bool.false_eq_true, if_false]
  exact take_next hx
theorem out_more (hx : L[j]? = some x) (hd : dnP L p.1 j = false) (hg : p.1 < x.1) : outP L p (j + 1) = (outP L p j ++ [p]) ++ [x] := by
  obtain ⟨h1, h2⟩ := dn_all hd
  unfold outP
  rw [dn_next hx, hd, decide_eq_true (by omega : p.1 ≤ x.1), lt_next hx, gt_next hx, if_neg (by omega : ¬ x.1 < p.1), if_pos hg, h1, h2]
  simp
theorem out_same (hx : L[j]? = some x) (hd : dnP L p.1 j = false) (hg : x.1 = p.1) : outP L p (j + 1) = outP L p j ++ [p] := by
  obtain ⟨h1, h2⟩ := dn_all hd
  unfold outP
  rw [dn_next hx, hd, decide_eq_true (by omega : p.1 ≤ x.1), lt_next hx, gt_next hx, if_neg (by omega : ¬ x.1 < p.1), if_neg (by omega : ¬ p.1 < x.1), h1, h2]
  simp
theorem out_len (L : List Tr) (p : Tr) (j : Nat) : (outP L p j).length ≤ 2 * j + 1 := by
  have h1 : (ltP L p.1 j).length ≤ (L.take j).length := List.length_filter_le _ _
  have h2 : (gtP L p.1 j).length ≤ (L.take j).length := List.length_filter_le _ _
  rw [List.length_take] at h1 h2
  unfold outP
  split
  · rw [List.length_append, List.length_cons]
    omega
  · rw [List.length_take]
    omega
theorem out_end_yes (hd : dnP L p.1 L.length = true) : outP L p L.length = insP L p := by
  unfold outP insP
  rw [if_pos hd]
theorem out_end_no (hd : dnP L p.1 L.length = false) : outP L p L.length ++ [p] = insP L p := by
  obtain ⟨h1, h2⟩ := dn_all hd
  unfold outP insP
  rw [h1, h2, hd]
  simp
end
theorem ins_up {L : List Tr} (hu : L.Pairwise fun a b => a.1 < b.1) (p : Tr) : (insP L p).Pairwise fun a b => a.1 < b.1 := by
  unfold insP
  refine List.pairwise_append.2 ⟨(hu.sublist (List.take_sublist _ _)).sublist List.filter_sublist, List.pairwise_cons.2 ⟨fun y hy => ?_, (hu.sublist (List.take_sublist _ _)).sublist List.filter_sublist⟩, fun a ha b hb => ?_⟩
  · have := (List.mem_filter.1 hy).2
    simpa using this
  · have h1 : a.1 < p.1 := by simpa using (List.mem_filter.1 ha).2
    rcases List.mem_cons.1 hb with rfl | hb
    · exact h1
    · have h2 : p.1 < b.1 := by simpa using (List.mem_filter.1 hb).2
      omega
theorem ins_mem {L : List Tr} {p x : Tr} : x ∈ insP L p ↔ x = p ∨ (x ∈ L ∧ x.1 ≠ p.1) := by
  unfold insP ltP gtP
  rw [List.take_length, List.mem_append, List.mem_cons, List.mem_filter, List.mem_filter]
  simp only [decide_eq_true_eq]
  constructor
  · rintro (⟨h1, h2⟩ | rfl | ⟨h1, h2⟩)
    · exact .inr ⟨h1, by omega⟩
    · exact .inl rfl
    · exact .inr ⟨h1, by omega⟩
  · rintro (rfl | ⟨h1, h2⟩)
    · exact .inr (.inl rfl)
    · by_cases h : x.1 < p.1
      · exact .inl ⟨h1, h⟩
      · exact .inr (.inr ⟨h1, by omega⟩)
theorem proofs_put {s : St} (h : Inv s) (n v dg : Int) : proofsL { s with proofs := aput s.proofs n (n, v, dg) } = insP (proofsL s) (n, v, dg) := by
  have hp : ∀ p ∈ s.proofs, p.2.1 = p.1 := fun p hp => (h.proofs p hp).2.1
  obtain ⟨u1, m1⟩ := proofsL_up h.nproofs hp
  obtain ⟨u2, m2⟩ := proofsL_up (s := { s with proofs := aput s.proofs n (n, v, dg) }) (nodup_aput n _ h.nproofs) (fun p hp' => by
    rcases mem_aput hp' with rfl | hp'
    · rfl
    · exact hp p hp')
  refine sorted_ext u2 (ins_up u1 _) fun x => ?_
  rw [m2 x, ins_mem, m1 x]
  show aget (aput s.proofs n (n, v, dg)) x.1 = some x ↔ _
  rw [aget_aput]
  by_cases hx : n = x.1
  · rw [if_pos hx]
    constructor
    · intro e
      exact .inl (Option.some.inj e).symm
    · rintro (rfl | ⟨_, h2⟩)
      · rfl
      · exact absurd hx.symm h2
  · rw [if_neg hx]
    constructor
    · intro e
      exact .inr ⟨e, fun e2 => hx e2.symm⟩
    · rintro (rfl | ⟨h1, _⟩)
      · exact absurd rfl hx
      · exact h1
theorem proveB_conf {s : St} (h : Inv s) {n v : Int} {x : Tr} (hx : x ∈ proofsL s) (h1 : x.1 = n) (h2 : v ≤ x.2.1) : proveB s n v = false := by
  have hp : ∀ p ∈ s.proofs, p.2.1 = p.1 := fun p hp => (h.proofs p hp).2.1
  have := ((proofsL_up h.nproofs hp).2 x).1 hx
  rw [h1] at this
  unfold proveB
  rw [this]
  simp only
  rw [decide_eq_false (by omega : ¬ x.2.1 < v), Bool.and_false]
theorem proveB_yes {s : St} (h : Inv s) {n v : Int} (ho : openB s n = true) (hv : ¬ v < 0) (hc : ∀ x ∈ proofsL s, ¬ (x.1 = n ∧ v ≤ x.2.1)) : proveB s n v = true := by
  have hp : ∀ p ∈ s.proofs, p.2.1 = p.1 := fun p hp => (h.proofs p hp).2.1
  unfold proveB
  rw [ho, decide_eq_true (by omega : 0 ≤ v)]
  cases hg : aget s.proofs n with
  | none => rfl
  | some x =>
    have h1 := hp _ (aget_some_mem hg)
    simp only at h1
    have h2 := ((proofsL_up h.nproofs hp).2 x).2 (by rw [h1]; exact hg)
    have h3 := hc x h2
    show decide (x.2.1 < v) = true
    exact decide_eq_true (by omega)
theorem proveB_off {s : St} {n v : Int} (h : openB s n = false ∨ v < 0) : proveB s n v = false := by
  unfold proveB
  rcases h with h | h
  · rw [h]; rfl
  · rw [decide_eq_false (by omega : ¬ 0 ≤ v), Bool.and_false, Bool.false_and]
structure PrRel (W : World) (L : List Tr) (p : Tr) (j : Nat) (b : Bool) (o : Value) (wr : World) : Prop where
  row : MkRel prepL 44 6 W (outP L p j) o wr
  dn : b = dnP L p.1 j
  ok : ∀ x ∈ L.take j, ¬ (x.1 = p.1 ∧ p.2.1 ≤ x.2.1)
set_option maxRecDepth 100000 in
set_option maxHeartbeats 6400000 in
theorem dprove_any (base d : Nat) (v : Dv) (s : St) (n vw dg : Int) (w : World) (h : DocAt w base d v s) (hi : Inv s) (hl : (proofsL s).length ≤ 10000) :
    Calls Try.prog 38 #[.pointer (some ⟨d, 0, none⟩), prep (n, vw, dg)] w (DocL w base d (proveB s n vw) (prove s n vw dg)) := by
  obtain ⟨i0, hi0, hz0, hz1, hz2⟩ := info_parts prep_info
  have HI := Lib.hid hi0
  have HZ := Lib.hid hz0
  have HS := Lib.hid hz1
  have HY := Lib.hid hz2
  obtain ⟨W0, hW0⟩ : ∃ W, W = w.alloc (.cells #[.int .i64 n, .int .i64 vw, .int .i64 dg, .int .i64 0, .int .i64 0, .slice none 0 0] 44) := ⟨_, rfl⟩
  obtain ⟨q, hq⟩ : ∃ q, q = w.heap.size := ⟨_, rfl⟩
  have hb0 : Below w.heap.size w W0 := by rw [hW0]; exact (Below.refl _ w).alloc (Nat.le_refl _) _
  have hbx : W0.heap[q]? = some (.cells #[.int .i64 n, .int .i64 vw, .int .i64 dg, .int .i64 0, .int .i64 0, .slice none 0 0] 44 (0, 0)) := by rw [hW0, hq]; exact heap_alloc_new w _
  have HW0 : Hid (w.alloc (.cells #[.int .i64 n, .int .i64 vw, .int .i64 dg, .int .i64 0, .int .i64 0, .slice none 0 0] 44) = W0 ∧ w.heap.size = q) := ⟨hW0.symm, hq.symm⟩
  have hd0 := h.below hb0
  have HQC : Hid (∀ X, Below W0.heap.size W0 X → X.cell? ⟨q, 0, none⟩ = some (.int .i64 n) ∧ X.cell? ⟨q, 1, none⟩ = some (.int .i64 vw) ∧ X.cell? ⟨q, 2, none⟩ = some (.int .i64 dg) ∧ X.cell? ⟨q, 3, none⟩ = some (.int .i64 0) ∧ X.cell? ⟨q, 4, none⟩ = some (.int .i64 0) ∧ X.cell? ⟨q, 5, none⟩ = some (.slice none 0 0) ∧ q < X.heap.size) := fun X hX => by
    have h := (hX.block _ (lt_of_heap hbx)).trans hbx
    exact ⟨by rw [cell_of_row _ _ _ _ _ _ h]; rfl, by rw [cell_of_row _ _ _ _ _ _ h]; rfl, by rw [cell_of_row _ _ _ _ _ _ h]; rfl, by rw [cell_of_row _ _ _ _ _ _ h]; rfl, by rw [cell_of_row _ _ _ _ _ _ h]; rfl, by rw [cell_of_row _ _ _ _ _ _ h]; rfl, lt_of_heap h⟩
  obtain ⟨a, cap, hv, hlies⟩ := hd0.lP
  have HO := Lib.hid (dopen_any base d v s n W0 hd0 hi)
  have H := Lib.hid hd0
  have HINV := Lib.hid hi
  have HLI := Lib.hid hlies
  have HUP := Lib.hid (proofsL_up hi.nproofs (fun p hp => (hi.proofs p hp).2.1)).1
  have HPUT := Lib.hid (proofs_put hi n vw dg)
  have HCF : Hid (∀ x ∈ proofsL s, x.1 = n → vw ≤ x.2.1 → proveB s n vw = false) := fun x hx h1 h2 => proveB_conf hi hx h1 h2
  have HYES : Hid (openB s n = true → ¬ vw < 0 → (∀ x ∈ proofsL s, ¬ (x.1 = n ∧ vw ≤ x.2.1)) → proveB s n vw = true) := proveB_yes hi
  obtain ⟨L, hL⟩ : ∃ L, L = proofsL s := ⟨_, rfl⟩
  rw [← hL] at HLI HUP HPUT HCF HYES hl hv
  obtain ⟨m, hm⟩ : ∃ m, m = L.length := ⟨_, rfl⟩
  rw [← hm] at hv
  have hm9 : (m : Int) ≤ 10000 := by omega
  have HM := Lib.hid hm
  obtain ⟨b0, hb0'⟩ : ∃ b, b = proveB s n vw := ⟨_, rfl⟩
  obtain ⟨s', hs'⟩ : ∃ z, z = prove s n vw dg := ⟨_, rfl⟩
  have HBS : Hid (b0 = proveB s n vw ∧ s' = prove s n vw dg) := ⟨hb0', hs'⟩
  obtain ⟨op, hop⟩ : ∃ b, b = openB s n := ⟨_, rfl⟩
  rw [← hop] at HO
  have HOP := Lib.hid hop
  have HC : Hid (∀ X, Below W0.heap.size W0 X → X.cell? ⟨d, 4, none⟩ = some (.slice a m cap) ∧ d < X.heap.size ∧ X.frozen? ⟨d, 4, none⟩ = false) := fun X hX => by
    have h := hd0.below hX
    have c := h.cells.2.2.2.2.1
    rw [hv] at c
    exact ⟨c, h.lt, h.fz 4⟩
  have HBW : Hid (base ≤ w.heap.size ∧ Below w.heap.size w W0) := ⟨Nat.le_trans h.lo (Nat.le_of_lt h.lt), hb0⟩
  have HNO : Hid (proveB s n vw = false → ∀ X, Below W0.heap.size W0 X → DocL w base d b0 s' (.returned (.bool false)) X) := fun hf X hX => by
    have e2 : s' = s := by
      rw [HBS.out.2]
      unfold prove
      rw [hf]
      rfl
    rw [HBS.out.1, hf, e2]
    exact ⟨rfl, ⟨v, H.out.below hX⟩, Bk.of_below (HBW.out.2.trans (hX.mono HBW.out.2.size)) HBW.out.1⟩
  unfold prep
  rw [← hb0', ← hs']
  clear h hi hl hv hlies hm hb0 hb0' hs' hop hi0 hz0 hz1 hz2 hW0 hq hbx hd0 hL
  go_enter Try.func38, Try.ntmps38
  go_upto_region 1 with fail
  rw [HW0.out.1, HW0.out.2]
  obtain ⟨q0, q1, q2, q3, q4, q5, lq⟩ := HQC.out _ (Below.refl _ _)
  go_wp2_with fail
  refine HO.out.mono ?_
  rintro e w1 ⟨rfl, rfl⟩
  clear HO
  cases op with
  | false =>
    have HR := Lib.hid (HNO.out (proveB_off (.inl HOP.out.symm)) _ (Below.refl _ _))
    clear HNO
    go_wp2_with fail
    go_ret
    exact HR.out
  | true =>
    by_cases hv0 : vw < 0
    · have HR := Lib.hid (HNO.out (proveB_off (.inr hv0)) _ (Below.refl _ _))
      clear HNO
      go_wp2_with fail
      go_ret
      exact HR.out
    · have P0 : Hid (PrRel w1 L (n, vw, dg) 0 false (.slice none 0 0) w1) := ⟨⟨World.ownsRow_nil _ _ _ _, Below.refl _ _⟩, rfl, by simp⟩
      obtain ⟨c4, ld, f4⟩ := HC.out _ (Below.refl _ _)
      go_wp2_with fail
      clear c4 ld f4 q0 q1 q2 q3 q4 q5 lq
      go_loopw [6, 7, 8] (fun o dv i wr => ∃ (j : Nat) (b : Bool), j ≤ m ∧ dv = .bool b ∧ i = .int .i64 j ∧ Hid (PrRel w1 L (n, vw, dg) j b o wr)) (fun _ _ i _ => m - (intOf i).toNat)
      case atStart => exact ⟨0, false, by omega, rfl, rfl, P0⟩
      case round =>
        clear P0
        obtain ⟨j, b, hj, rfl, rfl, HJ⟩ := hrel
        obtain ⟨c4, ld, f4⟩ := HC.out _ HJ.out.row.below
        by_cases hlt : j < m
        · obtain ⟨⟨xn, xv, xd⟩, hx⟩ : ∃ x, L[j]? = some x := ⟨_, List.getElem?_eq_getElem (by rw [← HM.out]; exact hlt)⟩
          obtain ⟨g, o, rfl, lg, hc⟩ := (HLI.out.below HJ.out.row.below) j _ hx
          have d0 : wr.cell? ⟨g, o + j * 6, none⟩ = some (.int .i64 xn) := hc 0 _ rfl
          have d1 : wr.cell? ⟨g, o + j * 6 + 1, none⟩ = some (.int .i64 xv) := hc 1 _ rfl
          have d2 : wr.cell? ⟨g, o + j * 6 + 2, none⟩ = some (.int .i64 xd) := hc 2 _ rfl
          have d3 : wr.cell? ⟨g, o + j * 6 + 3, none⟩ = some (.int .i64 0) := hc 3 _ rfl
          have d4 : wr.cell? ⟨g, o + j * 6 + 4, none⟩ = some (.int .i64 0) := hc 4 _ rfl
          have d5 : wr.cell? ⟨g, o + j * 6 + 5, none⟩ = some (.slice none 0 0) := hc 5 _ rfl
          have HX := Lib.hid hx
          have HMEM := Lib.hid (List.mem_of_getElem? hx)
          have HLE : Hid ((outP L (n, vw, dg) j).length ≤ 2 * j + 1) := out_len _ _ _
          have hj0 : (0 : Int) ≤ (j : Int) := by omega
          have hj1 : (j : Int) < (m : Int) := by omega
          have hjs : j + 1 ≤ m := hlt
          obtain ⟨W1, hW1⟩ : ∃ W, W = wr.alloc (.cells #[.int .i64 xn, .int .i64 xv, .int .i64 xd, .int .i64 0, .int .i64 0, .slice none 0 0] 44) := ⟨_, rfl⟩
          obtain ⟨b1, hb1⟩ : ∃ b, b = wr.heap.size := ⟨_, rfl⟩
          have hbb : Below wr.heap.size wr W1 := by rw [hW1]; exact (Below.refl _ wr).alloc (Nat.le_refl _) _
          have hbx : W1.heap[b1]? = some (.cells #[.int .i64 xn, .int .i64 xv, .int .i64 xd, .int .i64 0, .int .i64 0, .slice none 0 0] 44 (0, 0)) := by rw [hW1, hb1]; exact heap_alloc_new wr _
          have HW1 : Hid (wr.alloc (.cells #[.int .i64 xn, .int .i64 xv, .int .i64 xd, .int .i64 0, .int .i64 0, .slice none 0 0] 44) = W1 ∧ wr.heap.size = b1) := ⟨hW1.symm, hb1.symm⟩
          have HR1 : Hid (MkRel prepL 44 6 w1 (outP L (n, vw, dg) j) u6 W1) := ⟨row_below HJ.out.row.row hbb, HJ.out.row.below.trans (hbb.mono HJ.out.row.below.size)⟩
          have HBOX : Hid (∀ X g', (∀ k, u6.ownBlock = some k → k ≠ b1) → (W1.alloc g').grownBy X u6.ownBlock → X.heap[b1]? = W1.heap[b1]?) := fun X g' hk hg => by
            have hw : Wrote u6.ownBlock.toList W1 X := ((Wrote.refl _ W1).alloc g').trans (Wrote.of_grown hg)
            exact hw.block b1 (lt_of_heap hbx) (fun hm' => hk b1 (by simpa using hm') rfl)
          have HKN : Hid (∀ k, u6.ownBlock = some k → k ≠ b1) := fun k hk e => by
            obtain ⟨_, cur, h⟩ := row_block HJ.out.row.row hk
            have := lt_of_heap h
            omega
          have HBX := Lib.hid hbx
          have e0 : W1.cell? ⟨b1, 0, none⟩ = some (.int .i64 xn) := by rw [cell_of_row _ _ _ _ _ _ hbx]; rfl
          have e1 : W1.cell? ⟨b1, 1, none⟩ = some (.int .i64 xv) := by rw [cell_of_row _ _ _ _ _ _ hbx]; rfl
          have e2 : W1.cell? ⟨b1, 2, none⟩ = some (.int .i64 xd) := by rw [cell_of_row _ _ _ _ _ _ hbx]; rfl
          have e3 : W1.cell? ⟨b1, 3, none⟩ = some (.int .i64 0) := by rw [cell_of_row _ _ _ _ _ _ hbx]; rfl
          have e4 : W1.cell? ⟨b1, 4, none⟩ = some (.int .i64 0) := by rw [cell_of_row _ _ _ _ _ _ hbx]; rfl
          have e5 : W1.cell? ⟨b1, 5, none⟩ = some (.slice none 0 0) := by rw [cell_of_row _ _ _ _ _ _ hbx]; rfl
          have le1 := lt_of_heap hbx
          obtain ⟨q0, q1, q2, q3, q4, q5, lq⟩ := HQC.out _ HR1.out.below
          have HOK : Hid (¬ (xn = n ∧ vw ≤ xv) → ∀ x ∈ L.take (j + 1), ¬ (x.1 = n ∧ vw ≤ x.2.1)) := fun hne x hx' => by
            rw [take_next HX.out] at hx'
            rcases List.mem_append.1 hx' with hx' | hx'
            · exact HJ.out.ok x hx'
            · rw [List.mem_singleton.1 hx']
              exact hne
          have HDN := Lib.hid HJ.out.dn
          clear hc lg hx hW1 hb1 hbb hbx
          go_upto_region 10 with fail
          rw [HW1.out.1, HW1.out.2]
          clear d0 d1 d2 d3 d4 d5 c4 ld f4
          cases b with
          | true =>
            have hgt : n < xn := dn_gt HUP.out HX.out HDN.out.symm
            have t1 : (xn == n) = false := by simp; omega
            have t2 : (xn != n) = true := by simp; omega
            have HGT := Lib.hid hgt
            clear hgt HNO HCF
            go_upto_region 16 with fail
            go_wp2_with (at_builtin; refine wpList_append_own _ rfl _ _ 38 rfl w1.heap.size 44 i0 _ 6 64 Try.underlying38 HI.out HZ.out HS.out HY.out rfl (by decide) _ _ _ rfl (HR1.out.row.alloc _) ⟨W1.heap.size, 0, none⟩ 1 1 (prepL (xn, xv, xd)) rfl rfl (prep_cells W1 (xn, xv, xd) 44) (prep_one (xn, xv, xd)) (by have := HLE.out; unfold maxLen; omega) (by have := HLE.out; omega) (by have := HR1.out.below.size; simp; omega) ?_)
            intro v1 w3 hown hg _
            have HNX : Hid (PrRel w1 L (n, vw, dg) (j + 1) true v1 w3) := by
              refine ⟨?_, ?_, HOK.out (fun e => by have := HGT.out; omega)⟩
              · have h := HR1.out.next _ hown hg
                rw [← out_done (p := (n, vw, dg)) HX.out HDN.out.symm HGT.out] at h
                exact h
              · rw [dn_next HX.out, ← HDN.out]
                rfl
            clear hown hg e0 e1 e2 e3 e4 e5 le1 q0 q1 q2 q3 q4 q5 lq
            go_wp2_with fail
            exact ⟨⟨j + 1, true, hjs, rfl, by simp, HNX⟩, by simp [intOf]; omega⟩
          | false =>
            rcases Int.lt_trichotomy xn n with hc | hc | hc
            · have t1 : (xn == n) = false := by simp; omega
              have t2 : (xn != n) = true := by simp; omega
              have t3 : decide (n ≤ xn) = false := decide_eq_false (by omega)
              have HGT := Lib.hid hc
              clear hc HNO HCF
              go_upto_region 16 with fail
              go_wp2_with (at_builtin; refine wpList_append_own _ rfl _ _ 38 rfl w1.heap.size 44 i0 _ 6 64 Try.underlying38 HI.out HZ.out HS.out HY.out rfl (by decide) _ _ _ rfl (HR1.out.row.alloc _) ⟨W1.heap.size, 0, none⟩ 1 1 (prepL (xn, xv, xd)) rfl rfl (prep_cells W1 (xn, xv, xd) 44) (prep_one (xn, xv, xd)) (by have := HLE.out; unfold maxLen; omega) (by have := HLE.out; omega) (by have := HR1.out.below.size; simp; omega) ?_)
              intro v1 w3 hown hg _
              have HNX : Hid (PrRel w1 L (n, vw, dg) (j + 1) false v1 w3) := by
                refine ⟨?_, ?_, HOK.out (fun e => by have := HGT.out; omega)⟩
                · have h := HR1.out.next _ hown hg
                  rw [← out_less (p := (n, vw, dg)) HX.out HDN.out.symm HGT.out] at h
                  exact h
                · rw [dn_next HX.out, ← HDN.out]
                  exact (decide_eq_false (by have := HGT.out; show ¬ n ≤ xn; omega)).symm
              clear hown hg e0 e1 e2 e3 e4 e5 le1 q0 q1 q2 q3 q4 q5 lq
              go_wp2_with fail
              exact ⟨⟨j + 1, false, hjs, rfl, by simp, HNX⟩, by simp [intOf]; omega⟩
            · by_cases hcv : vw ≤ xv
              · have HR := Lib.hid (HNO.out (HCF.out _ HMEM.out hc hcv) _ HR1.out.below)
                have t1 : (xn == n) = true := by simpa using hc
                have t4 : decide (vw ≤ xv) = true := decide_eq_true hcv
                clear hc hcv HNO HCF
                go_wp2_with fail
                go_ret
                exact HR.out
              · have t1 : (xn == n) = true := by simpa using hc
                have t2 : (xn != n) = false := by simpa using hc
                have t3 : decide (n ≤ xn) = true := decide_eq_true (by omega)
                have t4 : decide (vw ≤ xv) = false := decide_eq_false hcv
                have HGT := Lib.hid hc
                have HGV := Lib.hid hcv
                clear hc hcv HNO HCF
                go_upto_region 13 with fail
                go_wp2_with (at_builtin; refine wpList_append_own _ rfl _ _ 38 rfl w1.heap.size 44 i0 _ 6 64 Try.underlying38 HI.out HZ.out HS.out HY.out rfl (by decide) _ _ _ rfl (HR1.out.row.alloc _) ⟨W1.heap.size, 0, none⟩ 1 1 (prepL (n, vw, dg)) rfl rfl (prep_cells W1 (n, vw, dg) 44) (prep_one (n, vw, dg)) (by have := HLE.out; unfold maxLen; omega) (by have := HLE.out; omega) (by have := HR1.out.below.size; simp; omega) ?_)
                intro v1 w3 hown hg _
                have HNX : Hid (PrRel w1 L (n, vw, dg) (j + 1) true v1 w3) := by
                  refine ⟨?_, ?_, HOK.out (fun e => by have := HGV.out; omega)⟩
                  · have h := HR1.out.next _ hown hg
                    rw [← out_same (p := (n, vw, dg)) HX.out HDN.out.symm HGT.out] at h
                    exact h
                  · rw [dn_next HX.out, decide_eq_true (by have := HGT.out; show n ≤ xn; omega), Bool.or_true]
                have hbox := (HBOX.out _ _ HKN.out hg).trans HBX.out
                have hlow : Below w1.heap.size w1 w3 := HNX.out.row.below
                clear hown hg e0 e1 e2 e3 e4 e5 le1 q0 q1 q2 q3 q4 q5 lq
                have e0 : w3.cell? ⟨b1, 0, none⟩ = some (.int .i64 xn) := by rw [cell_of_row _ _ _ _ _ _ hbox]; rfl
                have le1 := lt_of_heap hbox
                obtain ⟨q0, q1, q2, q3, q4, q5, lq⟩ := HQC.out _ hlow
                clear hbox hlow
                go_wp2_with fail
                exact ⟨⟨j + 1, true, hjs, rfl, by simp, HNX⟩, by simp [intOf]; omega⟩
            · have t1 : (xn == n) = false := by simp; omega
              have t2 : (xn != n) = true := by simp; omega
              have t3 : decide (n ≤ xn) = true := decide_eq_true (by omega)
              have HGT := Lib.hid hc
              clear hc HNO HCF
              go_upto_region 13 with fail
              go_wp2_with (at_builtin; refine wpList_append_own _ rfl _ _ 38 rfl w1.heap.size 44 i0 _ 6 64 Try.underlying38 HI.out HZ.out HS.out HY.out rfl (by decide) _ _ _ rfl (HR1.out.row.alloc _) ⟨W1.heap.size, 0, none⟩ 1 1 (prepL (n, vw, dg)) rfl rfl (prep_cells W1 (n, vw, dg) 44) (prep_one (n, vw, dg)) (by have := HLE.out; unfold maxLen; omega) (by have := HLE.out; omega) (by have := HR1.out.below.size; simp; omega) ?_)
              intro v1 w3 hown hg _
              have HR2 := Lib.hid (HR1.out.next _ hown hg)
              have hbox := (HBOX.out _ _ HKN.out hg).trans HBX.out
              have hlow : Below w1.heap.size w1 w3 := HR2.out.below
              obtain ⟨xa, xc, rfl, _⟩ := row_form hown
              have HLE2 : Hid ((outP L (n, vw, dg) j ++ [(n, vw, dg)]).length ≤ 2 * j + 2) := by have := HLE.out; show _ ≤ _; rw [List.length_append, List.length_singleton]; omega
              clear hown hg e0 e1 e2 e3 e4 e5 le1 q0 q1 q2 q3 q4 q5 lq
              have e0 : w3.cell? ⟨b1, 0, none⟩ = some (.int .i64 xn) := by rw [cell_of_row _ _ _ _ _ _ hbox]; rfl
              have e1 : w3.cell? ⟨b1, 1, none⟩ = some (.int .i64 xv) := by rw [cell_of_row _ _ _ _ _ _ hbox]; rfl
              have e2 : w3.cell? ⟨b1, 2, none⟩ = some (.int .i64 xd) := by rw [cell_of_row _ _ _ _ _ _ hbox]; rfl
              have e3 : w3.cell? ⟨b1, 3, none⟩ = some (.int .i64 0) := by rw [cell_of_row _ _ _ _ _ _ hbox]; rfl
              have e4 : w3.cell? ⟨b1, 4, none⟩ = some (.int .i64 0) := by rw [cell_of_row _ _ _ _ _ _ hbox]; rfl
              have e5 : w3.cell? ⟨b1, 5, none⟩ = some (.slice none 0 0) := by rw [cell_of_row _ _ _ _ _ _ hbox]; rfl
              have le1 := lt_of_heap hbox
              obtain ⟨q0, q1, q2, q3, q4, q5, lq⟩ := HQC.out _ hlow
              clear hbox hlow
              go_upto_region 16 with fail
              go_wp2_with (at_builtin; refine wpList_append_own _ rfl _ _ 38 rfl w1.heap.size 44 i0 _ 6 64 Try.underlying38 HI.out HZ.out HS.out HY.out rfl (by decide) _ _ _ rfl (HR2.out.row.alloc _) ⟨w3.heap.size, 0, none⟩ 1 1 (prepL (xn, xv, xd)) rfl rfl (prep_cells w3 (xn, xv, xd) 44) (prep_one (xn, xv, xd)) (by have := HLE2.out; unfold maxLen; omega) (by have := HLE2.out; omega) (by have := HR2.out.below.size; simp; omega) ?_)
              intro v5 w5 hown hg _
              have HNX : Hid (PrRel w1 L (n, vw, dg) (j + 1) true v5 w5) := by
                refine ⟨?_, ?_, HOK.out (fun e => by have := HGT.out; omega)⟩
                · have h := HR2.out.next (x := (xn, xv, xd)) _ (by simpa using hown) hg
                  rw [← out_more (p := (n, vw, dg)) HX.out HDN.out.symm HGT.out] at h
                  exact h
                · rw [dn_next HX.out, decide_eq_true (by have := HGT.out; show n ≤ xn; omega), Bool.or_true]
              clear hown hg e0 e1 e2 e3 e4 e5 le1 q0 q1 q2 q3 q4 q5 lq
              go_wp2_with fail
              exact ⟨⟨j + 1, true, hjs, rfl, by simp, HNX⟩, by simp [intOf]; omega⟩
        · obtain rfl : m = j := by omega
          have HT : Hid (proveB s n vw = true) := HYES.out HOP.out.symm hv0 (fun x hx => HJ.out.ok x (by rw [List.take_of_length_le (by rw [HM.out]; exact Nat.le_refl _)]; exact hx))
          have HES : Hid (b0 = true ∧ s' = { s with proofs := aput s.proofs n (n, vw, dg) }) := ⟨HBS.out.1.trans HT.out, by rw [HBS.out.2]; unfold prove; rw [HT.out]; rfl⟩
          have HLO : Hid ((outP L (n, vw, dg) m).length ≤ 30000) := by have := out_len L (n, vw, dg) m; show _ ≤ _; omega
          clear HNO HCF HYES HT hlt
          cases b with
          | true =>
            have HE : Hid (MkRel prepL 44 6 w1 (insP L (n, vw, dg)) u6 wr) := by
              have h := HJ.out.row
              rw [HM.out, out_end_yes (by rw [← HM.out]; exact HJ.out.dn.symm)] at h
              exact h
            obtain ⟨xa, xc, rfl, _⟩ := row_form HE.out.row
            have hst := DocAt.storeP (q := aput s.proofs n (n, vw, dg)) HPUT.out H.out HE.out.below HE.out.row
            have HDL : Hid (DocL w base d b0 s' (.returned (.bool true)) (wr.setCell ⟨d, 4, none⟩ (.slice xa (insP L (n, vw, dg)).length xc))) := by
              refine ⟨by rw [HES.out.1], ⟨_, by rw [HES.out.2]; exact hst.1⟩, (Bk.of_below HBW.out.2 HBW.out.1).trans hst.2⟩
            clear hst
            go_wp2_with fail
            go_ret
            exact HDL.out
          | false =>
            obtain ⟨q0, q1, q2, q3, q4, q5, lq⟩ := HQC.out _ HJ.out.row.below
            go_upto_region 18 with fail
            clear c4 ld f4
            go_wp2_with (at_builtin; refine wpList_append_own _ rfl _ _ 38 rfl w1.heap.size 44 i0 _ 6 64 Try.underlying38 HI.out HZ.out HS.out HY.out rfl (by decide) _ _ _ rfl (HJ.out.row.row.alloc _) ⟨wr.heap.size, 0, none⟩ 1 1 (prepL (n, vw, dg)) rfl rfl (prep_cells wr (n, vw, dg) 44) (prep_one (n, vw, dg)) (by have := HLO.out; unfold maxLen; omega) (by have := HLO.out; omega) (by have := HJ.out.row.below.size; simp; omega) ?_)
            intro v1 w3 hown hg _
            have HE : Hid (MkRel prepL 44 6 w1 (insP L (n, vw, dg)) v1 w3) := by
              have h := HJ.out.row.next _ hown hg
              rw [HM.out, out_end_no (by rw [← HM.out]; exact HJ.out.dn.symm)] at h
              exact h
            clear hown hg q0 q1 q2 q3 q4 q5 lq
            obtain ⟨c4, ld, f4⟩ := HC.out _ HE.out.below
            obtain ⟨xa, xc, rfl, _⟩ := row_form HE.out.row
            have hst := DocAt.storeP (q := aput s.proofs n (n, vw, dg)) HPUT.out H.out HE.out.below HE.out.row
            have HDL : Hid (DocL w base d b0 s' (.returned (.bool true)) (w3.setCell ⟨d, 4, none⟩ (.slice xa (insP L (n, vw, dg)).length xc))) := by
              refine ⟨by rw [HES.out.1], ⟨_, by rw [HES.out.2]; exact hst.1⟩, (Bk.of_below HBW.out.2 HBW.out.1).trans hst.2⟩
            clear hst
            go_wp2_with fail
            go_ret
            exact HDL.out
end Go.Proofs.Ytelmgaaofighpaa
