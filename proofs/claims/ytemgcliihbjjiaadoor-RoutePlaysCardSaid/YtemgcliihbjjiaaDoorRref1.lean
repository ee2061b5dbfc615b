/- The document's route: where a key's piece is, owners, a range in one piece. -/
import Derived.Test.YtemgcliihbjjiaaDoorRone0
namespace Go.Proofs.YtemgcliihbjjiaaDoor
open Go.RowKit Go.My

structure DtAt (w : World) (r : Nat) (a : Option Addr) (cap : Nat) (l : List Pc) : Prop where
  cell : w.heap[r]? = some (.cells #[.slice a l.length cap] 54 (0, 0))
  src : SrcAny w a cap l
  ok : Ok l
theorem DtAt.below {w w' : World} {r : Nat} {a : Option Addr} {cap : Nat} {l : List Pc} (h : DtAt w r a cap l) (hb : Below w.heap.size w w') : DtAt w' r a cap l :=
  ⟨(hb.block _ (lt_of_heap h.cell)).trans h.cell, h.src.below hb, h.ok⟩
theorem DtAt.c0 {w : World} {r : Nat} {a : Option Addr} {cap : Nat} {l : List Pc} (h : DtAt w r a cap l) : w.cell? ⟨r, 0, none⟩ = some (.slice a l.length cap) := by
  rw [cell_of_row _ _ _ _ _ _ h.cell]; rfl
/-- the last of the first j pieces that begins at a key or below -/
def upto (l : List Pc) (k : ByteArray) (j : Nat) : Nat := min j (nx l k) - 1
theorem at_step {l : List Pc} {k : ByteArray} (hu : Up l) {j : Nat} {x : Pc} (hx : l[j]? = some x) : (lessK k x.fr = false → upto l k (j + 1) = j) ∧ (lessK k x.fr = true → upto l k (j + 1) = upto l k j) := by
  obtain ⟨hj, he⟩ := List.getElem?_eq_some_iff.1 hx
  have h1 : lessK k x.fr = false → j < nx l k := fun h => by
    refine Nat.lt_of_not_le fun hle => ?_
    have : x ∈ l.drop (nx l k) := List.mem_iff_getElem?.2 ⟨j - nx l k, by rw [List.getElem?_drop, show nx l k + (j - nx l k) = j by omega]; exact hx⟩
    have := nx_drop hu x this
    rw [h] at this
    cases this
  have h2 : lessK k x.fr = true → nx l k ≤ j := fun h => by
    refine Nat.le_of_not_lt fun hlt => ?_
    have : x ∈ l.take (nx l k) := List.mem_iff_getElem?.2 ⟨j, by rw [List.getElem?_take, if_pos hlt]; exact hx⟩
    have := nx_take x this
    rw [h] at this
    cases this
  unfold upto
  refine ⟨fun h => ?_, fun h => ?_⟩
  · have := h1 h
    omega
  · have := h2 h
    omega
set_option maxRecDepth 100000 in
set_option maxHeartbeats 1600000 in
theorem at_37 (r : Nat) (a : Option Addr) (cap : Nat) (l : List Pc) (k : ByteArray) (w : World) (h : DtAt w r a cap l) :
    Calls Tryd.prog 37 #[.pointer (some ⟨r, 0, none⟩), .string k] w fun e w' => e = .returned (.int .i64 (pl l k : Nat)) ∧ w = w' := by
  have H := Lib.hid h
  have c0 := h.c0
  have lr := lt_of_heap h.cell
  obtain ⟨n, hn⟩ : ∃ n, n = l.length := ⟨_, rfl⟩
  have HN := Lib.hid hn
  have hn9 : (n : Int) ≤ 32 := by have := h.ok.len; omega
  rw [← hn] at c0
  have P0 : Hid (upto l k 0 = 0) := by show _ = _; unfold upto; omega
  clear h hn
  go_enter Tryd.func37, Tryd.ntmps37
  go_wp2_with fail
  go_loopw [5, 6] (fun m i wr => ∃ p j : Nat, j ≤ n ∧ m = .int .i64 p ∧ i = .int .i64 j ∧ Hid (upto l k j = p) ∧ wr = w) (fun _ i _ => n - (intOf i).toNat)
  case atStart => exact ⟨0, 0, by omega, rfl, rfl, P0, rfl⟩
  case round =>
    clear P0
    obtain ⟨p, j, hj, rfl, rfl, HP, ew⟩ := hrel
    obtain rfl : w = wr := ew.symm
    by_cases hlt : j < n
    · obtain ⟨x, hx⟩ : ∃ x, l[j]? = some x := ⟨_, List.getElem?_eq_getElem (by rw [← HN.out]; exact hlt)⟩
      obtain ⟨g, o, rfl, lg, hc⟩ := H.out.src.lies j x hx
      have d0 : w.cell? ⟨g, o + j * 3, none⟩ = some (.string x.fr) := hc 0 _ rfl
      have HS := Lib.hid (at_step (k := k) H.out.ok.up hx)
      have hj0 : (0 : Int) ≤ (j : Int) := by omega
      have hj1 : (j : Int) < (n : Int) := by omega
      clear hx hc
      cases h1 : lessK k x.fr with
      | true =>
        have hle : (Op.bytesLess x.fr.toList k.toList || x.fr.toList == k.toList) = false := by rw [leK, h1]; rfl
        have HNX : Hid (upto l k (j + 1) = p) := (HS.out.2 h1).trans HP.out
        clear h1
        go_wp2_with fail
        exact ⟨⟨p, j + 1, by omega, rfl, by simp, HNX, trivial⟩, by simp [intOf]; omega⟩
      | false =>
        have hle : (Op.bytesLess x.fr.toList k.toList || x.fr.toList == k.toList) = true := by rw [leK, h1]; rfl
        have HNX := Lib.hid (HS.out.1 h1)
        clear h1
        go_wp2_with fail
        exact ⟨⟨j, j + 1, by omega, rfl, by simp, HNX, trivial⟩, by simp [intOf]; omega⟩
    · obtain rfl : j = n := by omega
      have HE : Hid (pl l k = p) := by
        show _ = _
        rw [← HP.out]
        unfold upto pl
        have := nx_le l k
        rw [HN.out]
        omega
      go_wp2_with fail
      go_ret
      exact ⟨by rw [HE.out]; rfl, rfl⟩
set_option maxRecDepth 100000 in
theorem is_38 (f t : ByteArray) (w : World) : Calls Tryd.prog 38 #[.string f, .string t] w fun e w' => e = .returned (.bool (rangedB f t)) ∧ w = w' := by
  have HE : Hid (rangedB f t = (decide (f.size ≤ 16) && decide (t.size ≤ 16) && (decide (t.size = 0) || lessK f t))) := Lib.hid rfl
  obtain ⟨b, hb⟩ : ∃ b, b = rangedB f t := ⟨_, rfl⟩
  rw [← hb] at HE ⊢
  clear hb
  by_cases h1 : f.size ≤ 16
  · have e1 : (f.size : Int) ≤ 16 := by omega
    by_cases h3 : t.size = 0
    · obtain rfl := size_empty h3
      have HV : Hid (b = true) := Lib.hid (by rw [HE.out]; simp [h1])
      rw [HV.out]
      clear HV HE h1 h3
      go_enter Tryd.func38, Tryd.ntmps38
      go_wp2_with fail
      go_ret
      exact ⟨rfl, rfl⟩
    · have e4 := empty_ne h3
      cases h4 : lessK f t with
      | true =>
        have hgt := gtT h4
        have HV : Hid (b = decide ((t.size : Int) ≤ 16)) := Lib.hid (by
          rw [HE.out, h4]
          by_cases h2 : t.size ≤ 16
          · have e2 : (t.size : Int) ≤ 16 := by omega
            simp [h1, h2, e2]
          · have e2 : ¬ (t.size : Int) ≤ 16 := by omega
            simp [h2, e2])
        rw [HV.out]
        clear HV HE h1 h3 h4
        go_enter Tryd.func38, Tryd.ntmps38
        go_wp2_with fail
        go_ret
        exact ⟨rfl, rfl⟩
      | false =>
        have hgt := gtF h4
        have HV : Hid (b = false) := Lib.hid (by rw [HE.out, h4]; simp [h3])
        rw [HV.out]
        clear HV HE h1 h3 h4
        go_enter Tryd.func38, Tryd.ntmps38
        go_wp2_with fail
        go_ret
        exact ⟨rfl, rfl⟩
  · have e1 : ¬ (f.size : Int) ≤ 16 := by omega
    have HV : Hid (b = false) := Lib.hid (by rw [HE.out]; simp [h1])
    rw [HV.out]
    clear HV HE h1
    go_enter Tryd.func38, Tryd.ntmps38
    go_wp2_with fail
    go_ret
    exact ⟨rfl, rfl⟩
set_option maxRecDepth 100000 in
set_option maxHeartbeats 1600000 in
theorem owner_20 (r : Nat) (a : Option Addr) (cap : Nat) (l : List Pc) (k : ByteArray) (w : World) (h : DtAt w r a cap l) :
    Calls Tryd.prog 20 #[.pointer (some ⟨r, 0, none⟩), .string k] w (PcLeft w (ow pc0 l k)) := by
  obtain ⟨W0, hW0⟩ : ∃ W0, W0 = w.alloc (.cells #[.string ⟨#[]⟩, .int .i64 0, .int .i64 0] 35) := ⟨_, rfl⟩
  have hb0 : Below w.heap.size w W0 := by rw [hW0]; exact (Below.refl _ w).alloc (Nat.le_refl _) _
  have hr0 : W0.heap[w.heap.size]? = some (.cells #[.string ⟨#[]⟩, .int .i64 0, .int .i64 0] 35 (0, 0)) := by rw [hW0]; exact heap_alloc_new w _
  have HB0 := Lib.hid hb0
  have H := Lib.hid h
  have hl0 := lt_of_heap hr0
  have HR : Hid (∀ X : Later W0, X.1.heap[w.heap.size]? = some (.cells #[.string ⟨#[]⟩, .int .i64 0, .int .i64 0] 35 (0, 0)) ∧ Below w.heap.size w X.1) := fun X => ⟨(X.2.block _ hl0).trans hr0, hb0.trans (X.2.mono hb0.size)⟩
  obtain ⟨n, hn⟩ : ∃ n, n = l.length := ⟨_, rfl⟩
  obtain ⟨x, hx⟩ : ∃ x, x = ow pc0 l k := ⟨_, rfl⟩
  obtain ⟨j, hj⟩ : ∃ j, j = pl l k := ⟨_, rfl⟩
  have hg := pl_get h.ok k
  have hjn := pl_lt h.ok k
  have hlen := h.ok.len
  rw [← hj, ← hx] at hg
  rw [← hj, ← hn] at hjn
  obtain ⟨g, o, rfl, hgl, hc⟩ := h.src.lies j x hg
  have c0 : ∀ X : Later W0, X.1.cell? ⟨r, 0, none⟩ = some (.slice (some ⟨g, o, none⟩) n cap) := fun X => by rw [hn]; exact (H.out.below (HR.out X).2).c0
  have HX : Hid (∀ X : Later W0, X.1.cell? ⟨g, o + j * 3, none⟩ = some (.string x.fr) ∧ X.1.cell? ⟨g, o + j * 3 + 1, none⟩ = some (.int .i64 x.sh) ∧ X.1.cell? ⟨g, o + j * 3 + 2, none⟩ = some (.int .i64 x.ep)) := fun X =>
    ⟨((HR.out X).2.cell (p := ⟨g, _, none⟩) hgl).trans (hc 0 _ rfl), ((HR.out X).2.cell (p := ⟨g, _, none⟩) hgl).trans (hc 1 _ rfl), ((HR.out X).2.cell (p := ⟨g, _, none⟩) hgl).trans (hc 2 _ rfl)⟩
  have HQ : Hid (∀ X : Later W0, Calls Tryd.prog 37 #[.pointer (some ⟨r, 0, none⟩), .string k] X.1 fun e w' => e = .returned (.int .i64 (j : Int)) ∧ ∃ Y : Later W0, w' = Y.1) := fun X => later_same (by rw [hj]; exact at_37 r _ cap l k X.1 (H.out.below (HR.out X).2))
  have hj1 : (j : Int) < (n : Int) := by omega
  have hj0 : (0 : Int) ≤ (j : Int) := by omega
  rw [← hx]
  clear h hn hx hj hg hjn hlen hc hb0 hr0
  go_enter Tryd.func20, Tryd.ntmps20
  go_wp2_with fail
  rw [← hW0]
  clear hW0
  have here := Later.here W0
  refine wp_region_then 7 (by kernel_rfl) (by kernel_rfl) ?_
  simp only [List.take_succ_cons, List.take_zero, List.drop_succ_cons, List.drop_zero]
  iterate 7 (with_reducible refine wpQuiet_step (fun K hK => ?_); go_simp; first | (refine hK _ ?_; clear hK K) | (apply Exists.intro; refine ⟨fun _ => ?_, hK _ ?_⟩; (go_at_call 37; with_reducible exact HQ.out _); clear hK K))
  with_reducible refine wpQuiet_nil ?_
  intro X
  obtain ⟨d0, d1, d2⟩ := HX.out X
  obtain ⟨hrb, hb⟩ := HR.out X
  have r0 : X.1.cell? ⟨w.heap.size, 0, none⟩ = some (.string ⟨#[]⟩) := by rw [cell_of_row _ _ _ _ _ _ hrb]; rfl
  have r1 : X.1.cell? ⟨w.heap.size, 1, none⟩ = some (.int .i64 0) := by rw [cell_of_row _ _ _ _ _ _ hrb]; rfl
  have r2 : X.1.cell? ⟨w.heap.size, 2, none⟩ = some (.int .i64 0) := by rw [cell_of_row _ _ _ _ _ _ hrb]; rfl
  have fz : ∀ i, X.1.frozen? ⟨w.heap.size, i, none⟩ = false := fun i => by simp [World.frozen?, hrb]
  have hrl := lt_of_heap hrb
  have HBX := Lib.hid hb
  clear hrb hb
  go_wp2_with fail
  refine bodyPost_ret (v := .agg #[.string x.fr, .int .i64 x.sh, .int .i64 x.ep]) (by simp [results, Tryd.results20, go_sem, r0, r1, r2]) rfl ⟨rfl, ?_⟩
  have hb := HBX.out
  go_grown
end Go.Proofs.YtemgcliihbjjiaaDoor
