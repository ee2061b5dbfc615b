/- A route: ends, owners, all pieces, a range in one piece. -/
import Derived.Test.YtemgcliihbjjiaaDoorRdo
import Derived.Test.YtemgcliihbjjiaaDoorGenl
namespace Go.Proofs.YtemgcliihbjjiaaDoor
open Go.RowKit Go.My

def EndsLeft (w : World) (i j : Nat) (e : Ending) (w' : World) : Prop := e = .returned (.tuple #[.int .i64 (i : Int), .int .i64 (j : Int)]) ∧ Below w.heap.size w w'
set_option maxRecDepth 100000 in
set_option maxHeartbeats 1600000 in
theorem ends_28 (r : Nat) (a : Option Addr) (cap : Nat) (l : List Pc) (f t : ByteArray) (w : World) (h : RtAt w r a cap l) :
    Calls Tryd.prog 28 #[.pointer (some ⟨r, 0, none⟩), .string f, .string t] w (EndsLeft w (pl l f) (en l t)) := by
  obtain ⟨n, hn⟩ : ∃ n, n = l.length := ⟨_, rfl⟩
  have hlen := h.ok.len
  obtain ⟨i, hi⟩ : ∃ i, i = pl l f := ⟨_, rfl⟩
  by_cases h3 : t.size = 0
  · obtain rfl := size_empty h3
    have hE : en l ByteArray.empty = n := by unfold en; rw [if_pos h3, hn]
    have c0 : ∀ X : Later w, X.1.cell? ⟨r, 0, none⟩ = some (.slice a n cap) := fun X => by rw [hn]; exact (h.below X.2).c0
    have HQ : Hid (∀ X : Later w, Calls Tryd.prog 34 #[.pointer (some ⟨r, 0, none⟩), .string f] X.1 fun e w' => e = .returned (.int .i64 (i : Int)) ∧ ∃ Y : Later w, w' = Y.1) := fun X => later_call (by rw [hi]; exact place_34 r a cap l f X.1 (h.below X.2))
    rw [hE, ← hi]
    clear hE h hn hi h3 hlen
    go_enter Tryd.func28, Tryd.ntmps28
    go_wp2_with fail
    have here := Later.here w
    refine wp_region_later (by kernel_rfl) (by kernel_rfl) ?_
    iterate 10 (with_reducible refine wpQuiet_step (fun K hK => ?_); go_simp; first | (refine hK _ ?_; clear hK K) | (apply Exists.intro; refine ⟨fun _ => ?_, hK _ ?_⟩; (go_at_call 34; with_reducible exact HQ.out _); clear hK K))
    with_reducible refine wpQuiet_nil ?_
    intro X
    go_wp2_with fail
    go_ret2
    exact ⟨rfl, X.2⟩
  · have e4 := empty_ne h3
    have hg := pl_get h.ok t
    have hjn := pl_lt h.ok t
    obtain ⟨j, hj⟩ : ∃ j, j = pl l t := ⟨_, rfl⟩
    obtain ⟨x, hx⟩ : ∃ x, x = ow pc0 l t := ⟨_, rfl⟩
    rw [← hj, ← hx] at hg
    rw [← hj, ← hn] at hjn
    obtain ⟨g, o, rfl, hgl, hc⟩ := h.src.lies j x hg
    have HJ := Lib.hid (place_34 r _ cap l t w h)
    have HI : Hid (∀ W, Below w.heap.size w W → Calls Tryd.prog 34 #[.pointer (some ⟨r, 0, none⟩), .string f] W (IdxLeft W (i : Int))) := fun W hb => by rw [hi]; exact place_34 r _ cap l f W (h.below hb)
    rw [← hj] at HJ
    have HC : Hid (∀ W, Below w.heap.size w W → W.cell? ⟨r, 0, none⟩ = some (.slice (some ⟨g, o, none⟩) n cap) ∧ W.cell? ⟨g, o + j * 3, none⟩ = some (.string x.fr) ∧ r < W.heap.size ∧ g < W.heap.size) := fun W hb =>
      ⟨by rw [hn]; exact (h.below hb).c0, (hb.cell (p := ⟨g, _, none⟩) hgl).trans (hc 0 _ rfl), lt_of_heap (h.below hb).cell, Nat.lt_of_lt_of_le hgl hb.size⟩
    have hE : en l t = if lessK x.fr t then j + 1 else j := by unfold en; rw [if_neg h3, ← hx, ← hj]
    have hj1 : (j : Int) < (n : Int) := by omega
    have hj0 : (0 : Int) ≤ (j : Int) := by omega
    have hn9 : (n : Int) ≤ 32 := by omega
    rw [hE, ← hi]
    clear hE h hn hi hj hx hg hc hlen hjn
    cases hl : lessK x.fr t with
    | true =>
      have hl2 : Op.bytesLess x.fr.toList t.toList = true := hl
      clear hl
      go_enter Tryd.func28, Tryd.ntmps28
      go_wp2_with fail
      refine HJ.out.mono ?_
      rintro e w1 ⟨rfl, hb⟩
      obtain ⟨c0, c1, l0, l1⟩ := HC.out w1 hb
      have HII := Lib.hid (HI.out w1 hb)
      have HB := Lib.hid hb
      clear hb
      go_wp2_with fail
      refine HII.out.mono ?_
      rintro e w2 ⟨rfl, hb⟩
      have HB2 := Lib.hid (HB.out.trans (hb.mono HB.out.size))
      clear hb
      go_wp2_with fail
      go_ret2
      exact ⟨by simp, HB2.out⟩
    | false =>
      have hl2 : Op.bytesLess x.fr.toList t.toList = false := hl
      clear hl
      go_enter Tryd.func28, Tryd.ntmps28
      go_wp2_with fail
      refine HJ.out.mono ?_
      rintro e w1 ⟨rfl, hb⟩
      obtain ⟨c0, c1, l0, l1⟩ := HC.out w1 hb
      have HII := Lib.hid (HI.out w1 hb)
      have HB := Lib.hid hb
      clear hb
      go_wp2_with fail
      refine HII.out.mono ?_
      rintro e w2 ⟨rfl, hb⟩
      have HB2 := Lib.hid (HB.out.trans (hb.mono HB.out.size))
      clear hb
      go_wp2_with fail
      go_ret2
      exact ⟨by simp, HB2.out⟩

set_option maxRecDepth 100000 in
theorem pieces_13 (r : Nat) (a : Option Addr) (cap : Nat) (l : List Pc) (w : World) (h : RtAt w r a cap l) :
    Calls Tryd.prog 13 #[.pointer (some ⟨r, 0, none⟩)] w (RowLeft w l) := by
  have HC := Lib.hid (clone_26 a cap l w h.src (by have := h.ok.len; omega))
  have c0 := h.c0
  have l0 := lt_of_heap h.cell
  obtain ⟨n, hn⟩ : ∃ n, n = l.length := ⟨_, rfl⟩
  rw [← hn] at HC c0
  clear h hn
  go_enter Tryd.func13, Tryd.ntmps13
  go_wp2_with fail
  refine HC.out.mono ?_
  rintro e w1 ⟨v, rfl, ho, hb⟩
  have HO := Lib.hid ho
  have HB := Lib.hid hb
  clear ho hb
  go_wp2_with fail
  go_ret
  exact ⟨_, rfl, HO.out, HB.out⟩

def PcLeft (w : World) (x : Pc) (e : Ending) (w' : World) : Prop := e = .returned (pcA x) ∧ Below w.heap.size w w'
set_option maxRecDepth 100000 in
set_option maxHeartbeats 1600000 in
theorem owner_12 (r : Nat) (a : Option Addr) (cap : Nat) (l : List Pc) (k : ByteArray) (w : World) (h : RtAt w r a cap l) :
    Calls Tryd.prog 12 #[.pointer (some ⟨r, 0, none⟩), .string k] w (PcLeft w (ow pc0 l k)) := by
  obtain ⟨W0, hW0⟩ : ∃ W0, W0 = w.alloc (.cells #[.string ⟨#[]⟩, .int .i64 0, .int .i64 0] 35) := ⟨_, rfl⟩
  have hb0 : Below w.heap.size w W0 := by rw [hW0]; exact (Below.refl _ w).alloc (Nat.le_refl _) _
  have hr0 : W0.heap[w.heap.size]? = some (.cells #[.string ⟨#[]⟩, .int .i64 0, .int .i64 0] 35 (0, 0)) := by rw [hW0]; exact heap_alloc_new w _
  have HB0 := Lib.hid hb0
  have H := Lib.hid h
  have hl0 := lt_of_heap hr0
  have HR : Hid (∀ X : Later W0, X.1.heap[w.heap.size]? = some (.cells #[.string ⟨#[]⟩, .int .i64 0, .int .i64 0] 35 (0, 0)) ∧ Below w.heap.size w X.1) := fun X => ⟨(X.2.block _ hl0).trans hr0, hb0.trans (X.2.mono hb0.size)⟩
  obtain ⟨n, hn⟩ : ∃ n, n = l.length := ⟨_, rfl⟩
  obtain ⟨x, hx⟩ : ∃ x, x = ow pc0 l k := ⟨_, rfl⟩
  obtain ⟨j, hj⟩ : ∃ j, j = pl l k := ⟨_, rfl⟩
  have hg := pl_get h.ok k
  have hjn := pl_lt h.ok k
  have hlen := h.ok.len
  rw [← hj, ← hx] at hg
  rw [← hj, ← hn] at hjn
  obtain ⟨g, o, rfl, hgl, hc⟩ := h.src.lies j x hg
  have c0 : ∀ X : Later W0, X.1.cell? ⟨r, 0, none⟩ = some (.slice (some ⟨g, o, none⟩) n cap) := fun X => by rw [hn]; exact (H.out.below (HR.out X).2).c0
  have HX : Hid (∀ X : Later W0, X.1.cell? ⟨g, o + j * 3, none⟩ = some (.string x.fr) ∧ X.1.cell? ⟨g, o + j * 3 + 1, none⟩ = some (.int .i64 x.sh) ∧ X.1.cell? ⟨g, o + j * 3 + 2, none⟩ = some (.int .i64 x.ep)) := fun X =>
    ⟨((HR.out X).2.cell (p := ⟨g, _, none⟩) hgl).trans (hc 0 _ rfl), ((HR.out X).2.cell (p := ⟨g, _, none⟩) hgl).trans (hc 1 _ rfl), ((HR.out X).2.cell (p := ⟨g, _, none⟩) hgl).trans (hc 2 _ rfl)⟩
  have HQ : Hid (∀ X : Later W0, Calls Tryd.prog 34 #[.pointer (some ⟨r, 0, none⟩), .string k] X.1 fun e w' => e = .returned (.int .i64 (j : Int)) ∧ ∃ Y : Later W0, w' = Y.1) := fun X => later_call (by rw [hj]; exact place_34 r _ cap l k X.1 (H.out.below (HR.out X).2))
  have hj1 : (j : Int) < (n : Int) := by omega
  have hj0 : (0 : Int) ≤ (j : Int) := by omega
  rw [← hx]
  clear h hn hx hj hg hjn hlen hc hb0 hr0
  go_enter Tryd.func12, Tryd.ntmps12
  go_wp2_with fail
  rw [← hW0]
  clear hW0
  have here := Later.here W0
  refine wp_region_then 7 (by kernel_rfl) (by kernel_rfl) ?_
  simp only [List.take_succ_cons, List.take_zero, List.drop_succ_cons, List.drop_zero]
  iterate 7 (with_reducible refine wpQuiet_step (fun K hK => ?_); go_simp; first | (refine hK _ ?_; clear hK K) | (apply Exists.intro; refine ⟨fun _ => ?_, hK _ ?_⟩; (go_at_call 34; with_reducible exact HQ.out _); clear hK K))
  with_reducible refine wpQuiet_nil ?_
  intro X
  obtain ⟨d0, d1, d2⟩ := HX.out X
  obtain ⟨hrb, hb⟩ := HR.out X
  have r0 : X.1.cell? ⟨w.heap.size, 0, none⟩ = some (.string ⟨#[]⟩) := by rw [cell_of_row _ _ _ _ _ _ hrb]; rfl
  have r1 : X.1.cell? ⟨w.heap.size, 1, none⟩ = some (.int .i64 0) := by rw [cell_of_row _ _ _ _ _ _ hrb]; rfl
  have r2 : X.1.cell? ⟨w.heap.size, 2, none⟩ = some (.int .i64 0) := by rw [cell_of_row _ _ _ _ _ _ hrb]; rfl
  have fz : ∀ i, X.1.frozen? ⟨w.heap.size, i, none⟩ = false := fun i => by simp [World.frozen?, hrb]
  have hrl := lt_of_heap hrb
  have HBX := Lib.hid hb
  clear hrb hb
  go_wp2_with fail
  refine bodyPost_ret (v := .agg #[.string x.fr, .int .i64 x.sh, .int .i64 x.ep]) (by simp [results, Tryd.results12, go_sem, r0, r1, r2]) rfl ⟨rfl, ?_⟩
  have hb := HBX.out
  go_grown
def oneB (l : List Pc) (f t : ByteArray) : Bool := rangedB f t && decide (en l t = pl l f + 1)
def oneX (l : List Pc) (f t : ByteArray) : Pc := if oneB l f t then ow pc0 l f else pc0
def OneLeft (w : World) (x : Pc) (b : Bool) (e : Ending) (w' : World) : Prop := e = .returned (.tuple #[pcA x, .bool b]) ∧ Below w.heap.size w w'
set_option maxRecDepth 100000 in
set_option maxHeartbeats 1600000 in
theorem one_15 (r : Nat) (a : Option Addr) (cap : Nat) (l : List Pc) (f t : ByteArray) (w : World) (h : RtAt w r a cap l) :
    Calls Tryd.prog 15 #[.pointer (some ⟨r, 0, none⟩), .string f, .string t] w (OneLeft w (oneX l f t) (oneB l f t)) := by
  obtain ⟨W0, hW0⟩ : ∃ W0, W0 = w.alloc (.cells #[.string ⟨#[]⟩, .int .i64 0, .int .i64 0] 35) := ⟨_, rfl⟩
  have hb0 : Below w.heap.size w W0 := by rw [hW0]; exact (Below.refl _ w).alloc (Nat.le_refl _) _
  have hr0 : W0.heap[w.heap.size]? = some (.cells #[.string ⟨#[]⟩, .int .i64 0, .int .i64 0] 35 (0, 0)) := by rw [hW0]; exact heap_alloc_new w _
  have hl0 := lt_of_heap hr0
  have HR : Hid (∀ W, Below W0.heap.size W0 W → W.cell? ⟨w.heap.size, 0, none⟩ = some (.string ⟨#[]⟩) ∧ W.cell? ⟨w.heap.size, 1, none⟩ = some (.int .i64 0) ∧ W.cell? ⟨w.heap.size, 2, none⟩ = some (.int .i64 0) ∧ (∀ i, W.frozen? ⟨w.heap.size, i, none⟩ = false) ∧ w.heap.size < W.heap.size ∧ Below w.heap.size w W) := fun W hb => by
    have hrb := (hb.block _ hl0).trans hr0
    exact ⟨by rw [cell_of_row _ _ _ _ _ _ hrb]; rfl, by rw [cell_of_row _ _ _ _ _ _ hrb]; rfl, by rw [cell_of_row _ _ _ _ _ _ hrb]; rfl, fun i => by simp [World.frozen?, hrb], lt_of_heap hrb, hb0.trans (hb.mono hb0.size)⟩
  have HG := Lib.hid (ranged_27 f t)
  unfold OneLeft
  cases hg : rangedB f t with
  | false =>
    have hB : oneB l f t = false := by unfold oneB; rw [hg]; rfl
    have hX : oneX l f t = pc0 := by unfold oneX; rw [hB]; rfl
    rw [hB, hX]
    rw [hg] at HG
    unfold pcA pc0
    clear h hg hB hX hb0 hr0 hl0
    obtain ⟨r0, r1, r2, fz, hrl, hb⟩ := HR.out W0 (Below.refl _ _)
    have HBX := Lib.hid hb
    clear hb
    go_enter Tryd.func15, Tryd.ntmps15
    go_wp2_with fail
    rw [← hW0]
    clear hW0
    refine (HG.out _).mono ?_
    rintro e w1 ⟨rfl, rfl⟩
    go_wp2_with fail
    refine bodyPost_ret (v := .tuple #[.agg #[.string ⟨#[]⟩, .int .i64 0, .int .i64 0], .bool false]) (by simp [results, Tryd.results15, go_sem, r0, r1, r2]) rfl ⟨rfl, ?_⟩
    have hb := HBX.out
    go_grown
  | true =>
    obtain ⟨n, hn⟩ : ∃ n, n = l.length := ⟨_, rfl⟩
    obtain ⟨x, hx⟩ : ∃ x, x = ow pc0 l f := ⟨_, rfl⟩
    obtain ⟨j, hj⟩ : ∃ j, j = pl l f := ⟨_, rfl⟩
    obtain ⟨q, hq⟩ : ∃ q, q = en l t := ⟨_, rfl⟩
    have hpg := pl_get h.ok f
    have hjn := pl_lt h.ok f
    have hlen := h.ok.len
    have hqn := en_le h.ok t
    have HE := Lib.hid (ends_28 r a cap l f t W0 (h.below hb0))
    rw [← hj, ← hx] at hpg
    rw [← hj, ← hn] at hjn
    rw [← hq, ← hj] at HE
    rw [← hq] at hqn
    have HH := Lib.hid h
    rw [hg] at HG
    obtain ⟨g, o, rfl, hgl, hc⟩ := h.src.lies j x hpg
    have HC : Hid (∀ W, Below w.heap.size w W → W.cell? ⟨r, 0, none⟩ = some (.slice (some ⟨g, o, none⟩) n cap) ∧ r < W.heap.size ∧ W.cell? ⟨g, o + j * 3, none⟩ = some (.string x.fr) ∧ W.cell? ⟨g, o + j * 3 + 1, none⟩ = some (.int .i64 x.sh) ∧ W.cell? ⟨g, o + j * 3 + 2, none⟩ = some (.int .i64 x.ep) ∧ g < W.heap.size) := fun W hb =>
      ⟨by rw [hn]; exact (HH.out.below hb).c0, lt_of_heap (HH.out.below hb).cell, (hb.cell (p := ⟨g, _, none⟩) hgl).trans (hc 0 _ rfl), (hb.cell (p := ⟨g, _, none⟩) hgl).trans (hc 1 _ rfl), (hb.cell (p := ⟨g, _, none⟩) hgl).trans (hc 2 _ rfl), Nat.lt_of_lt_of_le hgl hb.size⟩
    have hj1 : (j : Int) < (n : Int) := by omega
    have hj0 : (0 : Int) ≤ (j : Int) := by omega
    by_cases hd : q = j + 1
    · have hB : oneB l f t = true := by unfold oneB; rw [hg, ← hq, ← hj, hd]; simp
      have hX : oneX l f t = x := by unfold oneX; rw [hB, if_pos rfl, hx]
      have hs : IntKind.i64.wrap ((q : Int) - (j : Int)) = 1 := by rw [IntWalk.i64_in _ (by omega)]; omega
      rw [hB, hX]
      unfold pcA
      clear h hg hB hX hb0 hr0 hl0 hn hx hj hq hpg hjn hlen hqn hc hd
      go_enter Tryd.func15, Tryd.ntmps15
      go_wp2_with fail
      rw [← hW0]
      clear hW0
      refine (HG.out _).mono ?_
      rintro e w1 ⟨rfl, rfl⟩
      go_wp2_with fail
      refine HE.out.mono ?_
      rintro e w2 ⟨rfl, hb⟩
      obtain ⟨r0, r1, r2, fz, hrl, hb2⟩ := HR.out w2 hb
      obtain ⟨c0, lr, d0, d1, d2, lg⟩ := HC.out w2 hb2
      have HBX := Lib.hid hb2
      clear hb hb2
      go_wp2_with fail
      refine bodyPost_ret (v := .tuple #[.agg #[.string x.fr, .int .i64 x.sh, .int .i64 x.ep], .bool true]) (by simp [results, Tryd.results15, go_sem, r0, r1, r2]) rfl ⟨rfl, ?_⟩
      have hb := HBX.out
      go_grown
    · have hB : oneB l f t = false := by unfold oneB; rw [hg, ← hq, ← hj]; simp [hd]
      have hX : oneX l f t = pc0 := by unfold oneX; rw [hB]; rfl
      obtain ⟨z, hz⟩ : ∃ z, z = (q : Int) - (j : Int) := ⟨_, rfl⟩
      have hs : IntKind.i64.wrap ((q : Int) - (j : Int)) = z := by rw [IntWalk.i64_in _ (by omega)]; omega
      have hz1 : ¬ z = 1 := by omega
      rw [hB, hX]
      unfold pcA pc0
      clear h hg hB hX hb0 hr0 hl0 hn hx hj hq hpg hjn hlen hqn hc hd hz
      go_enter Tryd.func15, Tryd.ntmps15
      go_wp2_with fail
      rw [← hW0]
      clear hW0
      refine (HG.out _).mono ?_
      rintro e w1 ⟨rfl, rfl⟩
      go_wp2_with fail
      refine HE.out.mono ?_
      rintro e w2 ⟨rfl, hb⟩
      obtain ⟨r0, r1, r2, fz, hrl, hb2⟩ := HR.out w2 hb
      have HBX := Lib.hid hb2
      clear hb hb2
      go_wp2_with fail
      refine bodyPost_ret (v := .tuple #[.agg #[.string ⟨#[]⟩, .int .i64 0, .int .i64 0], .bool false]) (by simp [results, Tryd.results15, go_sem, r0, r1, r2]) rfl ⟨rfl, ?_⟩
      have hb := HBX.out
      go_grown
end Go.Proofs.YtemgcliihbjjiaaDoor
