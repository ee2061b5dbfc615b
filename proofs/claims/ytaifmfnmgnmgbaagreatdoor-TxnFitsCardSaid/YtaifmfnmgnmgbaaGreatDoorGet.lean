/- A store: what a key has; what fits; how much room there is. -/
import Derived.Test.YtaifmfnmgnmgbaaGreatDoorFind
import Derived.RegionTactic
import Derived.ChangeAlike
import Derived.BigRegion
import Derived.Handy
namespace Go.Proofs.YtaifmfnmgnmgbaaGreatDoor
open Go.RowKit Go.My
def getE (L : List Ent) (k : ByteArray) : Option Ent := L.find? fun e => decide (e.key = k)
theorem get_has (L : List Ent) (k : ByteArray) : (getE L k).isSome = hasK L k := by
  unfold getE hasK
  rw [Bool.eq_iff_iff, List.find?_isSome, List.any_eq_true]
theorem get_some {L : List Ent} {k : ByteArray} {e : Ent} (h : getE L k = some e) : e ∈ L ∧ e.key = k := by
  unfold getE at h
  exact ⟨List.mem_of_find?_eq_some h, by simpa using List.find?_some h⟩
theorem up_key {L : List Ent} (hu : Up L) {x y : Ent} (hx : x ∈ L) (hy : y ∈ L) (h : x.key = y.key) : x = y := by
  obtain ⟨i, hi⟩ := List.getElem?_of_mem hx
  obtain ⟨j, hj⟩ := List.getElem?_of_mem hy
  rcases Nat.lt_trichotomy i j with q | q | q
  · have := up_get hu q hi hj
    rw [h, lessK_irr] at this
    cases this
  · subst q
    rw [hi] at hj
    exact Option.some.inj hj
  · have := up_get hu q hj hi
    rw [h, lessK_irr] at this
    cases this
theorem get_mem {L : List Ent} (hu : Up L) {x : Ent} (hx : x ∈ L) : getE L x.key = some x := by
  cases h : getE L x.key with
  | none =>
    unfold getE at h
    rw [List.find?_eq_none] at h
    exact absurd (decide_eq_true rfl) (h x hx)
  | some y =>
    obtain ⟨h1, h2⟩ := get_some h
    rw [up_key hu h1 hx h2]
/-- What lies where a key is. -/
theorem pos_get {L : List Ent} (hu : Up L) {k : ByteArray} {e : Ent} (h : getE L k = some e) : L[posOf L k]? = some e := by
  obtain ⟨h1, h2⟩ := get_some h
  obtain ⟨i, hi⟩ := List.getElem?_of_mem h1
  have hil := (List.getElem?_eq_some_iff.1 hi).1
  have : posOf L k = i := by
    refine pos_split (by omega) (fun x hx => ?_) (fun x hx => ?_)
    · obtain ⟨t, ht⟩ := List.getElem?_of_mem hx
      have hlt := (List.getElem?_eq_some_iff.1 ht).1
      rw [List.length_take] at hlt
      rw [List.getElem?_take, if_pos (by omega)] at ht
      rw [← h2]
      exact up_get hu (by omega) ht hi
    · obtain ⟨t, ht⟩ := List.getElem?_of_mem hx
      rw [List.getElem?_drop] at ht
      rw [← h2]
      rcases Nat.eq_zero_or_pos t with q | q
      · subst q
        rw [Nat.add_zero, hi] at ht
        cases ht
        exact lessK_irr _
      · exact lessK_asymm (up_get hu (by omega) hi ht)
  rw [this]
  exact hi
def gotE (o : Option Ent) : Value := .tuple #[entA (o.getD ent0), .bool o.isSome]
def GetLeft (w : World) (L : List Ent) (k : ByteArray) (e : Ending) (w' : World) : Prop := e = .returned (gotE (getE L k)) ∧ Below w.heap.size w w'
set_option maxRecDepth 100000 in
set_option maxHeartbeats 1600000 in
theorem get_11 (p : Nat) (a : Option Addr) (cap : Nat) (L : List Ent) (k : ByteArray) (w : World) (h : StoreAt w p a cap L) (hl : L.length ≤ 100000) :
    Calls Tryz.prog 18 #[.pointer (some ⟨p, 0, none⟩), .string k] w (GetLeft w L k) := by
  obtain ⟨W0, hW0⟩ : ∃ W0, W0 = w.alloc (.cells #[.string ⟨#[]⟩, .string ⟨#[]⟩, .int .i64 0] 42) := ⟨_, rfl⟩
  have HB0 : Hid (Below w.heap.size w W0) := by show Below _ _ _; rw [hW0]; exact (Below.refl _ w).alloc (Nat.le_refl _) _
  have HR0 : Hid (W0.heap[w.heap.size]? = some (.cells #[.string ⟨#[]⟩, .string ⟨#[]⟩, .int .i64 0] 42 (0, 0))) := by show _ = _; rw [hW0]; exact heap_alloc_new w _
  have H := Lib.hid h
  have HF := Lib.hid (find_23 p a cap L k W0 (h.below HB0.out) hl)
  unfold FindLeft at HF
  have hgh := get_has L k
  have HPG : Hid (∀ e, getE L k = some e → L[posOf L k]? = some e) := fun e he => pos_get h.up he
  obtain ⟨n, hn⟩ : ∃ n, n = L.length := ⟨_, rfl⟩
  have HN := Lib.hid hn
  obtain ⟨q, hq⟩ : ∃ q, q = posOf L k := ⟨_, rfl⟩
  rw [← hq] at HF HPG
  rw [← hgh] at HF
  have hn9 : (n : Int) ≤ 100000 := by omega
  unfold GetLeft
  clear h hl hn hq hgh
  cases hg : getE L k with
  | none =>
    rw [hg] at HF
    simp only [Option.isSome] at HF
    clear hg HPG
    go_enter Tryz.func18, Tryz.ntmps18
    go_wp2_with fail
    rw [← hW0]
    clear hW0
    refine HF.out.mono ?_
    rintro e w1 ⟨rfl, hb1⟩
    have HB1 := Lib.hid (HB0.out.trans (hb1.mono HB0.out.size))
    have hrb := (hb1.block _ (lt_of_heap HR0.out)).trans HR0.out
    have r0 : w1.cell? ⟨w.heap.size, 0, none⟩ = some (.string ⟨#[]⟩) := by rw [cell_of_row _ _ _ _ _ _ hrb]; rfl
    have r1 : w1.cell? ⟨w.heap.size, 1, none⟩ = some (.string ⟨#[]⟩) := by rw [cell_of_row _ _ _ _ _ _ hrb]; rfl
    have r2 : w1.cell? ⟨w.heap.size, 2, none⟩ = some (.int .i64 0) := by rw [cell_of_row _ _ _ _ _ _ hrb]; rfl
    have fz : ∀ i, w1.frozen? ⟨w.heap.size, i, none⟩ = false := fun i => by simp [World.frozen?, hrb]
    have hrl := lt_of_heap hrb
    clear hb1 hrb
    go_wp2_with fail
    refine bodyPost_ret (v := .tuple #[.agg #[.string ⟨#[]⟩, .string ⟨#[]⟩, .int .i64 0], .bool false]) (by simp [results, Tryz.results18, go_sem, r0, r1, r2]) rfl ⟨rfl, ?_⟩
    have hb := HB1.out
    go_grown
  | some x =>
    have HX := Lib.hid (HPG.out x hg)
    rw [hg] at HF
    simp only [Option.isSome] at HF
    clear hg HPG
    go_enter Tryz.func18, Tryz.ntmps18
    go_wp2_with fail
    rw [← hW0]
    clear hW0
    refine HF.out.mono ?_
    rintro e w1 ⟨rfl, hb1⟩
    have HB1 := Lib.hid (HB0.out.trans (hb1.mono HB0.out.size))
    have hrb := (hb1.block _ (lt_of_heap HR0.out)).trans HR0.out
    have r0 : w1.cell? ⟨w.heap.size, 0, none⟩ = some (.string ⟨#[]⟩) := by rw [cell_of_row _ _ _ _ _ _ hrb]; rfl
    have r1 : w1.cell? ⟨w.heap.size, 1, none⟩ = some (.string ⟨#[]⟩) := by rw [cell_of_row _ _ _ _ _ _ hrb]; rfl
    have r2 : w1.cell? ⟨w.heap.size, 2, none⟩ = some (.int .i64 0) := by rw [cell_of_row _ _ _ _ _ _ hrb]; rfl
    have fz : ∀ i, w1.frozen? ⟨w.heap.size, i, none⟩ = false := fun i => by simp [World.frozen?, hrb]
    have hrl := lt_of_heap hrb
    have hs := H.out.below HB1.out
    obtain ⟨g, o, rfl, hg, hc⟩ := hs.src.lies q x HX.out
    have s0 : w1.cell? ⟨p, 0, none⟩ = some (.slice (some ⟨g, o, none⟩) n cap) := by rw [cell_of_row _ _ _ _ _ _ hs.cell, HN.out]; rfl
    have lp := lt_of_heap hs.cell
    have d0 : w1.cell? ⟨g, o + q * 3, none⟩ = some (.string x.key) := hc 0 _ rfl
    have d1 : w1.cell? ⟨g, o + q * 3 + 1, none⟩ = some (.string x.value) := hc 1 _ rfl
    have d2 : w1.cell? ⟨g, o + q * 3 + 2, none⟩ = some (.int .i64 x.ver) := hc 2 _ rfl
    have hq0 : (0 : Int) ≤ (q : Int) := by omega
    have hq1 : (q : Int) < (n : Int) := by have := (List.getElem?_eq_some_iff.1 HX.out).1; rw [HN.out]; omega
    clear hb1 hrb hs hc
    go_wp2_with fail
    refine bodyPost_ret (v := .tuple #[.agg #[.string x.key, .string x.value, .int .i64 x.ver], .bool true]) (by simp [results, Tryz.results18, go_sem, r0, r1, r2]) rfl ⟨rfl, ?_⟩
    have hb := HB1.out
    go_grown
/-- May an entry be one? -/
def fitE (e : Ent) : Bool := decide (e.key.size ≤ 16) && decide (e.value.size ≤ 64) && decide (0 < e.ver)
set_option maxRecDepth 100000 in
theorem fits_21 (e : Ent) (w : World) : Calls Tryz.prog 41 #[entA e] w (BoolLeft w (fitE e)) := by
  have HB : Hid (∀ o, Below w.heap.size w (w.alloc o)) := fun o => (Below.refl _ w).alloc (Nat.le_refl _) o
  unfold entA
  by_cases h1 : e.key.size ≤ 16
  · have e1 : (e.key.size : Int) ≤ 16 := by omega
    by_cases h2 : e.value.size ≤ 64
    · have e2 : (e.value.size : Int) ≤ 64 := by omega
      have HE : Hid (fitE e = decide (0 < e.ver)) := by show _ = _; simp [fitE, h1, h2]
      rw [HE.out]
      go_enter Tryz.func41, Tryz.ntmps41
      go_wp2_with fail
      go_ret
      exact ⟨rfl, HB.out _⟩
    · have e2 : ¬ (e.value.size : Int) ≤ 64 := by omega
      have HE : Hid (fitE e = false) := by show _ = _; simp [fitE, h2]
      rw [HE.out]
      go_enter Tryz.func41, Tryz.ntmps41
      go_wp2_with fail
      go_ret
      exact ⟨rfl, HB.out _⟩
  · have e1 : ¬ (e.key.size : Int) ≤ 16 := by omega
    have HE : Hid (fitE e = false) := by show _ = _; simp [fitE, h1]
    rw [HE.out]
    go_enter Tryz.func41, Tryz.ntmps41
    go_wp2_with fail
    go_ret
    exact ⟨rfl, HB.out _⟩
set_option maxRecDepth 100000 in
theorem room_17 (p : Nat) (a : Option Addr) (cap : Nat) (L : List Ent) (m : Int) (w : World) (h : StoreAt w p a cap L) (hl : L.length ≤ 100000) :
    Calls Tryz.prog 49 #[.pointer (some ⟨p, 0, none⟩), .int .i64 m] w fun e w' => e = .returned (.bool (decide (m ≤ 128 - (L.length : Int)))) ∧ w' = w := by
  have q : w.cell? ⟨p, 0, none⟩ = some (.slice a L.length cap) := by rw [cell_of_row _ _ _ _ _ _ h.cell]; rfl
  have lp := lt_of_heap h.cell
  generalize L.length = n at q hl ⊢
  have hn9 : (n : Int) ≤ 100000 := by omega
  clear h hl
  go_enter Tryz.func49, Tryz.ntmps49
  go_wp2_with fail
  go_ret
  exact ⟨rfl, rfl⟩
end Go.Proofs.YtaifmfnmgnmgbaaGreatDoor
