/- A route: the short functions. -/
import Derived.Test.YtemgcliihbjjiaaDoorRat
namespace Go.Proofs.YtemgcliihbjjiaaDoor
open Go.RowKit Go.My

set_option maxRecDepth 100000 in
set_option maxHeartbeats 1600000 in
theorem unfit_25 (x : Pc) (w : World) : Calls Tryd.prog 25 #[pcA x] w (BoolLeft w (!fitB x)) := by
  have HB : Hid (Below w.heap.size w (w.alloc (.cells #[.string x.fr, .int .i64 x.sh, .int .i64 x.ep] 35))) := (Below.refl _ w).alloc (Nat.le_refl _) _
  unfold pcA
  have HE : Hid ((!fitB x) = !(decide (x.fr.size ≤ 16) && decide (0 ≤ x.sh) && decide (x.sh < 4) && decide (1 ≤ x.ep) && decide (x.ep ≤ 1099511627776))) := Lib.hid rfl
  obtain ⟨b, hb⟩ : ∃ b, b = !fitB x := ⟨_, rfl⟩
  rw [← hb] at HE ⊢
  clear hb
  by_cases h1 : x.fr.size ≤ 16
  · have e1 : ¬ (16 : Int) < x.fr.size := by omega
    by_cases h2 : 0 ≤ x.sh
    · have e2 : ¬ x.sh < 0 := by omega
      by_cases h3 : x.sh < 4
      · have e3 : ¬ 4 ≤ x.sh := by omega
        by_cases h4 : 1 ≤ x.ep
        · have e4 : ¬ x.ep < 1 := by omega
          have HV : Hid (b = decide (1099511627776 < x.ep)) := Lib.hid (by
            rw [HE.out, decide_eq_true h1, decide_eq_true h2, decide_eq_true h3, decide_eq_true h4]
            by_cases h5 : x.ep ≤ 1099511627776 <;> simp [h5] <;> omega)
          rw [HV.out]
          clear HV HE h1 h2 h3 h4
          go_enter Tryd.func25, Tryd.ntmps25
          go_wp2_with fail
          go_ret
          exact ⟨rfl, HB.out⟩
        · have e4 : x.ep < 1 := by omega
          have HV : Hid (b = true) := Lib.hid (by rw [HE.out]; simp [h4])
          rw [HV.out]
          clear HV HE h1 h2 h3 h4
          go_enter Tryd.func25, Tryd.ntmps25
          go_wp2_with fail
          go_ret
          exact ⟨rfl, HB.out⟩
      · have e3 : 4 ≤ x.sh := by omega
        have HV : Hid (b = true) := Lib.hid (by rw [HE.out]; simp [h3])
        rw [HV.out]
        clear HV HE h1 h2 h3
        go_enter Tryd.func25, Tryd.ntmps25
        go_wp2_with fail
        go_ret
        exact ⟨rfl, HB.out⟩
    · have e2 : x.sh < 0 := by omega
      have HV : Hid (b = true) := Lib.hid (by rw [HE.out]; simp [h2])
      rw [HV.out]
      clear HV HE h1 h2
      go_enter Tryd.func25, Tryd.ntmps25
      go_wp2_with fail
      go_ret
      exact ⟨rfl, HB.out⟩
  · have e1 : (16 : Int) < x.fr.size := by omega
    have HV : Hid (b = true) := Lib.hid (by rw [HE.out]; simp [h1])
    rw [HV.out]
    clear HV HE h1
    go_enter Tryd.func25, Tryd.ntmps25
    go_wp2_with fail
    go_ret
    exact ⟨rfl, HB.out⟩
set_option maxRecDepth 100000 in
theorem behind_46 (x : Pc) (k : ByteArray) (kb : Nat) (w : World) (hk : w.heap[kb]? = some (.cells #[.string k] 9 (0, 0))) :
    Calls Tryd.prog 46 #[pcA x, .pointer (some ⟨kb, 0, none⟩)] w (BoolLeft w (lessK k x.fr)) := by
  have HB : Hid (Below w.heap.size w (w.alloc (.cells #[.string x.fr, .int .i64 x.sh, .int .i64 x.ep] 35))) := (Below.refl _ w).alloc (Nat.le_refl _) _
  have q : w.cell? ⟨kb, 0, none⟩ = some (.string k) := by rw [cell_of_row _ _ _ _ _ _ hk]; rfl
  have lk := lt_of_heap hk
  have HE := Lib.hid (gtK x.fr k)
  unfold pcA
  clear hk
  go_enter Tryd.func46, Tryd.ntmps46
  go_wp2_with fail
  go_ret
  exact ⟨by rw [← HE.out]; rfl, HB.out⟩
set_option maxRecDepth 100000 in
theorem last_30 (x : Pc) (w : World) : Calls Tryd.prog 30 #[pcA x] w (BoolLeft w (decide (x.ep = 1099511627776))) := by
  have HB : Hid (Below w.heap.size w (w.alloc (.cells #[.string x.fr, .int .i64 x.sh, .int .i64 x.ep] 35))) := (Below.refl _ w).alloc (Nat.le_refl _) _
  unfold pcA
  go_enter Tryd.func30, Tryd.ntmps30
  go_wp2_with fail
  go_ret
  exact ⟨rfl, HB.out⟩
theorem idx_any (l : List Pc) (p : Pc → Bool) : decide (0 ≤ idx l p) = l.any p := by
  unfold idx
  cases h : l.any p with
  | true =>
    have : l.findIdx p < l.length := by
      rw [List.findIdx_lt_length]
      simpa using h
    rw [if_pos this]
    simp
  | false =>
    rw [List.findIdx_eq_length.2 (fun x hx => by rw [List.any_eq_false] at h; simpa using h x hx), if_neg (by omega)]
    rfl
set_option maxRecDepth 100000 in
theorem full_29 (a : Option Addr) (cap : Nat) (l : List Pc) (w : World) (ha : Lies w a 3 pcL l) (hl : l.length ≤ 100000) :
    Calls Tryd.prog 29 #[.slice a l.length cap, .func (.func 30) #[] #[]] w (BoolLeft w (fullB l)) := by
  have HC := Lib.hid (index_24_30 a cap l w (fun x => decide (x.ep = 1099511627776)) ha hl (fun r W _ => last_30 r W))
  have HE : Hid (fullB l = decide (0 ≤ idx l fun x => decide (x.ep = 1099511627776))) := Lib.hid (idx_any l _).symm
  obtain ⟨z, hz⟩ : ∃ z, z = idx l fun x => decide (x.ep = 1099511627776) := ⟨_, rfl⟩
  obtain ⟨n, hn⟩ : ∃ n, n = l.length := ⟨_, rfl⟩
  rw [← hz] at HC HE
  rw [← hn] at HC ⊢
  clear ha hl hz hn
  go_enter Tryd.func29, Tryd.ntmps29
  go_wp2_with fail
  refine HC.out.mono ?_
  rintro e w1 ⟨rfl, hb⟩
  have HB := Lib.hid hb
  clear hb
  go_wp2_with fail
  go_ret
  exact ⟨by rw [HE.out]; rfl, HB.out⟩
set_option maxRecDepth 100000 in
theorem ranged_27 (f t : ByteArray) (w : World) : Calls Tryd.prog 27 #[.string f, .string t] w fun e w' => e = .returned (.bool (rangedB f t)) ∧ w = w' := by
  have HE : Hid (rangedB f t = (decide (f.size ≤ 16) && decide (t.size ≤ 16) && (decide (t.size = 0) || lessK f t))) := Lib.hid rfl
  obtain ⟨b, hb⟩ : ∃ b, b = rangedB f t := ⟨_, rfl⟩
  rw [← hb] at HE ⊢
  clear hb
  by_cases h1 : f.size ≤ 16
  · have e1 : (f.size : Int) ≤ 16 := by omega
    by_cases h2 : t.size ≤ 16
    · have e2 : (t.size : Int) ≤ 16 := by omega
      by_cases h3 : t.size = 0
      · obtain rfl := size_empty h3
        have HV : Hid (b = true) := Lib.hid (by rw [HE.out]; simp [h1])
        rw [HV.out]
        clear HV HE h1 h2 h3
        go_enter Tryd.func27, Tryd.ntmps27
        go_wp2_with fail
        go_ret
        exact ⟨rfl, rfl⟩
      · have e4 := empty_ne h3
        have HV : Hid (b = lessK f t) := Lib.hid (by rw [HE.out]; simp [h1, h2, h3])
        rw [HV.out]
        clear HV HE h1 h2 h3
        go_enter Tryd.func27, Tryd.ntmps27
        go_wp2_with fail
        go_ret
        exact ⟨rfl, rfl⟩
    · have e2 : ¬ (t.size : Int) ≤ 16 := by omega
      have HV : Hid (b = false) := Lib.hid (by rw [HE.out]; simp [h2])
      rw [HV.out]
      clear HV HE h1 h2
      go_enter Tryd.func27, Tryd.ntmps27
      go_wp2_with fail
      go_ret
      exact ⟨rfl, rfl⟩
  · have e1 : ¬ (f.size : Int) ≤ 16 := by omega
    have HV : Hid (b = false) := Lib.hid (by rw [HE.out]; simp [h1])
    rw [HV.out]
    clear HV HE h1
    go_enter Tryd.func27, Tryd.ntmps27
    go_wp2_with fail
    go_ret
    exact ⟨rfl, rfl⟩

/-! ### a route -/
structure RtAt (w : World) (r : Nat) (a : Option Addr) (cap : Nat) (l : List Pc) : Prop where
  cell : w.heap[r]? = some (.cells #[.slice a l.length cap] 62 (0, 0))
  src : SrcAny w a cap l
  ok : Ok l
theorem RtAt.below {w w' : World} {r : Nat} {a : Option Addr} {cap : Nat} {l : List Pc} (h : RtAt w r a cap l) (hb : Below w.heap.size w w') : RtAt w' r a cap l :=
  ⟨(hb.block _ (lt_of_heap h.cell)).trans h.cell, h.src.below hb, h.ok⟩
theorem RtAt.c0 {w : World} {r : Nat} {a : Option Addr} {cap : Nat} {l : List Pc} (h : RtAt w r a cap l) : w.cell? ⟨r, 0, none⟩ = some (.slice a l.length cap) := by
  rw [cell_of_row _ _ _ _ _ _ h.cell]; rfl
set_option maxRecDepth 100000 in
set_option maxHeartbeats 1600000 in
theorem place_34 (r : Nat) (a : Option Addr) (cap : Nat) (l : List Pc) (k : ByteArray) (w : World) (h : RtAt w r a cap l) :
    Calls Tryd.prog 34 #[.pointer (some ⟨r, 0, none⟩), .string k] w (IdxLeft w (pl l k : Nat)) := by
  obtain ⟨W1, hW1⟩ : ∃ W1, W1 = w.alloc (.cells #[.string k] 9) := ⟨_, rfl⟩
  have hb1 : Below w.heap.size w W1 := by rw [hW1]; exact (Below.refl _ w).alloc (Nat.le_refl _) _
  have hk : W1.heap[w.heap.size]? = some (.cells #[.string k] 9 (0, 0)) := by rw [hW1]; exact heap_alloc_new w _
  have HC := Lib.hid (index_24_46 (some ⟨w.heap.size, 0, none⟩) a cap l W1 (fun x => lessK k x.fr) (h.src.lies.below hb1) (by have := h.ok.len; omega)
    (fun x W hb => behind_46 x k _ W ((hb.block _ (lt_of_heap hk)).trans hk)))
  have c0 := h.c0
  have lr := lt_of_heap h.cell
  have HB1 := Lib.hid hb1
  have hp := nx_pos h.ok k
  have hle := nx_le l k
  have hlen := h.ok.len
  obtain ⟨p, hp2⟩ : ∃ p, p = pl l k := ⟨_, rfl⟩
  have hp3 : p + 1 = nx l k := by rw [hp2]; unfold pl; omega
  rw [← hp2]
  obtain ⟨z, hz⟩ : ∃ z, z = idx l fun x => lessK k x.fr := ⟨_, rfl⟩
  rw [← hz] at HC
  obtain ⟨n, hn⟩ : ∃ n, n = l.length := ⟨_, rfl⟩
  obtain ⟨q, hq⟩ : ∃ q, q = nx l k := ⟨_, rfl⟩
  have e1 : IntKind.i64.wrap ((q : Int) - 1) = (p : Int) := by
    rw [IntWalk.i64_in _ (by omega)]; omega
  rw [← hn] at HC c0 hle hlen
  rw [← hq] at hle hp hp3
  have hz2 : z = if q < n then (q : Int) else -1 := by rw [hz, hq, hn]; rfl
  by_cases hlt : q < n
  · rw [if_pos hlt] at hz2
    subst hz2
    have hz0 : ¬ (q : Int) < 0 := by omega
    clear h hb1 hk hp2 hz hn hq hp hle hlen hp3
    go_enter Tryd.func34, Tryd.ntmps34
    go_wp2_with fail
    rw [← hW1]
    refine HC.out.mono ?_
    rintro e w2 ⟨rfl, hb2⟩
    have HB2 := Lib.hid (HB1.out.trans (hb2.mono HB1.out.size))
    clear hb2
    go_wp2_with fail
    go_ret
    exact ⟨rfl, HB2.out⟩
  · rw [if_neg hlt] at hz2
    subst hz2
    obtain rfl : q = n := by omega
    clear h hb1 hk hp2 hz hn hq hp hle hlen hp3
    go_enter Tryd.func34, Tryd.ntmps34
    go_wp2_with fail
    rw [← hW1]
    refine HC.out.mono ?_
    rintro e w2 ⟨rfl, hb2⟩
    have HB2 := Lib.hid (HB1.out.trans (hb2.mono HB1.out.size))
    have c1 := (HB2.out.cell (p := ⟨r, 0, none⟩) lr).trans c0
    have lr1 := Nat.lt_of_lt_of_le lr HB2.out.size
    clear hb2
    go_wp2_with fail
    go_ret
    exact ⟨rfl, HB2.out⟩
end Go.Proofs.YtemgcliihbjjiaaDoor
