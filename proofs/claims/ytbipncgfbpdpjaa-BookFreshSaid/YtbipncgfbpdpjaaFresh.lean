/- Book: the law of fresh texts, walked. -/
import Derived.Test.YtbipncgfbpdpjaaHead
import Derived.Test.YtbipncgfbpdpjaaPlain
namespace Go.Proofs.Ytbipncgfbpdpjaa
open Go.RowKit Go.My

def two (i : Nat) : ByteArray := ⟨#[UInt8.ofNat i, 1]⟩
def twos (n : Nat) : List ByteArray := (List.range n).map two
theorem two_inj {i j : Nat} (hi : i < 256) (hj : j < 256) (h : two i = two j) : i = j := by
  have h1 : UInt8.ofNat i = UInt8.ofNat j := by
    unfold two at h
    injection h with h
    simpa using h
  have := congrArg UInt8.toNat h1
  simpa [Nat.mod_eq_of_lt hi, Nat.mod_eq_of_lt hj] using this
theorem twos_get {n i : Nat} (h : i < n) : (twos n)[i]? = some (two i) := by simp [twos, h]
theorem twos_nodup {n : Nat} (h : n ≤ 256) : (twos n).Nodup := by
  unfold twos
  rw [List.nodup_iff_pairwise_ne, List.pairwise_map]
  refine List.Pairwise.imp_of_mem ?_ (List.nodup_range (n := n))
  intro a b ha hb hab e
  simp at ha hb
  exact hab (two_inj (by omega) (by omega) e)
theorem twos_new {n : Nat} (h : n < 256) : asked (twos n) (two n) = twos (n + 1) ∧ placeOf (twos n) (two n) = n := by
  have hn : aget (placed (twos n)) (two n) = none := placed_none (fun hm => by
    simp [twos] at hm
    obtain ⟨a, ha, e⟩ := hm
    have := two_inj (by omega) h e
    omega)
  unfold asked placeOf
  rw [hn]
  simp [twos, List.range_succ]
theorem twos_old {n i : Nat} (h : n ≤ 256) (hi : i < n) : asked (twos n) (two i) = twos n ∧ placeOf (twos n) (two i) = i := by
  have hn := placed_some (twos_nodup h) (twos_get hi)
  unfold asked placeOf
  rw [hn]
  simp

theorem dig_two {w : World} {base b m : Nat} {v : Value} {ts : List ByteArray} (h : BookAt w base b m v ts) (i : Nat) (hi : i < 256) (hl : ts.length < 65536) (hbw : base ≤ w.heap.size) :
    Calls Try.prog 9 #[.pointer (some ⟨b, 0, none⟩), .slice (some ⟨w.heap.size, 0, none⟩) 2 2] (w.alloc (.cells #[.int .u8 (i : Int), .int .u8 1] 5))
      (DigLeft (w.alloc (.cells #[.int .u8 (i : Int), .int .u8 1] 5)) base b m v ts (two i)) := by
  have hb := h.below ((Below.refl _ w).alloc (Nat.le_refl _) (.cells #[.int .u8 (i : Int), .int .u8 1] 5))
  refine dig_any hb w.heap.size 0 2 (two i) (by show 2 ≤ 65536; omega) hl (by simp; omega) (fun j hj => ?_) (by simp) ?_ ?_
  · have hj1 : j < 2 := hj
    have : (UInt8.ofNat i).toNat = i := by simp [Nat.mod_eq_of_lt hi]
    rw [cell_of_row _ _ _ _ _ _ (heap_alloc_new w _)]
    obtain rfl | rfl : j = 0 ∨ j = 1 := by omega
    · show some (Value.int .u8 (i : Int)) = some (Value.int .u8 ((UInt8.ofNat i).toNat : Int))
      rw [this]
    · rfl
  · have := h.map.lt
    omega
  · intro e
    have := (h.row.lt _ e).2
    omega

set_option maxRecDepth 100000 in
theorem fresh_long (n : Int) (a : Option Addr) (len cap : Nat) (w : World) (hl : 200 < len) : Calls Try.prog 5 #[.int .u8 n, .slice a len cap] w fun e w' => e = .returned (.bool true) ∧ Below w.heap.size w w' := by
  go_enter Try.func5, Try.ntmps5
  go_wp2_with (go_at_call 6; refine (head_any _).mono ?_; rintro e w1 ⟨rfl, hb1⟩; have B1 := Lib.hid hb1; clear hb1)
  refine (new_any _).mono ?_
  rintro e w2 ⟨b, m, v, rfl, hs, hb⟩
  have B2 := Lib.hid hb
  clear hs hb
  go_wp2_with fail
  go_ret
  exact ⟨rfl, B1.out.trans (B2.out.mono B1.out.size)⟩

def FreshRel (w : World) (base b m : Nat) (ts : List ByteArray) (wr : World) : Prop := ∃ v, BookAt wr base b m v ts ∧ Below w.heap.size w wr ∧ base ≤ wr.heap.size

set_option maxRecDepth 100000 in
set_option maxHeartbeats 1600000 in
theorem fresh_law (n : Nat) (a : Option Addr) (s : ByteArray) (cap : Nat) (w : World) (hn : n < 256) (hl : s.size ≤ 200) (hB : BytesOf w a s) : Calls Try.prog 5 #[.int .u8 (n : Int), .slice a s.size cap] w fun e w' => e = .returned (.bool true) ∧ Below w.heap.size w w' := by
  have HB := Lib.hid hB
  clear hB
  obtain ⟨len, hlen⟩ : ∃ len, len = s.size := ⟨_, rfl⟩
  rw [← hlen] at hl ⊢
  have HL := Lib.hid hlen
  clear hlen
  go_enter Try.func5, Try.ntmps5
  go_wp2_with (go_at_call 6; refine (head_any _).mono ?_; rintro e w1 ⟨rfl, hb1⟩; have B1 := Lib.hid hb1; clear hb1)
  refine (new_any _).mono ?_
  rintro e w2 ⟨b, m, v, rfl, hs, hb⟩
  have R2 : Hid (FreshRel w w1.heap.size b m (twos 0) w2) := ⟨v, hs, B1.out.trans (hb.mono B1.out.size), hb.size⟩
  have hbase : w.heap.size ≤ w1.heap.size := B1.out.size
  clear hs hb B1
  generalize w1.heap.size = base at *
  go_wp2_with fail
  go_loopw [7] (fun i wr => ∃ k : Nat, k ≤ n ∧ i = .int .i64 k ∧ FreshRel w base b m (twos k) wr) (fun i _ => n - (intOf i).toNat)
  case atStart => exact ⟨0, by omega, rfl, R2.out⟩
  case round =>
    obtain ⟨k, hk, rfl, hr⟩ := hrel
    have HR := Lib.hid hr
    clear hr
    by_cases hlt : k < n
    · have hk256 : (k : Int) < 256 := by omega
      have hb0 : (n : Int) < 256 := by omega
      go_wp2_with fail
      obtain ⟨v1, h1, hb1, hz1⟩ := HR.out
      have HK1 := Lib.hid (twos_new (n := k) (by omega))
      refine (dig_two h1 k (by omega) (by simp [twos]; omega) hz1).mono ?_
      rintro e w3 ⟨v3, rfl, h3, t3⟩
      rw [HK1.out.1] at h3
      rw [HK1.out.2]
      have HR3 : Hid (FreshRel w base b m (twos (k + 1)) w3) := ⟨v3, h3, (hb1.alloc hb1.size _).trans (t3.below.mono hbase), by have := t3.below.size; simp at this; omega⟩
      clear h1 hb1 hz1 h3 t3
      have e1 : ((k : Int) != (k : Int)) = false := by simp
      go_wp2_with fail
      go_roundw
      case rel => exact ⟨k + 1, by omega, by go_num, HR3.out⟩
      case measure => simp [intOf]; omega
    · obtain rfl : k = n := by omega
      have hb0 : (k : Int) < 256 := by omega
      go_wp2_with fail
      go_loopw [10] (fun i wr => ∃ j : Nat, j ≤ len ∧ i = .int .i64 j ∧ FreshRel w base b m (twos k) wr) (fun i _ => len - (intOf i).toNat)
      case atStart => exact ⟨0, by omega, rfl, HR.out⟩
      case round =>
        clear HR R2
        obtain ⟨j, hj, rfl, hr⟩ := hrel
        have HR := Lib.hid hr
        clear hr
        by_cases hlt : j < len
        · have hjs : j < s.size := by have := HL.out; omega
          obtain ⟨g, o, rfl, hg, hbytes⟩ := HB.out (by omega)
          obtain ⟨x, hx⟩ : ∃ x, x = s[j].toNat := ⟨_, rfl⟩
          have hx256 : x < 256 := by rw [hx]; exact s[j].toNat_lt
          have HC : Hid (∀ W, Below w.heap.size w W → W.cell? ⟨g, o + j, none⟩ = some (.int .u8 (x : Int))) := fun W hW => (hW.cell (p := ⟨g, o + j, none⟩) hg).trans (by rw [hx]; exact hbytes j hjs)
          clear hx hbytes hjs
          have hr := HR.out
          obtain ⟨v1, h1, hb1, hz1⟩ := hr
          have hc := HC.out _ hb1
          have H1 := Lib.hid h1
          have HB1 := Lib.hid hb1
          clear h1 hb1
          by_cases hxk : x < k
          · have hx0 : ¬ (k : Int) ≤ (x : Int) := by omega
            go_wp2_with fail
            obtain ⟨q1, q2⟩ := twos_old (n := k) (i := x) (by omega) hxk
            refine (dig_two H1.out x hx256 (by simp [twos]; omega) hz1).mono ?_
            rintro e w3 ⟨v3, rfl, h3, t3⟩
            rw [q1] at h3
            rw [q2]
            have HB3 := Lib.hid ((HB1.out.alloc HB1.out.size (.cells #[.int .u8 (x : Int), .int .u8 1] 5)).trans (t3.below.mono hbase))
            have H3 := Lib.hid h3
            have hz3 : base ≤ w3.heap.size := by have := t3.below.size; simp at this; omega
            have HT := Lib.hid (fun W hW => text_at (h3.below hW) x (two x) (twos_get hxk) (w := W))
            clear h3 t3 q1 q2 hc
            have hc := HC.out _ HB3.out
            go_wp2_with fail
            refine (HT.out _ (Below.refl _ _)).mono ?_
            rintro e w4 ⟨g4, cap4, rfl, hg4, hg4', hb4, hbe4⟩
            have HB4 := Lib.hid (HB3.out.trans (hbe4.mono HB3.out.size))
            have hc4 := HC.out _ HB4.out
            have d0 := hb4 0 (by show 0 < 2; omega)
            have d0' : w4.cell? ⟨g4, 0, none⟩ = some (.int .u8 (x : Int)) := by
              rw [Nat.zero_add] at d0
              rw [d0]
              show some (Value.int .u8 ((UInt8.ofNat x).toNat : Int)) = _
              rw [show (UInt8.ofNat x).toNat = x by simp [Nat.mod_eq_of_lt hx256]]
            have HR4 : Hid (FreshRel w base b m (twos k) w4) := ⟨_, H3.out.below hbe4, HB4.out, Nat.le_trans hz3 hbe4.size⟩
            have e2 : ((two x).size : Int) = 2 := rfl
            have e1 : ((x : Int) != (x : Int)) = false := by simp
            clear hc d0 hb4 hbe4
            go_wp2_with fail
            go_quiet (fail)
            have HR5 : Hid (FreshRel w base b m (twos k) (w4.drewN nq)) := by
              obtain ⟨v5, a1, a2, a3⟩ := HR4.out
              exact ⟨v5, a1.below ⟨rfl, rfl, rfl, by simp, fun k hk => rfl⟩, a2.trans ⟨rfl, rfl, rfl, by simp, fun k hk => rfl⟩, by simpa using a3⟩
            go_wp2_with fail
            go_roundw
            case rel => exact ⟨j + 1, by omega, by go_num, HR5.out⟩
            case measure => simp [intOf]; omega
          · have hx0 : (k : Int) ≤ (x : Int) := by omega
            go_wp2_with fail
            go_roundw
            case rel => exact ⟨j + 1, by omega, by go_num, HR.out⟩
            case measure => simp [intOf]; omega
        · have HM := Lib.hid HR.out
          obtain ⟨v1, h1, hb1, hz1⟩ := HM.out
          have HMM := Lib.hid (many_any h1)
          have HB1 := Lib.hid hb1
          have e0 : ((twos k).length : Int) = (k : Int) := by simp [twos]
          rw [e0] at HMM
          clear h1 hb1 e0 HM
          go_wp2_with (go_at_call 10; refine HMM.out.mono ?_; rintro e w' ⟨rfl, rfl⟩)
          go_ret
          exact ⟨by simp, HB1.out⟩

theorem own : ownKnob Try.prog.godebug = none := by kernel_rfl
theorem laidOut : laidOutB Try.prog = true := by kernel_rfl
end Go.Proofs.Ytbipncgfbpdpjaa
