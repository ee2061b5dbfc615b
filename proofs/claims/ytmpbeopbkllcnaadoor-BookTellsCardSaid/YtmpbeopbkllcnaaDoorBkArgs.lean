/- A book: great, the arguments' rows. -/
import Derived.Test.YtmpbeopbkllcnaaDoorBkRef2
import Derived.Test.YtmpbeopbkllcnaaDoorBkHead
import Derived.Test.YtmpbeopbkllcnaaDoorSized
import Derived.Deep.Slices
namespace Go.Proofs.YtmpbeopbkllcnaaDoor.Book
open Go.RowKit Go.My Go.Deep

theorem asked_ok {ts : List ByteArray} (s : ByteArray) (hn : ts.Nodup) :
    (asked ts s).Nodup ∧ (asked ts s)[placeOf ts s]? = some s ∧ placeOf ts s < (asked ts s).length ∧ (∀ (j : Nat) x, ts[j]? = some x → (asked ts s)[j]? = some x) ∧ (asked ts s).length ≤ ts.length + 1 := by
  by_cases hm : s ∈ ts
  · obtain ⟨j, hj⟩ := List.getElem?_of_mem hm
    have h1 := placed_some hn hj
    unfold asked placeOf
    rw [h1]
    exact ⟨hn, hj, (List.getElem?_eq_some_iff.1 hj).1, fun _ _ h => h, Nat.le_succ _⟩
  · have h1 := placed_none hm
    unfold asked placeOf
    rw [h1]
    refine ⟨?_, by simp, by simp, fun j x h => ?_, by simp⟩
    · show (ts ++ [s]).Nodup
      refine List.nodup_append.2 ⟨hn, by simp, ?_⟩
      intro a ha c hc
      simp at hc
      subst hc
      rintro rfl
      exact hm ha
    · show (ts ++ [s])[j]? = some x
      rw [List.getElem?_append_left (List.getElem?_eq_some_iff.1 h).1]
      exact h
theorem nodup_get {ts : List ByteArray} (hn : ts.Nodup) {i j : Nat} {x y : ByteArray} (hi : ts[i]? = some x) (hj : ts[j]? = some y) : i = j ↔ x = y := by
  constructor
  · rintro rfl
    rw [hi] at hj
    exact Option.some.inj hj
  · rintro rfl
    exact (List.getElem?_inj (List.getElem?_eq_some_iff.1 hi).1 hn).1 (hi.trans hj.symm)

/-- A slice of bytes among the arguments. -/
def RowB (w : World) (cs : List Value) (s : ByteArray) : Prop := ∃ a cap, cs = [.slice a s.size cap] ∧ s.size ≤ maxLen ∧ BSrc w a cap s
theorem row_at {w : World} {a : Option Addr} {l : List ByteArray} (h : ListAt w a 1 RowB l) {k : Nat} {s : ByteArray} (hk : l[k]? = some s) :
    ∃ b off sa cap, a = some ⟨b, off, none⟩ ∧ b < w.heap.size ∧ w.cell? ⟨b, off + k, none⟩ = some (.slice sa s.size cap) ∧ s.size ≤ maxLen ∧ BSrc w sa cap s := by
  obtain ⟨b, off, cs, ha, hb, _, hc, sa, cap, rfl, hm, hB⟩ := h k s hk
  have := hc 0 _ rfl
  rw [Nat.mul_one, Nat.add_zero] at this
  exact ⟨b, off, sa, cap, ha, hb, this, hm, hB⟩
def IntB (_ : World) (cs : List Value) (z : Int) : Prop := cs = [.int .i64 z]
theorem ask_at {w : World} {a : Option Addr} {l : List Int} (h : ListAt w a 1 IntB l) {k : Nat} {z : Int} (hk : l[k]? = some z) :
    ∃ b off, a = some ⟨b, off, none⟩ ∧ b < w.heap.size ∧ w.cell? ⟨b, off + k, none⟩ = some (.int .i64 z) := by
  obtain ⟨b, off, cs, ha, hb, _, hc, rfl⟩ := h k z hk
  have := hc 0 _ rfl
  rw [Nat.mul_one, Nat.add_zero] at this
  exact ⟨b, off, ha, hb, this⟩
section
variable {H : Type} {enc : TypeId × Value → H} {w : World} {base : Nat} {spare : Nat → Bool} {held : Bool}
theorem open_texts {fuel len cap : Nat} {a : Option Addr} {x : DataW H × List MemPlace} (h : DataW.trod enc Tryd.prog w base spare held fuel 49 [.slice a len cap] = some x) (_ : Within Tryd.prog 49 x.1) :
    ∃ l : List ByteArray, l.length = len ∧ ListAt w a 1 RowB l ∧ l.length ≤ maxLen := by
  obtain ⟨l, h1, h2, h3, h4⟩ := open_list (c := 1) (R := RowB) Tryd.underlying49 (by kernel_rfl) (by omega) (fun n cs d hl hd => by
    rcases open_slice Tryd.underlying56 hd with ⟨rfl, _⟩ | ⟨ad, len', cap', m, n, D, Pl, rfl, _⟩
    · exact ⟨⟨#[]⟩, none, 0, rfl, Nat.zero_le _, fun h0 => absurd rfl h0, fun _ => rfl⟩
    · obtain ⟨s, hs, h1, h2, h3⟩ := open_bytes Tryd.underlying56 Tryd.underlying5 (by kernel_rfl) hd
      exact ⟨s, some ad, cap', by rw [hs], by omega, h3, fun h => by cases h⟩) h
  exact ⟨l, h1, h4, by omega⟩
theorem open_asks {fuel len cap : Nat} {a : Option Addr} {x : DataW H × List MemPlace} (h : DataW.trod enc Tryd.prog w base spare held fuel 44 [.slice a len cap] = some x) (_ : Within Tryd.prog 44 x.1) :
    ∃ l : List Int, l.length = len ∧ ListAt w a 1 IntB l ∧ l.length ≤ maxLen := by
  obtain ⟨l, h1, h2, h3, h4⟩ := open_list (c := 1) (R := IntB) Tryd.underlying44 (by kernel_rfl) (by omega) (fun n cs d hl hd => by
    obtain ⟨z, hz, _, _⟩ := DataW.trod_int Tryd.underlying3 hd
    exact ⟨z, hz⟩) h
  exact ⟨l, h1, h4, by omega⟩
end
def GreatLeft (w : World) (l : List ByteArray) (e : Ending) (w' : World) : Prop := ∃ g : Bool, e = .returned (.bool g) ∧ (g = false → l.length ≤ 300 ∧ ∀ s ∈ l, s.size < 300000) ∧ w = w'
set_option maxRecDepth 100000 in
set_option maxHeartbeats 800000 in
theorem great_any (a : Option Addr) (l : List ByteArray) (cap : Nat) (w w0 : World) (ha : ListAt w0 a 1 RowB l) (hw : Below w0.heap.size w0 w) (hm : l.length ≤ maxLen) :
    Calls Tryd.prog 20 #[.slice a l.length cap] w (GreatLeft w l) := by
  unfold maxLen at hm
  have HA := Lib.hid ha
  have HW := Lib.hid hw
  clear ha hw
  obtain ⟨len, hlen⟩ : ∃ len, len = l.length := ⟨_, rfl⟩
  have HL := Lib.hid hlen
  rw [← hlen] at hm ⊢
  clear hlen
  go_enter Tryd.func20, Tryd.ntmps20
  go_wp2_with fail
  go_loop [3, 4] (fun n i => ∃ (k : Nat) (c : Int), k ≤ len ∧ i = .int .i64 k ∧ n = .int .i64 c ∧ 0 ≤ c ∧ c < 900000 ∧ Hid (∀ (j : Nat) s, j < k → l[j]? = some s → (min s.size 300000 : Int) ≤ c)) (fun _ i => len - (intOf i).toNat)
  case atStart => exact ⟨0, 0, by omega, rfl, rfl, by omega, by omega, fun j s h => by omega⟩
  case round =>
    obtain ⟨k, c, hk, rfl, rfl, hc0, hc, HC⟩ := hrel
    by_cases hlt : k < len
    · have hok : l[k]? = some (l[k]'(by rw [← HL.out]; exact hlt)) := List.getElem?_eq_getElem _
      obtain ⟨s, hs⟩ : ∃ s, s = l[k]'(by rw [← HL.out]; exact hlt) := ⟨_, rfl⟩
      rw [← hs] at hok
      obtain ⟨ab, off, sa, scap, rfl, hbl, d0, hsm, _⟩ := row_at HA.out hok
      have c0 : w.cell? ⟨ab, off + k, none⟩ = some (.slice sa s.size scap) := (HW.out.cell (p := ⟨ab, off + k, none⟩) hbl).trans d0
      have HK := Lib.hid hok
      unfold maxLen at hsm
      clear hs hok hbl d0
      obtain ⟨z, hz⟩ : ∃ z, z = s.size := ⟨_, rfl⟩
      rw [← hz] at c0 hsm
      have HZ := Lib.hid hz
      clear hz
      have HN : Hid (∀ c' : Int, c + 10 + min (z : Int) 300000 = c' → ∀ (j : Nat) s, j < k + 1 → l[j]? = some s → (min s.size 300000 : Int) ≤ c') := by
        intro c' hc' j t hj ht
        by_cases e : j = k
        · subst e
          rw [HK.out] at ht
          cases ht
          rw [← HZ.out]
          omega
        · have := HC.out j t (by omega) ht
          omega
      by_cases hc2 : c < 300000
      · go_wp2_with fail
        go_round
        case rel => exact ⟨k + 1, c + 10 + min (z : Int) 300000, by omega, by go_num, by go_num, by omega, by omega, HN.out _ rfl⟩
        case measure => simp [intOf]; omega
      · go_wp2_with fail
        go_ret
        exact ⟨true, rfl, (fun h => by cases h), rfl⟩
    · have HF : Hid (c < 300000 → ∀ s ∈ l, s.size < 300000) := by
        intro hc3 s hs
        obtain ⟨j, hj⟩ := List.getElem?_of_mem hs
        have hjl := (List.getElem?_eq_some_iff.1 hj).1
        have := HC.out j s (by have := HL.out; omega) hj
        omega
      by_cases hc2 : c < 300000
      · go_wp2_with fail
        go_ret
        refine ⟨_, rfl, fun h => ?_, rfl⟩
        simp at h
        exact ⟨by have := HL.out; omega, HF.out hc2⟩
      · go_wp2_with fail
        go_ret
        exact ⟨true, rfl, (fun h => by cases h), rfl⟩
end Go.Proofs.YtmpbeopbkllcnaaDoor.Book
