/- Locks: the calls among the arguments; whether it is too much; rows of keys told alike. -/
import Derived.Test.YtfojgghnkjmjhaaDoorLkLock
import Derived.Test.YtfojgghnkjmjhaaDoorSized
import Derived.Deep.Slices
namespace Go.Proofs.YtfojgghnkjmjhaaDoor.Locks
open Go.RowKit Go.My Go.Deep

/-- a call -/
structure LOp where
  what : Int
  who : Int
  keys : List ByteArray
def OpR (w : World) (cs : List Value) (x : LOp) : Prop := ∃ a cap, cs = [.int .i64 x.what, .int .i64 x.who, .slice a x.keys.length cap] ∧ StrsAt w a x.keys ∧ x.keys.length ≤ maxLen ∧ (Lit.int .i64 x.what).wf = true
abbrev OpsAt (w : World) (a : Option Addr) (l : List LOp) : Prop := ListAt w a 3 OpR l
theorem OpR.below {w w' : World} (hb : Below w.heap.size w w') (cs : List Value) (x : LOp) (h : OpR w cs x) : OpR w' cs x := by
  obtain ⟨a, cap, h1, h2, h3⟩ := h
  exact ⟨a, cap, h1, h2.below hb, h3⟩
theorem OpsAt.below {w w' : World} {a : Option Addr} {l : List LOp} (h : OpsAt w a l) (hb : Below w.heap.size w w') : OpsAt w' a l := ListAt.below h (OpR.below hb) hb
/-- a call's three cells -/
theorem OpsAt.at {w : World} {a : Option Addr} {l : List LOp} (h : OpsAt w a l) {i : Nat} {x : LOp} (hi : l[i]? = some x) :
    ∃ g o ka cap, a = some ⟨g, o, none⟩ ∧ g < w.heap.size ∧ w.cell? ⟨g, o + i * 3, none⟩ = some (.int .i64 x.what) ∧ w.cell? ⟨g, o + i * 3 + 1, none⟩ = some (.int .i64 x.who) ∧ w.cell? ⟨g, o + i * 3 + 2, none⟩ = some (.slice ka x.keys.length cap) ∧ StrsAt w ka x.keys ∧ x.keys.length ≤ maxLen ∧ (Lit.int .i64 x.what).wf = true := by
  obtain ⟨g, o, cs, h1, h2, h3, h4, ka, cap, rfl, h5, h6, h7⟩ := h i x hi
  exact ⟨g, o, ka, cap, h1, h2, h4 0 _ rfl, h4 1 _ rfl, h4 2 _ rfl, h5, h6, h7⟩
theorem lthree {α : Type} : ∀ {l : List α}, l.length = 3 → ∃ a b c, l = [a, b, c]
  | [a, b, c], _ => ⟨a, b, c, rfl⟩
section
variable {H : Type} {enc : TypeId × Value → H} {w : World} {base : Nat} {spare : Nat → Bool} {held : Bool}
theorem open_keys {fuel len cap : Nat} {a : Option Addr} {x : DataW H × List MemPlace} (h : DataW.trod enc Tryd.prog w base spare held fuel 31 [.slice a len cap] = some x) (_ : Within Tryd.prog 31 x.1) :
    ∃ l : List ByteArray, l.length = len ∧ StrsAt w a l ∧ l.length ≤ maxLen := by
  obtain ⟨l, h1, h2, h3, h4⟩ := open_list (c := 1) (R := fun _ cs (s : ByteArray) => cs = strL s) Tryd.underlying31 (by kernel_rfl) (by omega) (fun n cs d hl hd => by
    obtain ⟨z, hz, _, _⟩ := DataW.trod_string Tryd.underlying9 hd
    exact ⟨z, hz⟩) h
  exact ⟨l, h1, lies_of_list h4 (fun _ _ h => h), by omega⟩
set_option maxRecDepth 100000 in
theorem open_lops {fuel len cap : Nat} {a : Option Addr} {x : DataW H × List MemPlace} (h : DataW.trod enc Tryd.prog w base spare held fuel 22 [.slice a len cap] = some x) (_ : Within Tryd.prog 22 x.1) :
    ∃ L : List LOp, L.length = len ∧ OpsAt w a L ∧ L.length ≤ maxLen := by
  obtain ⟨L, h1, h4, h5, h3⟩ := open_list (R := OpR) (c := 3) Tryd.underlying22 (by kernel_rfl) (by omega) (fun n cs d hl hd => by
    obtain ⟨v0, v1, v2, rfl⟩ := lthree hl
    have hone : oneCellFields Tryd.prog (Tryd.prog.fieldsOf 33) = true := by kernel_rfl
    have hfs : Tryd.prog.underlying 33 = some (.struct (Tryd.prog.fieldsOf 33)) := by kernel_rfl
    obtain ⟨z0, rfl, s0⟩ := field_int hfs hone hd 0 _ v0 rfl rfl Tryd.underlying3
    obtain ⟨z1, rfl, s1⟩ := field_int hfs hone hd 1 _ v1 rfl rfl Tryd.underlying3
    obtain ⟨k, y, hk⟩ := open_field hfs hone hd 2 _ v2 rfl rfl
    rcases open_slice Tryd.underlying31 hk with ⟨e, _⟩ | ⟨ad, len', cap', m, n', D, Pl, e, _⟩
    · obtain rfl : v2 = .slice none 0 0 := by simpa using e
      exact ⟨⟨z0, z1, []⟩, none, 0, rfl, LiesAt.nil _ _ _ _, Nat.zero_le _, s0⟩
    · obtain rfl : v2 = .slice (some ad) len' cap' := by simpa using e
      obtain ⟨ks, q1, q2, q3, q4⟩ := open_list (c := 1) (R := fun _ cs (s : ByteArray) => cs = strL s) Tryd.underlying31 (by kernel_rfl) (by omega) (fun n cs d hl hd => by
        obtain ⟨z, hz, _, _⟩ := DataW.trod_string Tryd.underlying9 hd
        exact ⟨z, hz⟩) hk
      exact ⟨⟨z0, z1, ks⟩, some ad, cap', by rw [q1], lies_of_list q4 (fun _ _ h => h), by show ks.length ≤ _; omega, s0⟩) h
  exact ⟨L, h1, h3, by omega⟩
end

def GreatLeft (w : World) (l : List LOp) (e : Ending) (w' : World) : Prop := ∃ g : Bool, e = .returned (.bool g) ∧ (g = false → l.length ≤ 600 ∧ ∀ x ∈ l, x.keys.length < 3000) ∧ w = w'
set_option maxRecDepth 100000 in
set_option maxHeartbeats 800000 in
theorem great_any (a : Option Addr) (l : List LOp) (cap : Nat) (w w0 : World) (ha : OpsAt w0 a l) (hw : Below w0.heap.size w0 w) (hm : l.length ≤ maxLen) :
    Calls Tryd.prog 6 #[.slice a l.length cap] w (GreatLeft w l) := by
  unfold maxLen at hm
  have HA := Lib.hid (ha.below hw)
  clear ha hw
  obtain ⟨len, hlen⟩ : ∃ len, len = l.length := ⟨_, rfl⟩
  have HL := Lib.hid hlen
  rw [← hlen] at hm ⊢
  clear hlen
  go_enter Tryd.func6, Tryd.ntmps6
  go_wp2_with fail
  go_loop [3, 4] (fun n i => ∃ (k : Nat) (c : Int), k ≤ len ∧ i = .int .i64 k ∧ n = .int .i64 c ∧ 5 * (k : Int) ≤ c ∧ c < 9000 ∧ Hid (∀ (j : Nat) x, j < k → l[j]? = some x → (min x.keys.length 3000 : Int) ≤ c)) (fun _ i => len - (intOf i).toNat)
  case atStart => exact ⟨0, 0, by omega, rfl, rfl, by omega, by omega, fun j s h => by omega⟩
  case round =>
    obtain ⟨k, c, hk, rfl, rfl, hc0, hc, HC⟩ := hrel
    by_cases hlt : k < len
    · obtain ⟨x, hx⟩ : ∃ x, l[k]? = some x := ⟨_, List.getElem?_eq_getElem (by rw [← HL.out]; exact hlt)⟩
      obtain ⟨ab, off, ka, kcap, rfl, hbl, _, _, c0, _, hsm, _⟩ := HA.out.at hx
      have HK := Lib.hid hx
      unfold maxLen at hsm
      clear hx hbl
      obtain ⟨z, hz⟩ : ∃ z, z = x.keys.length := ⟨_, rfl⟩
      rw [← hz] at c0 hsm
      have HZ := Lib.hid hz
      clear hz
      have HN : Hid (∀ c' : Int, c + 5 + min (z : Int) 3000 = c' → ∀ (j : Nat) x, j < k + 1 → l[j]? = some x → (min x.keys.length 3000 : Int) ≤ c') := by
        intro c' hc' j t hj ht
        by_cases e : j = k
        · subst e
          rw [HK.out] at ht
          cases ht
          rw [← HZ.out]
          omega
        · have := HC.out j t (by omega) ht
          omega
      by_cases hc2 : c < 3000
      · go_wp2_with fail
        go_round
        case rel => exact ⟨k + 1, c + 5 + min (z : Int) 3000, by omega, by go_num, by go_num, by omega, by omega, HN.out _ rfl⟩
        case measure => simp [intOf]; omega
      · go_wp2_with fail
        go_ret
        exact ⟨true, rfl, (fun h => by cases h), rfl⟩
    · have HF : Hid (c < 3000 → ∀ x ∈ l, x.keys.length < 3000) := by
        intro hc3 x hs
        obtain ⟨j, hj⟩ := List.getElem?_of_mem hs
        have hjl := (List.getElem?_eq_some_iff.1 hj).1
        have := HC.out j x (by have := HL.out; omega) hj
        omega
      by_cases hc2 : c < 3000
      · go_wp2_with fail
        go_ret
        refine ⟨_, rfl, fun h => ?_, rfl⟩
        simp at h
        exact ⟨by have := HL.out; omega, HF.out hc2⟩
      · go_wp2_with fail
        go_ret
        exact ⟨true, rfl, (fun h => by cases h), rfl⟩

set_option maxRecDepth 100000 in
set_option maxHeartbeats 1600000 in
theorem samekeys_any (a b : Option Addr) (n c d : Nat) (R : List ByteArray) (w : World) (ha : StrsAt w a R) (hb : StrsAt w b R) (hn : n = R.length) (hl : (n : Int) ≤ 10000) :
    Calls Tryd.prog 19 #[.slice a n c, .slice b n d] w fun e w' => e = .returned (.bool true) ∧ Below w.heap.size w w' := by
  have HA := Lib.hid ha
  have HB := Lib.hid hb
  have HN := Lib.hid hn
  have P0 : Hid (Below w.heap.size w w) := Below.refl _ _
  clear ha hb hn
  go_enter Tryd.func19, Tryd.ntmps19
  go_wp2_with fail
  go_loopw [5] (fun i wr => ∃ j : Nat, j ≤ n ∧ i = .int .i64 j ∧ Hid (Below w.heap.size w wr)) (fun i _ => n - (intOf i).toNat)
  case atStart => exact ⟨0, by omega, rfl, P0⟩
  case round =>
    clear P0
    obtain ⟨j, hj, rfl, HW⟩ := hrel
    by_cases hlt : j < n
    · obtain ⟨x, hx⟩ : ∃ x, R[j]? = some x := ⟨_, List.getElem?_eq_getElem (by rw [← HN.out]; exact hlt)⟩
      obtain ⟨g, o, rfl, hg, d0⟩ := StrsAt.cell (HA.out.below HW.out) hx
      obtain ⟨g2, o2, rfl, hg2, e0⟩ := StrsAt.cell (HB.out.below HW.out) hx
      have hj0 : (0 : Int) ≤ (j : Int) := by omega
      have hj1 : (j : Int) < (n : Int) := by omega
      have HD : Hid (∀ q, Below w.heap.size w (wr.drewN q)) := fun q => ⟨HW.out.os, HW.out.tape, HW.out.output, HW.out.size, HW.out.block⟩
      clear hx hg hg2
      go_wp2_with fail
      go_quiet (fail)
      go_wp2_with fail
      exact ⟨⟨j + 1, by omega, by simp, HD.out _⟩, by simp [intOf]; omega⟩
    · obtain rfl : j = n := by omega
      go_wp2_with fail
      go_ret
      exact ⟨rfl, HW.out⟩
end Go.Proofs.YtfojgghnkjmjhaaDoor.Locks
