/- Txn: is a key among some? -/
import Derived.Test.YtaifmfnmgnmgbaaGreatDoorTxRd
import Derived.Test.YtaifmfnmgnmgbaaGreatDoorStA
import Derived.Test.YtaifmfnmgnmgbaaGreatDoorBase
namespace Go.Proofs.YtaifmfnmgnmgbaaGreatDoor.Txn
open Go.RowKit Go.My

def strL (s : ByteArray) : List Value := [.string s]
def hasB (K : List ByteArray) (k : ByteArray) : Bool := K.any fun y => decide (y = k)
theorem hasB_none {K : List ByteArray} {k : ByteArray} (h : ∀ (i : Nat) y, K[i]? = some y → y ≠ k) : hasB K k = false := by
  unfold hasB
  rw [List.any_eq_false]
  intro y hy
  obtain ⟨i, hi⟩ := List.getElem?_of_mem hy
  simpa using h i y hi
theorem hasB_yes {K : List ByteArray} {k : ByteArray} {i : Nat} (h : K[i]? = some k) : hasB K k = true := by
  unfold hasB
  rw [List.any_eq_true]
  exact ⟨k, List.mem_of_getElem? h, by simp⟩
def IdxS (w : World) (K : List ByteArray) (k : ByteArray) (e : Ending) (w' : World) : Prop := w' = w ∧ ((∃ i : Nat, e = .returned (.int .i64 i) ∧ K[i]? = some k) ∨ (e = .returned (.int .i64 (-1)) ∧ ∀ (i : Nat) y, K[i]? = some y → y ≠ k))
set_option maxRecDepth 100000 in
set_option maxHeartbeats 1600000 in
theorem index_str (a : Option Addr) (c : Nat) (K : List ByteArray) (k : ByteArray) (w : World) (h : LiesAt w a 1 strL K) (hl : K.length ≤ 100000) :
    Calls Tryz.prog 116 #[.slice a K.length c, .string k] w (IdxS w K k) := by
  have HL := Lib.hid h
  obtain ⟨n, hn⟩ : ∃ n, n = K.length := ⟨_, rfl⟩
  have HN := Lib.hid hn
  rw [← hn] at hl ⊢
  have hn9 : (n : Int) ≤ 100000 := by omega
  have P0 : Hid (∀ (i : Nat) y, i < 0 → K[i]? = some y → y ≠ k) := fun i y hi => by omega
  clear h hn hl
  go_enter Tryz.func116, Tryz.ntmps116
  go_wp2_with fail
  go_loopw [8] (fun i W => ∃ j : Nat, j ≤ n ∧ i = .int .i64 j ∧ W = w ∧ Hid (∀ (i : Nat) y, i < j → K[i]? = some y → y ≠ k)) (fun i _ => n - (intOf i).toNat)
  case atStart => exact ⟨0, by omega, rfl, rfl, P0⟩
  case round =>
    clear P0
    obtain ⟨j, hj, rfl, rfl, HJ⟩ := hrel
    by_cases hlt : j < n
    · obtain ⟨x, hx⟩ : ∃ x, K[j]? = some x := ⟨_, List.getElem?_eq_getElem (by rw [← HN.out]; exact hlt)⟩
      obtain ⟨g, o, rfl, lg, d0⟩ := LiesAt.at1 (e := fun s => .string s) HL.out hx
      have HX := Lib.hid hx
      have hj0 : (0 : Int) ≤ (j : Int) := by omega
      have hj1 : (j : Int) < (n : Int) := by omega
      clear hx lg
      by_cases hk : x = k
      · have hkk : (k.toList == x.toList) = true := by rw [hk]; simp
        have HK : Hid (K[j]? = some k) := by rw [← hk]; exact HX.out
        clear hk
        go_wp2_with fail
        go_ret
        exact ⟨rfl, .inl ⟨j, rfl, HK.out⟩⟩
      · have hkk : (k.toList == x.toList) = false := key_ne (fun e => hk e.symm)
        have HNX : Hid (∀ (i : Nat) y, i < j + 1 → K[i]? = some y → y ≠ k) := fun i y hi hy => by
          rcases Nat.lt_or_ge i j with h | h
          · exact HJ.out i y h hy
          · obtain rfl : i = j := by omega
            rw [HX.out] at hy
            cases hy
            exact hk
        clear hk
        go_wp2_with fail
        exact ⟨⟨j + 1, by omega, by simp, trivial, HNX⟩, by simp [intOf]; omega⟩
    · obtain rfl : j = n := by omega
      go_wp2_with fail
      go_ret
      exact ⟨rfl, .inr ⟨rfl, fun i y hy => HJ.out i y (by rw [HN.out]; exact (List.getElem?_eq_some_iff.1 hy).1) hy⟩⟩
set_option maxRecDepth 100000 in
theorem contains_str (a : Option Addr) (c : Nat) (K : List ByteArray) (k : ByteArray) (w : World) (h : LiesAt w a 1 strL K) (hl : K.length ≤ 100000) :
    Calls Tryz.prog 83 #[.slice a K.length c, .string k] w fun e w' => e = .returned (.bool (hasB K k)) ∧ w' = w := by
  have HI := Lib.hid (index_str a c K k w h hl)
  generalize K.length = n at *
  clear h hl
  go_enter Tryz.func83, Tryz.ntmps83
  go_wp2_with fail
  refine HI.out.mono ?_
  rintro e w' ⟨rfl, ⟨i, rfl, hi⟩ | ⟨rfl, hi⟩⟩
  · have HB := Lib.hid (hasB_yes hi)
    have h0 : (0 : Int) ≤ (i : Int) := by omega
    clear hi
    go_wp2_with fail
    go_ret
    exact ⟨by rw [HB.out]; rfl, rfl⟩
  · have HB := Lib.hid (hasB_none hi)
    clear hi
    go_wp2_with fail
    go_ret
    exact ⟨by rw [HB.out]; rfl, rfl⟩
end Go.Proofs.YtaifmfnmgnmgbaaGreatDoor.Txn
