/- The model: of the first of some transactions. -/
import Derived.Test.YtacdnpacpndekaaAsks
import Derived.Test.YtacdnpacpndekaaOrder
namespace Go.Proofs.Ytacdnpacpndekaa
open Go.RowKit Go.My Go.My.Model Go.Deep
theorem flat_take {T : List Tx} {k i : Nat} (h : i ≤ k) : flat (T.take k) i = flat T i := by
  unfold flat
  rw [List.take_take, Nat.min_eq_left h]
theorem fits_ok {T : List Tx} {j : Nat} (h : j < fitsN T) : okB T j = true := by
  have := List.not_of_lt_findIdx (p := fun i => !okB T i) (xs := List.range T.length) h
  simpa using this
theorem fits_not {T : List Tx} (h : fitsN T < T.length) : okB T (fitsN T) = false := by
  have := List.findIdx_getElem (p := fun i => !okB T i) (xs := List.range T.length) (w := by rw [List.length_range]; exact h)
  simpa [fitsN] using this
theorem ok_take {T : List Tx} {k i : Nat} (h : i < k) : okB (T.take k) i = okB T i := by
  unfold okB
  rw [flat_take (by omega), List.getElem?_take, if_pos h]
theorem fits_take {T : List Tx} {k : Nat} (hk : k ≤ T.length) : fitsN (T.take k) = min (fitsN T) k := by
  have hl : (T.take k).length = k := by rw [List.length_take]; omega
  rcases Nat.lt_or_ge (fitsN T) k with h | h
  · rw [Nat.min_eq_left (by omega)]
    refine fits_stop (by omega) (fun j hj => ?_) ?_
    · rw [ok_take (by omega)]; exact fits_ok hj
    · rw [ok_take h]; exact fits_not (by omega)
  · rw [Nat.min_eq_right h, ← hl]
    rw [show fitsN (T.take (T.take k).length) = fitsN (T.take k) by rw [hl]]
    exact fits_all fun j hj => by rw [ok_take (by omega)]; exact fits_ok (by omega)
theorem at_pre {ws' ws : List Wri} (hp : ws' <+: ws) {k : ByteArray} (h : countK ws' k ≠ 0) : atEnt ws k (countK ws' k : Int) = entOf ws' k ∧ atOk ws k (countK ws' k : Int) = true := by
  have hc := count_pre hp k
  have ho : atOk ws k (countK ws' k : Int) = true := by simp [atOk]; omega
  refine ⟨?_, ho⟩
  unfold atEnt entOf
  rw [if_pos ho, ← vals_last ws' k h]
  obtain ⟨r, hr⟩ := vals_pre hp k
  rw [← hr]
  have e : ((countK ws' k : Int) - 1).toNat = countK ws' k - 1 := by omega
  rw [e]
  congr 1
  have hl : countK ws' k - 1 < (vals ws' k).length := by rw [vals_len]; omega
  simp only [List.getD]
  rw [List.getElem?_append_left hl]
/-- What the calls of a law answer about the first of its transactions. -/
structure AsksPre (w : World) (a : Option Addr) (n cap : Nat) (T : List Tx) : Prop where
  run : ∀ W k, Below w.heap.size w W → Small T → k ≤ n → Calls Try.prog 13 #[.slice a k cap] W (RunDone W (stateOf (flat T k)))
  fits : ∀ W k, Below w.heap.size w W → Small T → k ≤ n → Calls Try.prog 15 #[.slice a k cap] W fun e w' => e = .returned (.int .i64 (min (fitsN T) k : Nat)) ∧ Below W.heap.size W w'
theorem asksPre {w : World} {a : Option Addr} {T : List Tx} (cap : Nat) (ho : OrdAt w a T) : AsksPre w a T.length cap T where
  run W k hb hs hk := by
    have hl : (T.take k).length = k := by rw [List.length_take]; omega
    have h := run_any a cap (T.take k) W ((ord_far ho hb (by simp)).take k) (by have := hs.1; omega) (by rw [hl, flat_take (Nat.le_refl _)]; have := small_flat hs k; omega)
    rw [hl, flat_take (Nat.le_refl _)] at h
    exact h
  fits W k hb hs hk := by
    have hl : (T.take k).length = k := by rw [List.length_take]; omega
    have h := fits_any a cap (T.take k) W ((ord_far ho hb (by simp)).take k) (by have := hs.1; omega) (by rw [hl, flat_take (Nat.le_refl _)]; have := small_flat hs k; omega) (fun t ht => by have := hs.2 t (List.mem_of_mem_take ht); omega)
    unfold FitsLeft at h
    rw [hl, fits_take hk] at h
    exact h
open Go.Deep in
theorem open_txns2 {H : Type} {enc : TypeId × Value → H} {w : World} {base : Nat} {spare : Nat → Bool} {held : Bool} {fuel len cap : Nat} {a : Option Addr} {x : DataW H × List MemPlace}
    (h : DataW.trod enc Try.prog w base spare held fuel 22 [.slice a len cap] = some x) (hx : Within Try.prog 22 x.1) : ∃ T : List Tx, T.length = len ∧ OrdAt w a T ∧ (Fine T ∧ len ≤ cap ∧ cap ≤ maxLen) := by
  obtain ⟨T, h1, h2, h3⟩ := open_txns h hx
  obtain ⟨_, _, h4, h5, _⟩ := open_listB (α := Unit) (R := fun _ _ _ => True) (c := 4) Try.underlying22 (by kernel_rfl) (by omega) (fun _ _ _ _ _ _ => ⟨(), trivial⟩) h hx
  exact ⟨T, h1, h2, h3, h4, h5⟩
end Go.Proofs.Ytacdnpacpndekaa
