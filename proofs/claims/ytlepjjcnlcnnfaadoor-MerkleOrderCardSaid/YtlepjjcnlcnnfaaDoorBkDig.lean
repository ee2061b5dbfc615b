/- Book: Digest of bytes that lie in memory. -/
import Derived.Test.YtlepjjcnlcnnfaaDoorBkDoes
import Derived.Test.YtlepjjcnlcnnfaaDoorOpen
namespace Go.Proofs.YtlepjjcnlcnnfaaDoor.Book
open Go.RowKit Go.My

variable {w w' : World} {base b m : Nat} {v : Value} {ts : List ByteArray}
theorem conv_at {g o cap : Nat} {s : ByteArray} {w W : World} (hB : Lib.Bytes w g o s) (hc : s.size ≠ 0 → W.heap[g]? = w.heap[g]?) :
    (convert 91 9 (.slice (some ⟨g, o, none⟩) s.size cap)).run Tryd.prog W = .ok (.string s) W :=
  Lib.run_convert_whole W 91 5 9 Tryd.underlying91 Tryd.underlying5 Tryd.underlying9 g o s (fun i hi => (World.cell?_of_block (a := ⟨g, o + i, none⟩) (hc (by omega))).trans (hB i hi)) cap

/-- The texts behind a question. -/
def asked (ts : List ByteArray) (s : ByteArray) : List ByteArray := if (aget (placed ts) s).isSome then ts else ts ++ [s]
def placeOf (ts : List ByteArray) (s : ByteArray) : Nat := (aget (placed ts) s).getD ts.length
def DigLeft (w : World) (base b m : Nat) (v : Value) (ts : List ByteArray) (s : ByteArray) (e : Ending) (w' : World) : Prop :=
  ∃ v', e = .returned (.tuple #[.int .i64 (placeOf ts s : Nat), .nilIface]) ∧ BookAt w' base b m v' (asked ts s) ∧ Turned w base b m v v' w'

theorem dig_any (h : BookAt w base b m v ts) (g o cap : Nat) (s : ByteArray) (hs : s.size ≤ 65536) (hl : ts.length < 65536) (hbw : base ≤ w.heap.size) (hB : Lib.Bytes w g o s)
    (hg : g < w.heap.size) (hgm : g ≠ m) (hgv : v.ownBlock ≠ some g) :
    Calls Tryd.prog 44 #[.pointer (some ⟨b, 0, none⟩), .slice (some ⟨g, o, none⟩) s.size cap] w (DigLeft w base b m v ts s) := by
  unfold DigLeft placeOf asked
  cases hi : aget (placed ts) s with
  | some i =>
    refine (dig_old h (some ⟨g, o, none⟩) s cap i hs (fun n => conv_at hB (fun _ => rfl)) hi).mono ?_
    rintro e w' ⟨rfl, hb⟩
    exact ⟨v, rfl, h.below hb, hb.mono hbw, (Wrote.of_below (S := []) hb).mono (by simp), fun g hg => .inl hg⟩
  | none =>
    refine (dig_new h (some ⟨g, o, none⟩) s cap hs hl hbw (fun W hW => conv_at hB (fun _ => hW.block g hg ?_)) hi).mono ?_
    · simp
      exact ⟨hgm, hgv⟩
    · rintro e w' ⟨v', rfl, hb, hw⟩
      exact ⟨v', rfl, hb, hw⟩
theorem conv_nil (W : World) (a : Option Addr) (cap : Nat) : (convert 91 9 (.slice a 0 cap)).run Tryd.prog W = .ok (.string ⟨#[]⟩) W := by
  rcases a with _ | ⟨g, o, q⟩ <;> kernel_rfl
theorem size_nil {s : ByteArray} (h0 : s.size = 0) : s = ⟨#[]⟩ := by
  obtain ⟨d⟩ := s
  congr
  exact Array.eq_empty_of_size_eq_zero h0
theorem conv_of {a : Option Addr} {cap : Nat} {s : ByteArray} {w W : World} (hB : BytesOf w a s) (hc : ∀ g o, a = some ⟨g, o, none⟩ → s.size ≠ 0 → g < w.heap.size → W.heap[g]? = w.heap[g]?) :
    (convert 91 9 (.slice a s.size cap)).run Tryd.prog W = .ok (.string s) W := by
  by_cases h0 : s.size = 0
  · rw [h0, size_nil h0]
    exact conv_nil W a cap
  · obtain ⟨g, o, rfl, hg, hB'⟩ := hB h0
    exact conv_at hB' (fun _ => hc g o rfl h0 hg)

/-- Digest of bytes that lay there ahead of the book. -/
theorem dig_arg (h : BookAt w base b m v ts) {w0 : World} (a : Option Addr) (cap : Nat) (s : ByteArray) (hs : s.size ≤ 65536) (hl : ts.length < 65536) (hbw : base ≤ w.heap.size) (hB : BytesOf w0 a s) (h0 : w0.heap.size ≤ base) (hw0 : Below w0.heap.size w0 w) :
    Calls Tryd.prog 44 #[.pointer (some ⟨b, 0, none⟩), .slice a s.size cap] w (DigLeft w base b m v ts s) := by
  have hcv : ∀ W, Wrote (m :: v.ownBlock.toList) w W → (convert 91 9 (.slice a s.size cap)).run Tryd.prog W = .ok (.string s) W := by
    intro W hW
    refine conv_of hB (fun g o _ _ hg => ?_)
    rw [← hw0.block g hg]
    refine hW.block g (Nat.lt_of_lt_of_le hg hw0.size) ?_
    simp only [List.mem_cons, Option.mem_toList]
    rintro (rfl | hv)
    · have := h.bm; omega
    · have := (h.row.lt g hv).1; omega
  unfold DigLeft placeOf asked
  cases hi : aget (placed ts) s with
  | some i =>
    refine (dig_old h a s cap i hs (fun n => hcv _ ((Wrote.refl _ _).drewN n)) hi).mono ?_
    rintro e w' ⟨rfl, hb⟩
    exact ⟨v, rfl, h.below hb, hb.mono hbw, (Wrote.of_below (S := []) hb).mono (by simp), fun g hg => .inl hg⟩
  | none =>
    refine (dig_new h a s cap hs hl hbw hcv hi).mono ?_
    rintro e w' ⟨v', rfl, hb, hw⟩
    exact ⟨v', rfl, hb, hw⟩
end Go.Proofs.YtlepjjcnlcnnfaaDoor.Book
