/- The model: two lists that are alike. -/
import Derived.Test.YtacdnpacpndekaaAsks
import Derived.BigQuiet
import Derived.Deep.QuietTactic
namespace Go.Proofs.Ytacdnpacpndekaa
open Go.RowKit Go.My Go.My.Model Go.Deep
def RowsIn (w : World) (ra : Option Addr) (L : List Ent) : Prop := ∀ (i : Nat) e, L[i]? = some e → ∃ g, ra = some ⟨g, 0, none⟩ ∧ g < w.heap.size ∧ w.cell? ⟨g, i * 3, none⟩ = some (.string e.key) ∧ w.cell? ⟨g, i * 3 + 1, none⟩ = some (.string e.value) ∧ w.cell? ⟨g, i * 3 + 2, none⟩ = some (.int .i64 e.ver)
theorem Left3.rows {w W W' : World} {ra : Option Addr} {L : List Ent} (h : Left3 w W ra L) (hb : Below W.heap.size W W') : RowsIn W' ra L := fun i e hi => by
  obtain ⟨g, h1, _, h3, h4⟩ := h.ent i e hi
  exact ⟨g, h1, Nat.lt_of_lt_of_le h3 hb.size, h4 W' hb⟩
theorem RowsIn.below {w W : World} {ra : Option Addr} {L : List Ent} (h : RowsIn w ra L) (hb : Below w.heap.size w W) : RowsIn W ra L := fun i e hi => by
  obtain ⟨g, h1, h2, h3, h4, h5⟩ := h i e hi
  exact ⟨g, h1, Nat.lt_of_lt_of_le h2 hb.size, (hb.cell (p := ⟨g, _, none⟩) h2).trans h3, (hb.cell (p := ⟨g, _, none⟩) h2).trans h4, (hb.cell (p := ⟨g, _, none⟩) h2).trans h5⟩
set_option maxRecDepth 100000 in
set_option maxHeartbeats 1600000 in
theorem same_yes (ra rb : Option Addr) (ca cb n : Nat) (L : List Ent) (w : World) (hn : n = L.length) (ha : RowsIn w ra L) (hb : RowsIn w rb L) (hn9 : n ≤ 100000) :
    Calls Try.prog 12 #[.slice ra n ca, .slice rb n cb] w fun e w' => e = .returned (.bool true) ∧ Below w.heap.size w w' := by
  have HA := Lib.hid ha
  have HB := Lib.hid hb
  have HN := Lib.hid hn
  have hn8 : (n : Int) ≤ 100000 := by omega
  clear ha hb hn hn9
  go_enter Try.func12, Try.ntmps12
  go_wp2_with fail
  go_loopw [5] (fun i W => ∃ m : Nat, m ≤ n ∧ i = .int .i64 m ∧ Hid (Below w.heap.size w W)) (fun i _ => n - (intOf i).toNat)
  case atStart => exact ⟨0, by omega, rfl, Below.refl _ _⟩
  case round =>
    obtain ⟨m, hm, rfl, HR⟩ := hrel
    by_cases hlt : m < n
    · obtain ⟨e, he⟩ : ∃ e, L[m]? = some e := ⟨_, List.getElem?_eq_getElem (by rw [← HN.out]; exact hlt)⟩
      obtain ⟨g, rfl, hg, d0, d1, d2⟩ := HA.out.below HR.out m e he
      obtain ⟨g', rfl, hg', f0, f1, f2⟩ := HB.out.below HR.out m e he
      have hm0 : (0 : Int) ≤ (m : Int) := by omega
      have hm1 : (m : Int) < (n : Int) := by omega
      have HND : Hid (∀ nq, Below w.heap.size w (wr.drewN nq)) := fun nq => HR.out.trans ⟨rfl, rfl, rfl, by simp, fun _ _ => rfl⟩
      clear he
      go_wp2_with fail
      go_quiet (fail)
      go_wp2_with fail
      exact ⟨⟨m + 1, by omega, by simp, HND.out _⟩, by simp [intOf]; omega⟩
    · obtain rfl : m = n := by omega
      go_wp2_with fail
      go_ret
      exact ⟨rfl, HR.out⟩
end Go.Proofs.Ytacdnpacpndekaa
