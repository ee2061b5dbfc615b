/- Merkle: the document's comparison of entries. -/
import Derived.Test.YtlepjjcnlcnnfaaMkRight
namespace Go.Proofs.Ytlepjjcnlcnnfaa.Merkle
open Go.RowKit Go.My

def SameLeft (w : World) (L M : List Ent) (e : Ending) (w' : World) : Prop := ∃ x : Bool, e = .returned (.bool x) ∧ (x = true ↔ L = M) ∧ Below w.heap.size w w'
set_option maxRecDepth 100000 in
set_option maxHeartbeats 1600000 in
theorem same_any (ra rb : Option Addr) (ca cb n n2 : Nat) (L M : List Ent) (w : World) (hn : n = L.length) (hn2 : n2 = M.length) (ha : LiesAt w ra 3 entL L) (hb : LiesAt w rb 3 entL M) (hn9 : n ≤ 100000) (hm9 : n2 ≤ 100000) :
    Calls Try.prog 14 #[.slice ra n ca, .slice rb n2 cb] w (SameLeft w L M) := by
  have HA := Lib.hid ha
  have HB := Lib.hid hb
  have HN := Lib.hid hn
  have HM := Lib.hid hn2
  have hn8 : (n : Int) ≤ 100000 := by omega
  have hn7 : (n2 : Int) ≤ 100000 := by omega
  clear ha hb hn hn9 hn2 hm9
  by_cases hnn : n = n2
  · subst hnn
    go_enter Try.func14, Try.ntmps14
    go_wp2_with fail
    go_loopw [5] (fun i W => ∃ m : Nat, m ≤ n ∧ i = .int .i64 m ∧ Hid (Below w.heap.size w W ∧ L.take m = M.take m)) (fun i _ => n - (intOf i).toNat)
    case atStart => exact ⟨0, by omega, rfl, Below.refl _ _, rfl⟩
    case round =>
      obtain ⟨m, hm, rfl, HR⟩ := hrel
      by_cases hlt : m < n
      · obtain ⟨⟨k, u, z⟩, he⟩ : ∃ e, L[m]? = some e := ⟨_, List.getElem?_eq_getElem (by rw [← HN.out]; exact hlt)⟩
        obtain ⟨⟨k', u', z'⟩, he'⟩ : ∃ e, M[m]? = some e := ⟨_, List.getElem?_eq_getElem (by rw [← HM.out]; exact hlt)⟩
        obtain ⟨g, o, rfl, hg, hc⟩ := (HA.out.below HR.out.1) m _ he
        obtain ⟨g', o', rfl, hg', hc'⟩ := (HB.out.below HR.out.1) m _ he'
        have d0 := hc 0 _ rfl
        have d1 := hc 1 _ rfl
        have d2 := hc 2 _ rfl
        have f0 := hc' 0 _ rfl
        have f1 := hc' 1 _ rfl
        have f2 := hc' 2 _ rfl
        simp only [Nat.add_zero] at d0 d1 d2 f0 f1 f2
        have hm0 : (0 : Int) ≤ (m : Int) := by omega
        have hm1 : (m : Int) < (n : Int) := by omega
        have HND : Hid (∀ nq, Below w.heap.size w (wr.drewN nq)) := fun nq => HR.out.1.trans ⟨rfl, rfl, rfl, by simp, fun _ _ => rfl⟩
        have HT : Hid (L.take (m + 1) = L.take m ++ [⟨k, u, z⟩] ∧ M.take (m + 1) = M.take m ++ [⟨k', u', z'⟩]) := ⟨by rw [List.take_add_one, he]; rfl, by rw [List.take_add_one, he']; rfl⟩
        have HE : Hid (L[m]? = some ⟨k, u, z⟩ ∧ M[m]? = some ⟨k', u', z'⟩) := ⟨he, he'⟩
        clear he he' hc hc' hg hg'
        by_cases hx : (⟨k, u, z⟩ : Ent) = ⟨k', u', z'⟩
        · cases hx
          have HTT : Hid (L.take (m + 1) = M.take (m + 1)) := by show _ = _; rw [HT.out.1, HT.out.2, HR.out.2]
          go_wp2_with fail
          go_quiet (fail)
          go_wp2_with fail
          exact ⟨⟨m + 1, by omega, by simp, HND.out _, HTT.out⟩, by simp [intOf]; omega⟩
        · have HF : Hid (¬ L = M) := by
            show ¬ _
            intro e
            have h := HE.out.1
            rw [e, HE.out.2] at h
            cases h
            exact hx rfl
          by_cases h1 : k = k'
          · have g1 : (k.toList == k'.toList) = true := by rw [h1]; simp
            by_cases h2 : u = u'
            · have g2 : (u.toList == u'.toList) = true := by rw [h2]; simp
              have h3 : ¬ z = z' := fun h3 => by
                subst h1
                subst h2
                subst h3
                exact hx rfl
              have g3 : (z == z') = false := by simp [h3]
              clear hx h1 h2
              go_wp2_with fail
              go_quiet (fail)
              go_wp2_with fail
              go_ret
              exact ⟨false, rfl, ⟨fun h => (by cases h), fun h => absurd h HF.out⟩, HND.out _⟩
            · have g2 : (u.toList == u'.toList) = false := key_ne h2
              clear hx h1 h2
              go_wp2_with fail
              go_quiet (fail)
              go_wp2_with fail
              go_ret
              exact ⟨false, rfl, ⟨fun h => (by cases h), fun h => absurd h HF.out⟩, HND.out _⟩
          · have g1 : (k.toList == k'.toList) = false := key_ne h1
            clear hx h1
            go_wp2_with fail
            go_quiet (fail)
            go_wp2_with fail
            go_ret
            exact ⟨false, rfl, ⟨fun h => (by cases h), fun h => absurd h HF.out⟩, HND.out _⟩
      · obtain rfl : m = n := by omega
        have HF : Hid (L = M) := by
          show _ = _
          have h := HR.out.2
          rw [List.take_of_length_le (by have := HN.out; omega), List.take_of_length_le (by have := HM.out; omega)] at h
          exact h
        go_wp2_with fail
        go_ret
        exact ⟨true, rfl, ⟨fun _ => HF.out, fun _ => rfl⟩, HR.out.1⟩
  · have HF : Hid (¬ L = M) := by
      show ¬ _
      intro e
      have h1 := HN.out
      have h2 := HM.out
      rw [e] at h1
      omega
    have h1 : ¬ (n : Int) = (n2 : Int) := by omega
    go_enter Try.func14, Try.ntmps14
    go_wp2_with fail
    go_ret
    exact ⟨false, rfl, ⟨fun h => (by cases h), fun h => absurd h HF.out⟩, Below.refl _ _⟩
end Go.Proofs.Ytlepjjcnlcnnfaa.Merkle
