/- A judge: where there is no fault, in plain words; a key in a range. -/
import Derived.Test.YtpcmkifgfokdpaaJlaw5
import Derived.Test.YtpcmkifgfokdpaaRfit
namespace Go.Proofs.Ytpcmkifgfokdpaa
open Go.RowKit Go.My Go.My.Model Go.Deep
def strL (k : ByteArray) : List Value := [.string k]
def inB (h : Hel) (k : ByteArray) : Bool := !Op.bytesLess k.toList h.frm.toList && (decide (h.upto = ByteArray.empty) || Op.bytesLess k.toList h.upto.toList)
theorem group_pos {G : List Int} {i : Nat} {g : Int} (h : G[i]? = some g) (h0 : ¬ g < 0) : groupOf G i = g := by
  unfold groupOf
  rw [h]
  show max g (-1) = g
  omega
theorem ones_at {G : List Int} {S : List Seen} {i : Nat} {g : Int} {x : Seen} (h : G[i]? = some g) (hx : S[i]? = some x) (h0 : ¬ g < 0) : (onesOf G S)[i]? = some ⟨g, x⟩ := by
  rw [ones_get, hx, group_pos h h0]
  rfl
theorem fair_ran {T : List Tx} {G : List Int} {S : List Seen} (c : Clean T (onesOf G S)) {a b : Nat} (hab : b < a) {ga gb : Int} {x y : Seen} (h1 : G[a]? = some ga) (h2 : G[b]? = some gb) (h3 : S[a]? = some x) (h4 : S[b]? = some y) (p1 : ¬ ga < 0) (p2 : ¬ gb < 0)
    {r q : Ran} (hr : r ∈ x.ran) (hq : q ∈ y.ran) (hg : ga = gb) (hn : r.num = q.num) : r.digest = q.digest := by
  have h := c.ran b a _ _ hab (ones_at h2 h4 p2) (ones_at h1 h3 p1)
  subst hg
  unfold badB ranB at h
  have hm : decide (0 ≤ min ga ga) = true := decide_eq_true (by omega)
  simp only [hm, Bool.true_and, decide_true] at h
  rw [List.any_eq_false] at h
  have h5 := h q hq
  rw [Bool.not_eq_true, List.any_eq_false] at h5
  have h6 := h5 r hr
  unfold ranDiff at h6
  simp [hn] at h6
  exact h6.symm
theorem less_of {a b c : List UInt8} (h1 : Op.bytesLess b a = false) (h2 : Op.bytesLess b c = true) : Op.bytesLess a c = true := by
  rw [less_lt] at *
  simp only [decide_eq_true_eq, decide_eq_false_iff_not] at *
  exact List.lt_of_le_of_lt (List.not_lt.1 h1) h2
theorem fair_own {T : List Tx} {G : List Int} {S : List Seen} (c : Clean T (onesOf G S)) {a b : Nat} (hab : b < a) {ga gb : Int} {x y : Seen} (h1 : G[a]? = some ga) (h2 : G[b]? = some gb) (h3 : S[a]? = some x) (h4 : S[b]? = some y) (p1 : 0 < ga) (p2 : 0 < gb)
    {r q : Hel} (hr : r ∈ x.held) (hq : q ∈ y.held) (hg : ¬ ga = gb) (f1 : r.frozen = false) (f2 : q.frozen = false) (he : r.epoch = q.epoch) {k : ByteArray} (k1 : inB r k = true) : inB q k = false := by
  have h := c.own b a _ _ hab (ones_at h2 h4 (by omega)) (ones_at h1 h3 (by omega))
  unfold badB ownB at h
  have hm : decide (0 ≤ min gb ga) = true := decide_eq_true (by omega)
  have hm2 : decide (0 < min gb ga) = true := decide_eq_true (by omega)
  have hm3 : decide (gb = ga) = false := decide_eq_false (fun e => hg e.symm)
  simp only [hm, hm2, hm3, Bool.true_and, Bool.not_false] at h
  rw [List.any_eq_false] at h
  have h5 := h q hq
  rw [Bool.not_eq_true, List.any_eq_false] at h5
  have h6 := h5 r hr
  cases k2 : inB q k with
  | false => rfl
  | true =>
    refine absurd ?_ h6
    unfold inB at k1 k2
    simp only [Bool.and_eq_true, Bool.not_eq_true', Bool.or_eq_true, decide_eq_true_eq] at k1 k2
    unfold helDiff
    simp only [Bool.and_eq_true, Bool.not_eq_true', Bool.or_eq_true, decide_eq_true_eq]
    refine ⟨⟨⟨⟨he.symm, f2⟩, f1⟩, ?_⟩, ?_⟩
    · rcases k2.2 with h7 | h7
      · exact .inl h7
      · exact .inr (less_of k1.1 h7)
    · rcases k1.2 with h7 | h7
      · exact .inl h7
      · exact .inr (less_of k2.1 h7)
theorem fair_ent {T : List Tx} {G : List Int} {S : List Seen} (c : Clean T (onesOf G S)) {a : Nat} {ga : Int} {x : Seen} (h1 : G[a]? = some ga) (h3 : S[a]? = some x) (p1 : 0 < ga) {e : Ent} (he : e ∈ x.ents) :
    atOk (flat T T.length) e.key e.ver = true ∧ atEnt (flat T T.length) e.key e.ver = e := by
  have h := c.ent a _ (ones_at h1 h3 (by omega)) p1 e he
  unfold entOK at h
  simp only [Bool.and_eq_true, decide_eq_true_eq] at h
  refine ⟨h.1, ?_⟩
  rw [at_key h.1, ← h.2]
set_option maxRecDepth 100000 in
theorem in_11 (h : Hel) (k : ByteArray) (w : World) : Calls Try.prog 11 #[helA h, .string k] w (BoolLeft w (inB h k)) := by
  have HB : Hid (∀ o, Below w.heap.size w (w.alloc o)) := fun o => (Below.refl _ w).alloc (Nat.le_refl _) o
  unfold helA
  cases e1 : Op.bytesLess k.toList h.frm.toList with
  | true =>
    have HE : Hid (inB h k = false) := by show _ = _; simp [inB, e1]
    rw [HE.out]
    go_enter Try.func11, Try.ntmps11
    go_wp2_with fail
    go_ret
    exact ⟨rfl, HB.out _⟩
  | false =>
    cases e2 : (h.upto.toList == []) with
    | true =>
      have f2 : h.upto = ByteArray.empty := empty_of (by simpa using e2)
      have HE : Hid (inB h k = true) := by show _ = _; simp [inB, e1, f2]
      rw [HE.out]
      clear f2
      go_enter Try.func11, Try.ntmps11
      go_wp2_with fail
      go_ret
      exact ⟨rfl, HB.out _⟩
    | false =>
      have f2 : ¬ h.upto = ByteArray.empty := by intro h'; rw [h', empty_nil] at e2; cases e2
      cases e3 : Op.bytesLess k.toList h.upto.toList with
      | true =>
        have HE : Hid (inB h k = true) := by show _ = _; simp [inB, e1, e3]
        rw [HE.out]
        clear f2
        go_enter Try.func11, Try.ntmps11
        go_wp2_with fail
        go_ret
        exact ⟨rfl, HB.out _⟩
      | false =>
        have HE : Hid (inB h k = false) := by show _ = _; simp [inB, e1, e3, f2]
        rw [HE.out]
        clear f2
        go_enter Try.func11, Try.ntmps11
        go_wp2_with fail
        go_ret
        exact ⟨rfl, HB.out _⟩
section
variable {H : Type} {enc : TypeId × Value → H} {w : World} {base : Nat} {spare : Nat → Bool} {held : Bool}
theorem open_keys {fuel len cap : Nat} {a : Option Addr} {x : DataW H × List MemPlace} (h : DataW.trod enc Try.prog w base spare held fuel 27 [.slice a len cap] = some x) (hx : Within Try.prog 27 x.1) :
    ∃ K : List ByteArray, K.length = len ∧ Lies w a 1 strL K ∧ K.length ≤ 70368744177664 := by
  obtain ⟨l, h1, _, _, h2, h3⟩ := open_listB (R := fun _ cs x => cs = strL x) (c := 1) Try.underlying27 (by kernel_rfl) (by omega) (fun n cs d hl hd _ => by
    obtain ⟨v0, rfl⟩ := n1 hl
    obtain ⟨z, hz, _, _⟩ := DataW.trod_string Try.underlying9 hd
    exact ⟨z, hz⟩) h hx
  have hb : Try.prog.bytesOf 9 = 16 := by kernel_rfl
  rw [hb] at h2
  unfold reachBytes at h2
  exact ⟨l, h1, lies_of h3, by omega⟩
end
end Go.Proofs.Ytpcmkifgfokdpaa
