/- A route: the pieces of a range, moved. -/
import Derived.Test.YtemgcliihbjjiaaDoorRown
import Derived.Lib.MinMaxS
import Derived.Laws.OwnMore
namespace Go.Proofs.YtemgcliihbjjiaaDoor
open Go.RowKit Go.My

theorem flat_set {L : List Pc} {i : Nat} {x : Pc} (h : L[i]? = some x) :
    (∀ s, (L.flatMap pcL).set (i * 3) (.string s) = (L.set i ⟨s, x.sh, x.ep⟩).flatMap pcL) ∧
    (∀ z, (L.flatMap pcL).set (i * 3 + 1) (.int .i64 z) = (L.set i ⟨x.fr, z, x.ep⟩).flatMap pcL) ∧
    (∀ z, (L.flatMap pcL).set (i * 3 + 2) (.int .i64 z) = (L.set i ⟨x.fr, x.sh, z⟩).flatMap pcL) := by
  induction L generalizing i with
  | nil => cases h
  | cons a t ih =>
    cases i with
    | zero =>
      obtain rfl : a = x := by simpa using h
      refine ⟨fun s => ?_, fun z => ?_, fun z => ?_⟩ <;> simp [pcL, List.flatMap_cons]
    | succ i =>
      obtain ⟨h1, h2, h3⟩ := ih (i := i) (by simpa using h)
      refine ⟨fun s => ?_, fun z => ?_, fun z => ?_⟩
      · rw [show (i + 1) * 3 = i * 3 + 1 + 1 + 1 by omega, List.set_cons_succ, List.flatMap_cons, List.flatMap_cons, ← h1]; rfl
      · rw [show (i + 1) * 3 + 1 = (i * 3 + 1) + 1 + 1 + 1 by omega, List.set_cons_succ, List.flatMap_cons, List.flatMap_cons, ← h2]; rfl
      · rw [show (i + 1) * 3 + 2 = (i * 3 + 2) + 1 + 1 + 1 by omega, List.set_cons_succ, List.flatMap_cons, List.flatMap_cons, ← h3]; rfl
/-- The pieces of a range, of which the first j were bumped. -/
def bumped (s : Int) (L : List Pc) (j : Nat) : List Pc := (L.take j).map (bump s) ++ L.drop j
theorem bumped_len (s : Int) (L : List Pc) (j : Nat) : (bumped s L j).length = L.length := by unfold bumped; simp; omega
theorem bumped_at {s : Int} {L : List Pc} {j : Nat} {x : Pc} (h : L[j]? = some x) : (bumped s L j)[j]? = some x := by
  have hl := (List.getElem?_eq_some_iff.1 h).1
  unfold bumped
  rw [List.getElem?_append_right (by simp; omega)]
  simp only [List.length_map, List.length_take, List.getElem?_drop]
  rw [show j + (j - min j L.length) = j by omega, h]
theorem bumped_succ {s : Int} {L : List Pc} {j : Nat} {x : Pc} (h : L[j]? = some x) : (bumped s L j).set j (bump s x) = bumped s L (j + 1) := by
  have hl := (List.getElem?_eq_some_iff.1 h).1
  unfold bumped
  rw [List.set_append_right _ _ (by simp; omega)]
  have e : j - ((L.take j).map (bump s)).length = 0 := by simp; omega
  rw [e, List.take_add_one, h, List.map_append, List.append_assoc]
  congr 1
  have e2 : L.drop j = x :: L.drop (j + 1) := by
    rw [List.drop_eq_getElem_cons hl]
    obtain ⟨_, h2⟩ := List.getElem?_eq_some_iff.1 h
    rw [h2]
  rw [e2]
  rfl
theorem bumped_all (s : Int) (L : List Pc) : bumped s L L.length = L.map (bump s) := by unfold bumped; simp
theorem max_from (a f : ByteArray) (h : lessK f a = false) (w : World) (ts : Array TypeId) (t : TypeId) : (Builtin.max_ ts t #[.string a, .string f]).run Tryd.prog w = .ok (.string f) w := by
  rw [Lib.run_max_strs]
  by_cases e : a = f
  · subst e; unfold Lib.maxS; simp
  · have := lessK_tri (by rw [h]; simp) (fun e' => e e'.symm)
    unfold Lib.maxS
    have h2 := lessK_lt.1 this
    rw [Lib.toList_data, Lib.toList_data] at h2
    rw [if_pos h2]
set_option maxRecDepth 100000 in
set_option maxHeartbeats 3200000 in
theorem moved_33 (a : Option Addr) (cap : Nat) (o : Pc) (os : List Pc) (f : ByteArray) (s : Int) (w : World) (h : SrcAny w a cap (o :: os)) (hl : (o :: os).length ≤ 1000) (hf : lessK f o.fr = false)
    (he : ∀ x, x ∈ o :: os → 1 ≤ x.ep ∧ x.ep ≤ 1099511627776) : Calls Tryd.prog 33 #[.slice a (o :: os).length cap, .string f, .int .i64 s] w (RowLeft w (movedL f s (o :: os))) := by
  have HC := Lib.hid (clone_26 a cap (o :: os) w h hl)
  have HM := Lib.hid (max_from o.fr f hf)
  obtain ⟨n, hn⟩ : ∃ n, n = (o :: os).length := ⟨_, rfl⟩
  have hn0 : (0 : Int) < (n : Int) := by rw [hn]; simp
  obtain ⟨R, hR⟩ : ∃ R, R = (⟨f, o.sh, o.ep⟩ : Pc) :: os := ⟨_, rfl⟩
  have hRn : R.length = n := by rw [hR, hn]; rfl
  have HE : Hid (movedL f s (o :: os) = R.map (bump s)) := by show _ = _; rw [hR]; rfl
  have HN : Hid (n = (o :: os).length ∧ R.length = n ∧ R = (⟨f, o.sh, o.ep⟩ : Pc) :: os) := ⟨hn, hRn, hR⟩
  have HEP : Hid (∀ x, x ∈ R → 1 ≤ x.ep ∧ x.ep ≤ 1099511627776) := fun x hx => by
    rw [hR] at hx
    rcases List.mem_cons.1 hx with rfl | hx
    · exact he o (by simp)
    · exact he x (by simp [hx])
  rw [← hn] at HC hl ⊢
  have hl9 : (n : Int) ≤ 1000 := by omega
  have hms := HM.out
  clear h hf he hn hRn hR
  go_enter Tryd.func33, Tryd.ntmps33
  go_wp2_with fail
  refine HC.out.mono ?_
  rintro e w1 ⟨v, rfl, ho, hb⟩
  obtain ⟨a', cap', rfl, hpos⟩ := row_form ho
  obtain ⟨g, rfl, hg1, hg2⟩ := hpos (by simp)
  rw [← HN.out.1]
  rw [← HN.out.1] at ho
  have hcell := fun (i j : Nat) (x : Pc) (hi : (o :: os)[i]? = some x) (hj : j < 3) => row_cell ho pcL_len HN.out.1 hi hj
  have c0 : w1.cell? ⟨g, 0, none⟩ = some (.string o.fr) := hcell 0 0 o rfl (by omega)
  have fz : ∀ i, w1.frozen? ⟨g, i, none⟩ = false := fun i => ho.frozenAt i
  have P0 : Hid ((w1.setCell ⟨g, 0, none⟩ (.string f)).ownsRow w.heap.size 35 3 (.slice (some ⟨g, 0, none⟩) n cap') n ((bumped s R 0).flatMap pcL) ∧ Below w.heap.size w (w1.setCell ⟨g, 0, none⟩ (.string f))) := by
    obtain ⟨h1, h2⟩ := ho.stored 0 (.string f)
    have h3 := (flat_set (L := o :: os) (i := 0) (x := o) rfl).1 f
    rw [Nat.zero_mul] at h3
    rw [h3] at h1
    refine ⟨?_, hb.trans ((Wrote.of_grown h2).below hb.size fun k hk => by simp at hk; omega)⟩
    have e : bumped s R 0 = (o :: os).set 0 ⟨f, o.sh, o.ep⟩ := by unfold bumped; rw [HN.out.2.2]; simp
    rw [e]
    exact h1
  clear hcell ho hb hpos
  go_wp2_with fail
  go_loopw [22] (fun i wr => ∃ j : Nat, j ≤ n ∧ i = .int .i64 j ∧ Hid (wr.ownsRow w.heap.size 35 3 (.slice (some ⟨g, 0, none⟩) n cap') n ((bumped s R j).flatMap pcL) ∧ Below w.heap.size w wr)) (fun i _ => n - (intOf i).toNat)
  case atStart => exact ⟨0, by omega, rfl, P0⟩
  case round =>
    clear P0 c0 fz
    obtain ⟨j, hj, rfl, HB⟩ := hrel
    by_cases hlt : j < n
    · obtain ⟨x, hx⟩ : ∃ x, R[j]? = some x := ⟨_, List.getElem?_eq_getElem (by rw [HN.out.2.1]; exact hlt)⟩
      have hbn : n = (bumped s R j).length := by rw [bumped_len, HN.out.2.1]
      have hcell := fun (q : Nat) (hq : q < 3) => row_cell HB.out.1 pcL_len hbn (bumped_at (s := s) hx) hq
      have d1 : wr.cell? ⟨g, j * 3 + 1, none⟩ = some (.int .i64 x.sh) := hcell 1 (by omega)
      have d2 : wr.cell? ⟨g, j * 3 + 2, none⟩ = some (.int .i64 x.ep) := hcell 2 (by omega)
      have fz : ∀ i, wr.frozen? ⟨g, i, none⟩ = false := fun i => HB.out.1.frozenAt i
      have lg : g < wr.heap.size := by
        obtain ⟨g', e, _, h3⟩ := row_pos HB.out.1 (by omega)
        obtain rfl : g = g' := by simpa using e
        exact h3
      obtain ⟨he1, he2⟩ := HEP.out x (List.mem_of_getElem? hx)
      have hw1 : IntKind.i64.wrap (x.ep + 1) = x.ep + 1 := IntWalk.i64_in _ (by omega)
      have hj0 : (0 : Int) ≤ (j : Int) := by omega
      have hj1 : (j : Int) < (n : Int) := by omega
      have P1 : Hid (((wr.setCell ⟨g, j * 3 + 1, none⟩ (.int .i64 s)).setCell ⟨g, j * 3 + 2, none⟩ (.int .i64 (x.ep + 1))).ownsRow w.heap.size 35 3 (.slice (some ⟨g, 0, none⟩) n cap') n ((bumped s R (j + 1)).flatMap pcL) ∧ Below w.heap.size w ((wr.setCell ⟨g, j * 3 + 1, none⟩ (.int .i64 s)).setCell ⟨g, j * 3 + 2, none⟩ (.int .i64 (x.ep + 1)))) := by
        obtain ⟨h1, h2⟩ := HB.out.1.stored (j * 3 + 1) (.int .i64 s)
        rw [(flat_set (bumped_at (s := s) hx)).2.1] at h1
        obtain ⟨h3, h4⟩ := h1.stored (j * 3 + 2) (.int .i64 (x.ep + 1))
        have hlt2 : j < (bumped s R j).length := by rw [← hbn]; exact hlt
        rw [(flat_set (x := ⟨x.fr, s, x.ep⟩) (by rw [List.getElem?_set_self hlt2])).2.2, List.set_set] at h3
        have hgN : w.heap.size ≤ g := hg1
        refine ⟨by rw [← bumped_succ hx]; exact h3, ?_⟩
        have hA := (Wrote.of_grown h2).below (N := w.heap.size) HB.out.2.size fun k hk => by simp at hk; omega
        have hB := (Wrote.of_grown h4).below (N := w.heap.size) (by simpa using HB.out.2.size) fun k hk => by simp at hk; omega
        exact (HB.out.2.trans hA).trans hB
      clear hx hbn hcell
      go_wp2_with fail
      exact ⟨⟨j + 1, by omega, by simp, P1⟩, by simp [intOf]; omega⟩
    · obtain rfl : j = n := by omega
      go_wp2_with fail
      go_ret
      refine ⟨_, rfl, ?_, HB.out.2⟩
      have h := HB.out.1
      have e := HN.out.2.1
      rw [HE.out, List.length_map, e]
      have e2 := bumped_all s R
      rw [e] at e2
      rw [← e2]
      exact h
end Go.Proofs.YtemgcliihbjjiaaDoor
