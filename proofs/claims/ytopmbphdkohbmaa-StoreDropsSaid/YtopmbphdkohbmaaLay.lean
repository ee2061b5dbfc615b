/- A store: entries are laid in. -/
import Derived.Test.YtopmbphdkohbmaaPut
namespace Go.Proofs.Ytopmbphdkohbmaa
open Go.RowKit Go.My
def LayLeft (w : World) (p : Nat) (L M : List Ent) (e : Ending) (w' : World) : Prop :=
  Wrote [p] w w' ∧
  ((¬ OfOK M ∧ e = .returned (errV 1 L.length) ∧ ∃ a cap, StoreAt w' p a cap L) ∨
   (OfOK M ∧ 128 < (joinE L M).length ∧ e = .returned (errV 71 L.length) ∧ ∃ a cap, StoreAt w' p a cap L) ∨
   (OfOK M ∧ (joinE L M).length ≤ 128 ∧ e = .returned .nilIface ∧ ∃ a cap, w'.heap[p]? = some (.cells #[.slice a (joinE L M).length cap] 52 (0, 0)) ∧ SrcAt w' a cap (joinE L M)))
set_option maxRecDepth 100000 in
set_option maxHeartbeats 3200000 in
theorem lay_16 (p : Nat) (a ma : Option Addr) (cap mc : Nat) (L M : List Ent) (w : World) (h : StoreAt w p a cap L) (hl : L.length ≤ 500) (hm : SrcAny w ma mc M) (hM : (M.length : Int) ≤ 70368744177664) (hz : ∀ e ∈ M, e.key.size ≤ maxLen ∧ e.value.size ≤ maxLen) :
    Calls Try.prog 16 #[.pointer (some ⟨p, 0, none⟩), .slice ma M.length mc] w (LayLeft w p L M) := by
  have H := Lib.hid h
  have HM := Lib.hid hm
  have HL := Lib.hid hl
  have HO := Lib.hid (of_9 ma mc M w hm hM hz)
  have HJ : Hid (∀ W, Below w.heap.size w W → OfOK M → Calls Try.prog 26 #[.slice a L.length cap, .slice ma M.length mc] W (JoinLeft W (joinE L M))) := fun W hb ho => joined_26 a ma cap mc L M W (h.src.below hb).any (hm.below hb) (by omega) (by have := ho.few; omega)
  have lp := lt_of_heap h.cell
  obtain ⟨mn, hmn⟩ : ∃ mn, mn = M.length := ⟨_, rfl⟩
  have HMN := Lib.hid hmn
  rw [← hmn] at HO HJ ⊢
  clear h hl hm hM hz hmn
  go_enter Try.func16, Try.ntmps16
  go_wp2_with fail
  refine HO.out.mono ?_
  rintro e w1 ⟨hb1, ho⟩
  have HB1 := Lib.hid hb1
  clear hb1
  rcases ho with ⟨rfl, hno⟩ | ⟨q, qa, qc, rfl, hok, _⟩
  · have HNO := Lib.hid hno
    have HW := Lib.hid (wrong_25 p a cap L 1 (by decide) w1 (H.out.below HB1.out) (by have := HL.out; omega))
    clear hno
    go_wp2_with fail
    refine HW.out.mono ?_
    rintro r w3 ⟨rfl, hb3⟩
    have HB3 := Lib.hid (HB1.out.trans (hb3.mono HB1.out.size))
    clear hb3
    go_wp2_with fail
    go_ret
    exact ⟨(Wrote.of_below (S := []) HB3.out).mono (by simp), .inl ⟨HNO.out, rfl, a, cap, H.out.below HB3.out⟩⟩
  · have HOK := Lib.hid hok
    have hs1 := H.out.below HB1.out
    have q0 : w1.cell? ⟨p, 0, none⟩ = some (.slice a L.length cap) := by rw [cell_of_row _ _ _ _ _ _ hs1.cell]; rfl
    have lp1 := lt_of_heap hs1.cell
    clear hok hs1
    go_wp2_with fail
    refine (HJ.out w1 HB1.out HOK.out).mono ?_
    rintro r w2 ⟨u, rfl, hown, hb2⟩
    have HB2 := Lib.hid (HB1.out.trans (hb2.mono HB1.out.size))
    obtain ⟨ja, jc, rfl, _⟩ := row_form hown
    have HROW := Lib.hid hown
    obtain ⟨J, hJ⟩ : ∃ J, J = joinE L M := ⟨_, rfl⟩
    rw [← hJ] at HROW ⊢
    have HJD := Lib.hid hJ
    have hc := (H.out.below HB2.out).cell
    have q0 : w2.cell? ⟨p, 0, none⟩ = some (.slice a L.length cap) := by rw [cell_of_row _ _ _ _ _ _ hc]; rfl
    have fz : ∀ i, w2.frozen? ⟨p, i, none⟩ = false := fun i => by simp [World.frozen?, hc]
    have lp2 := lt_of_heap hc
    have HC := Lib.hid hc
    clear hown hb2 hJ hc
    by_cases h128 : (128 : Int) < (J.length : Int)
    · have HW := Lib.hid (wrong_25 p a cap L 71 (by decide) w2 (H.out.below HB2.out) (by have := HL.out; omega))
      go_wp2_with fail
      refine HW.out.mono ?_
      rintro r w3 ⟨rfl, hb3⟩
      have HB3 := Lib.hid (HB2.out.trans (hb3.mono HB2.out.size))
      clear hb3
      go_wp2_with fail
      go_ret
      exact ⟨(Wrote.of_below (S := []) HB3.out).mono (by simp), .inr (.inl ⟨HOK.out, by rw [← HJD.out]; omega, rfl, a, cap, H.out.below HB3.out⟩)⟩
    · have HEND : Hid (Wrote [p] w (w2.setCell ⟨p, 0, none⟩ (.slice ja J.length jc)) ∧ (w2.setCell ⟨p, 0, none⟩ (.slice ja J.length jc)).heap[p]? = some (.cells #[.slice ja J.length jc] 52 (0, 0)) ∧ SrcAt (w2.setCell ⟨p, 0, none⟩ (.slice ja J.length jc)) ja jc J) := by
        refine ⟨((Wrote.of_below (S := []) HB2.out).mono (T := [p]) (by simp)).setCell (p := ⟨p, 0, none⟩) (.inl (List.mem_singleton.2 rfl)) _, heap_setCell_same _ p 0 _ _ _ HC.out, ?_⟩
        refine row_src (row_wrote HROW.out ((Wrote.refl [p] w2).setCell (p := ⟨p, 0, none⟩) (.inl (List.mem_singleton.2 rfl)) _) fun g hg hm => ?_) rfl
        obtain rfl : g = p := by simpa using hm
        obtain ⟨_, cur, hcur⟩ := row_block HROW.out hg
        rw [HC.out] at hcur
        cases hcur
      go_wp2_with fail
      go_ret
      exact ⟨HEND.out.1, .inr (.inr ⟨HOK.out, by rw [← HJD.out]; omega, rfl, ja, jc, by rw [← HJD.out]; exact HEND.out.2.1, by rw [← HJD.out]; exact HEND.out.2.2⟩)⟩
end Go.Proofs.Ytopmbphdkohbmaa
