/- A store: the question whose answer is fixed. -/
import Derived.Test.YtopmbphdkohbmaaText
import Derived.Test.YtopmbphdkohbmaaDrop
namespace Go.Proofs.Ytopmbphdkohbmaa
open Go.RowKit Go.My
set_option maxRecDepth 100000 in
theorem great_10 (a : Option Addr) (n cap : Nat) (w : World) (hn : (n : Int) ≤ 70368744177664) : Calls Try.prog 10 #[.slice a n cap] w fun e w' => e = .returned (.bool (decide (400 < n))) ∧ w' = w := by
  have h : (decide ((n : Int) > 400)) = decide (400 < n) := by
    by_cases h : 400 < n
    · rw [decide_eq_true h, decide_eq_true (by omega)]
    · rw [decide_eq_false h, decide_eq_false (by omega)]
  go_enter Try.func10, Try.ntmps10
  go_wp2_with fail
  go_ret
  exact ⟨rfl, rfl⟩
set_option maxRecDepth 100000 in
theorem new_19 (w : World) : Calls Try.prog 19 #[] w fun e w' => e = .returned (.pointer (some ⟨w.heap.size, 0, none⟩)) ∧ Below w.heap.size w w' ∧ StoreAt w' w.heap.size none 0 [] := by
  have HE : Hid (Below w.heap.size w (w.alloc (.cells #[.slice none 0 0] 52)) ∧ StoreAt (w.alloc (.cells #[.slice none 0 0] 52)) w.heap.size none 0 []) :=
    ⟨(Below.refl _ w).alloc (Nat.le_refl _) _, heap_alloc_new w _, ⟨fun i x hi => by simp at hi, fun _ => rfl, (fun b h => by cases h), Nat.le_refl _, Nat.zero_le _⟩, List.Pairwise.nil⟩
  go_enter Try.func19, Try.ntmps19
  go_wp2_with fail
  go_ret
  exact ⟨rfl, HE.out⟩
theorem below_at {w w2 w3 : World} {p : Nat} (h : Below w.heap.size w w2) (hw : Wrote [p] w2 w3) (hp : w.heap.size ≤ p) : Below w.heap.size w w3 :=
  h.trans (hw.below h.size fun g hg => by
    obtain rfl : g = p := by simpa using hg
    exact hp)
def kA : ByteArray := ⟨#[97]⟩
def vX : ByteArray := ⟨#[120]⟩
def vY : ByteArray := ⟨#[121]⟩
def kBad : ByteArray := ⟨#[48, 49, 50, 51, 52, 53, 54, 55, 56, 57, 97, 98, 99, 100, 101, 102, 103]⟩
def L1 : List Ent := [⟨kA, vX, 1⟩]
def L2 : List Ent := [⟨kA, vY, 2⟩]
theorem get_one (k v : ByteArray) (n : Int) : getE [⟨k, v, n⟩] k = some ⟨k, v, n⟩ := by simp [getE]
theorem join_first : joinE [] [newE [] kA vX] = L1 := by simp [joinE, newE, oldV, getE, L1, ent0]
theorem join_next : joinE L1 [newE L1 kA vY] = L2 := by
  have h := get_one kA vX 1
  simp [joinE, newE, oldV, L1, L2, h, lessK_irr]
theorem bad_first : badArg [] kA vX = false := by simp [badArg, oldV, getE, ent0, fitE, kA, vX]; decide
theorem bad_next : badArg L1 kA vY = false := by
  have h := get_one kA vX 1
  simp [badArg, oldV, L1, h, fitE]; decide
theorem full_first : full [] kA = false := by simp [full]
theorem full_next : full L1 kA = false := by simp [full, L1]
theorem bad_last : badArg L2 kBad ⟨#[]⟩ = true := by
  have : fitE ⟨kBad, ⟨#[]⟩, 1⟩ = false := by simp [fitE]; decide
  simp [badArg, this]
theorem up_one (e : Ent) : Up [e] := List.pairwise_singleton _ _
/-- The first question's store, behind its calls. -/
theorem put_a (p : Nat) (w : World) (h : StoreAt w p none 0 []) : Calls Try.prog 13 #[.pointer (some ⟨p, 0, none⟩), .string ⟨#[97]⟩, .string ⟨#[120]⟩] w fun e w' => e = .returned .nilIface ∧ Wrote [p] w w' ∧ ∃ a cap, StoreAt w' p a cap L1 :=
  (put_13 p none 0 [] kA vX w h (by simp) (by simp)).mono fun e w' ⟨h1, h2⟩ => by
    rcases h2 with ⟨hb, _⟩ | ⟨_, hf, _⟩ | ⟨_, _, rfl, a, cap, hc, hs⟩
    · rw [bad_first] at hb; cases hb
    · rw [full_first] at hf; cases hf
    · rw [join_first] at hc hs
      exact ⟨rfl, h1, a, cap, hc, hs, up_one _⟩
theorem put_b (p : Nat) (a : Option Addr) (cap : Nat) (w : World) (h : StoreAt w p a cap L1) : Calls Try.prog 13 #[.pointer (some ⟨p, 0, none⟩), .string ⟨#[97]⟩, .string ⟨#[121]⟩] w fun e w' => e = .returned .nilIface ∧ Wrote [p] w w' ∧ ∃ a cap, StoreAt w' p a cap L2 :=
  (put_13 p a cap L1 kA vY w h (by simp [L1]) (by intro e he; simp [L1] at he; subst he; decide)).mono fun e w' ⟨h1, h2⟩ => by
    rcases h2 with ⟨hb, _⟩ | ⟨_, hf, _⟩ | ⟨_, _, rfl, a, cap, hc, hs⟩
    · rw [bad_next] at hb; cases hb
    · rw [full_next] at hf; cases hf
    · rw [join_next] at hc hs
      exact ⟨rfl, h1, a, cap, hc, hs, up_one _⟩
theorem put_c (p : Nat) (a : Option Addr) (cap : Nat) (w : World) (h : StoreAt w p a cap L2) : Calls Try.prog 13 #[.pointer (some ⟨p, 0, none⟩), .string ⟨#[48, 49, 50, 51, 52, 53, 54, 55, 56, 57, 97, 98, 99, 100, 101, 102, 103]⟩, .string ⟨#[]⟩] w fun e w' => e = .returned (errV 1 1) ∧ Wrote [p] w w' ∧ ∃ a cap, StoreAt w' p a cap L2 :=
  (put_13 p a cap L2 kBad ⟨#[]⟩ w h (by simp [L2]) (by intro e he; simp [L2] at he; subst he; decide)).mono fun e w' ⟨h1, h2⟩ => by
    rcases h2 with ⟨_, rfl, a, cap, hs⟩ | ⟨hb, _⟩ | ⟨hb, _⟩
    · exact ⟨rfl, h1, a, cap, hs⟩
    · rw [bad_last] at hb; cases hb
    · rw [bad_last] at hb; cases hb
theorem get_a (p : Nat) (a : Option Addr) (cap : Nat) (w : World) (h : StoreAt w p a cap L2) : Calls Try.prog 11 #[.pointer (some ⟨p, 0, none⟩), .string ⟨#[97]⟩] w fun e w' => e = .returned (.tuple #[.agg #[.string ⟨#[97]⟩, .string ⟨#[121]⟩, .int .i64 2], .bool true]) ∧ Below w.heap.size w w' :=
  (get_11 p a cap L2 kA w h (by simp [L2])).mono fun e w' ⟨h1, h2⟩ => ⟨by rw [h1]; unfold L2; rw [get_one]; rfl, h2⟩
theorem of_bad (H : Nat) (w : World) (h : w.heap[H]? = some (.cells #[.string ⟨#[97]⟩, .string ⟨#[]⟩, .int .i64 0] 28 (0, 0))) : Calls Try.prog 9 #[.slice (some ⟨H, 0, none⟩) 1 1] w fun e w' => e = .returned (.pointer none) ∧ Below w.heap.size w w' :=
  (of_9 (some ⟨H, 0, none⟩) 1 [⟨⟨#[97]⟩, ⟨#[]⟩, 0⟩] w (src_one h).any (by simp) (by intro e he; simp at he; subst he; decide)).mono fun e w' ⟨h1, h2⟩ => by
    rcases h2 with ⟨rfl, _⟩ | ⟨_, _, _, _, ho, _⟩
    · exact ⟨rfl, h1⟩
    · have := ho.fit _ (List.mem_singleton.2 rfl)
      simp [fitE] at this
set_option maxRecDepth 100000 in
set_option maxHeartbeats 3200000 in
theorem head_8 (w : World) : Calls Try.prog 8 #[] w fun e w' => e = .returned (.bool true) ∧ Below w.heap.size w w' := by
  have HN := Lib.hid (new_19 w)
  go_enter Try.func8, Try.ntmps8
  go_wp2_with fail
  refine HN.out.mono ?_
  rintro e w1 ⟨rfl, hb1, hs1⟩
  have HB1 := Lib.hid hb1
  obtain ⟨p, hp⟩ : ∃ p, p = w.heap.size := ⟨_, rfl⟩
  rw [← hp] at hs1 ⊢
  have HP := Lib.hid hp
  have HS1 := Lib.hid hs1
  obtain ⟨W2, hW2⟩ : ∃ W2, W2 = w1.alloc (.cells #[.string ⟨#[97]⟩, .string ⟨#[]⟩, .int .i64 0] 28) := ⟨_, rfl⟩
  have HOF : Hid (Calls Try.prog 9 #[.slice (some ⟨w1.heap.size, 0, none⟩) 1 1] W2 fun e w' => e = .returned (.pointer none) ∧ Below w1.heap.size w1 w') := by
    show Calls _ _ _ _ _
    rw [hW2]
    have hb := (Below.refl w1.heap.size w1).alloc (Nat.le_refl _) (.cells #[.string ⟨#[97]⟩, .string ⟨#[]⟩, .int .i64 0] 28)
    exact (of_bad w1.heap.size _ (heap_alloc_new w1 _)).mono fun e w' ⟨h1, h2⟩ => ⟨h1, hb.trans (h2.mono hb.size)⟩
  clear hb1 hp hs1
  go_wp2_with fail
  rw [← hW2]
  clear hW2
  refine HOF.out.mono ?_
  rintro e w2 ⟨rfl, hb2⟩
  have HB2 := Lib.hid (HB1.out.trans (hb2.mono HB1.out.size))
  have HPA := Lib.hid (put_a p w2 (HS1.out.below hb2))
  clear hb2
  go_wp2_with fail
  refine HPA.out.mono ?_
  rintro e w3 ⟨rfl, hw3, a3, c3, hs3⟩
  have HB3 : Hid (Below w.heap.size w w3) := below_at HB2.out hw3 (by rw [HP.out]; exact Nat.le_refl _)
  have HPB := Lib.hid (put_b p a3 c3 w3 hs3)
  clear hw3 hs3
  go_wp2_with fail
  refine HPB.out.mono ?_
  rintro e w4 ⟨rfl, hw4, a4, c4, hs4⟩
  have HB4 : Hid (Below w.heap.size w w4) := below_at HB3.out hw4 (by rw [HP.out]; exact Nat.le_refl _)
  have HS4 := Lib.hid hs4
  have HGA := Lib.hid (get_a p a4 c4 w4 hs4)
  clear hw4 hs4
  go_wp2_with fail
  refine HGA.out.mono ?_
  rintro e w5 ⟨rfl, hb5⟩
  obtain ⟨W6, hW6⟩ : ∃ W6, W6 = w5.alloc (.cells #[.string ⟨#[97]⟩, .string ⟨#[121]⟩, .int .i64 2] 28) := ⟨_, rfl⟩
  have HB6 : Hid (Below w4.heap.size w4 W6 ∧ W6.heap[w5.heap.size]? = some (.cells #[.string ⟨#[97]⟩, .string ⟨#[121]⟩, .int .i64 2] 28 (0, 0))) := by
    show _ ∧ _
    rw [hW6]; exact ⟨hb5.alloc hb5.size _, heap_alloc_new w5 _⟩
  have HPC := Lib.hid (put_c p a4 c4 W6 (HS4.out.below HB6.out.1))
  clear hb5
  go_wp2_with fail
  rw [← hW6]
  obtain ⟨xb, hxb⟩ : ∃ xb, xb = w5.heap.size := ⟨_, rfl⟩
  rw [← hxb] at HB6 ⊢
  clear hW6
  refine HPC.out.mono ?_
  rintro e w7 ⟨rfl, hw7, a7, c7, hs7⟩
  have HB7 : Hid (Below w.heap.size w w7) := below_at (HB4.out.trans (HB6.out.1.mono HB4.out.size)) hw7 (by rw [HP.out]; exact Nat.le_refl _)
  have hx7 : w7.heap[xb]? = some (.cells #[.string ⟨#[97]⟩, .string ⟨#[121]⟩, .int .i64 2] 28 (0, 0)) := (hw7.block xb (lt_of_heap HB6.out.2) (by
    intro hm
    obtain rfl : xb = p := by simpa using hm
    have h := (HS4.out.below HB6.out.1).cell
    rw [HB6.out.2] at h
    cases h)).trans HB6.out.2
  have x1 : w7.cell? ⟨xb, 1, none⟩ = some (.string ⟨#[121]⟩) := by rw [cell_of_row _ _ _ _ _ _ hx7]; rfl
  have x2 : w7.cell? ⟨xb, 2, none⟩ = some (.int .i64 2) := by rw [cell_of_row _ _ _ _ _ _ hx7]; rfl
  have lx := lt_of_heap hx7
  have HT := Lib.hid (text1 w7)
  have HS7 := Lib.hid hs7
  clear hw7 hs7 hx7 hxb
  go_wp2_with fail
  refine HT.out.mono ?_
  rintro e w8 ⟨rfl, hb8⟩
  have HB8 := Lib.hid (HB7.out.trans (hb8.mono HB7.out.size))
  have hs8 := HS7.out.below hb8
  have HR1 := Lib.hid (room_17 p a7 c7 L2 127 w8 hs8 (by simp [L2]))
  have HR2 := Lib.hid (room_17 p a7 c7 L2 128 w8 hs8 (by simp [L2]))
  have e1 : decide ((127 : Int) ≤ 128 - (L2.length : Int)) = true := by simp [L2]
  have e2 : decide ((128 : Int) ≤ 128 - (L2.length : Int)) = false := by simp [L2]
  rw [e1] at HR1
  rw [e2] at HR2
  have hst : store1.toList = [115, 116, 111, 114, 101, 32, 49, 58, 32, 99, 111, 104, 111, 114, 116, 58, 32, 101, 114, 114, 111, 114, 32, 49] := by rw [Lib.toList_data]; rfl
  clear hb8 hs8
  go_wp2_with fail
  refine HR1.out.mono ?_
  rintro e w' ⟨rfl, rfl⟩
  go_wp2_with fail
  refine HR2.out.mono ?_
  rintro e w'' ⟨rfl, rfl⟩
  go_wp2_with fail
  go_ret
  exact ⟨rfl, HB8.out⟩
set_option maxRecDepth 100000 in
set_option maxHeartbeats 1600000 in
theorem same_yes (ra rb : Option Addr) (ca cb : Nat) (L : List Ent) (w : World) (ha : SrcAny w ra ca L) (hb : SrcAny w rb cb L) (hn9 : L.length ≤ 100000) :
    Calls Try.prog 14 #[.slice ra L.length ca, .slice rb L.length cb] w fun e w' => e = .returned (.bool true) ∧ Below w.heap.size w w' := by
  have HA := Lib.hid ha.lies
  have HB := Lib.hid hb.lies
  obtain ⟨n, hn⟩ : ∃ n, n = L.length := ⟨_, rfl⟩
  rw [← hn] at hn9 ⊢
  have HN := Lib.hid hn
  have hn8 : (n : Int) ≤ 100000 := by omega
  clear ha hb hn hn9
  go_enter Try.func14, Try.ntmps14
  go_wp2_with fail
  go_loopw [5] (fun i W => ∃ m : Nat, m ≤ n ∧ i = .int .i64 m ∧ Hid (Below w.heap.size w W)) (fun i _ => n - (intOf i).toNat)
  case atStart => exact ⟨0, by omega, rfl, Below.refl _ _⟩
  case round =>
    obtain ⟨m, hm, rfl, HR⟩ := hrel
    by_cases hlt : m < n
    · obtain ⟨e, he⟩ : ∃ e, L[m]? = some e := ⟨_, List.getElem?_eq_getElem (by rw [← HN.out]; exact hlt)⟩
      obtain ⟨g, o, rfl, hg, hc⟩ := HA.out.below HR.out m e he
      obtain ⟨g', o', rfl, hg', hc'⟩ := HB.out.below HR.out m e he
      have d0 : wr.cell? ⟨g, o + m * 3, none⟩ = some (.string e.key) := hc 0 _ rfl
      have d1 : wr.cell? ⟨g, o + m * 3 + 1, none⟩ = some (.string e.value) := hc 1 _ rfl
      have d2 : wr.cell? ⟨g, o + m * 3 + 2, none⟩ = some (.int .i64 e.ver) := hc 2 _ rfl
      have f0 : wr.cell? ⟨g', o' + m * 3, none⟩ = some (.string e.key) := hc' 0 _ rfl
      have f1 : wr.cell? ⟨g', o' + m * 3 + 1, none⟩ = some (.string e.value) := hc' 1 _ rfl
      have f2 : wr.cell? ⟨g', o' + m * 3 + 2, none⟩ = some (.int .i64 e.ver) := hc' 2 _ rfl
      have hm0 : (0 : Int) ≤ (m : Int) := by omega
      have hm1 : (m : Int) < (n : Int) := by omega
      have HND : Hid (∀ nq, Below w.heap.size w (wr.drewN nq)) := fun nq => HR.out.trans ⟨rfl, rfl, rfl, by simp, fun _ _ => rfl⟩
      clear he hc hc'
      go_wp2_with fail
      go_quiet (fail)
      go_wp2_with fail
      exact ⟨⟨m + 1, by omega, by simp, HND.out _⟩, by simp [intOf]; omega⟩
    · obtain rfl : m = n := by omega
      go_wp2_with fail
      go_ret
      exact ⟨rfl, HR.out⟩
end Go.Proofs.Ytopmbphdkohbmaa
