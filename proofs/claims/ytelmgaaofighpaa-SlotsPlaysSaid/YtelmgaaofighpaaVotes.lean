/- SlotsVotes: the walk. -/
import Derived.Test.YtelmgaaofighpaaDoes
namespace Go.Proofs.Ytelmgaaofighpaa
open Go.RowKit Go.My Go.My.Slots

structure Op6 where
  what : Int
  n : Int
  kind : Int
  who : Int
  d : Int
  v : Int

def OpsAt (w : World) (a : Option Addr) (ops : List Op6) : Prop :=
  ∀ i o, ops[i]? = some o → o.n ≤ 9223372036854775807 ∧ ∃ b off, a = some ⟨b, off, none⟩ ∧ b < w.heap.size ∧
    w.cell? ⟨b, off + i * 6, none⟩ = some (.int .i64 o.what) ∧ w.cell? ⟨b, off + i * 6 + 1, none⟩ = some (.int .i64 o.n) ∧ w.cell? ⟨b, off + i * 6 + 2, none⟩ = some (.int .i64 o.kind) ∧
    w.cell? ⟨b, off + i * 6 + 3, none⟩ = some (.int .i64 o.who) ∧ w.cell? ⟨b, off + i * 6 + 4, none⟩ = some (.int .i64 o.d) ∧ w.cell? ⟨b, off + i * 6 + 5, none⟩ = some (.int .i64 o.v)

/-! ### who voted, as a list -/
theorem whoL_mem {s : St} {kind n d x : Int} : x ∈ whoL s kind n d ↔ x ∈ nums ∧ aget s.votes (kind, n, x) = some d := by
  unfold whoL; rw [List.mem_filter]; simp
theorem nums_mem {x : Int} (h : x ∈ nums) : ∃ j : Nat, x = (j : Int) ∧ j ≤ 9 := by
  refine ⟨x.toNat, ?_, ?_⟩
  · simp [nums] at h; omega
  · simp [nums] at h; omega
theorem nums_up : nums.Pairwise (· < ·) := by decide
theorem whoL_up (s : St) (kind n d : Int) : (whoL s kind n d).Pairwise (· < ·) := nums_up.filter _
theorem up_take {l : List Int} (h : l.Pairwise (· < ·)) {i : Nat} {x : Int} (hx : l[i]? = some x) : x ∉ l.take i := by
  intro hm
  obtain ⟨j, hj, hjx⟩ := List.mem_iff_getElem.1 hm
  simp at hj
  obtain ⟨hi, hix⟩ := List.getElem?_eq_some_iff.1 hx
  have := List.pairwise_iff_getElem.1 h j i (by omega) hi (by omega)
  simp at hjx
  omega
theorem up_next {l : List Int} (h : l.Pairwise (· < ·)) {i : Nat} {x y : Int} (hy : l[i]? = some y) (hx : l[i + 1]? = some x) : y < x := by
  obtain ⟨hi, hix⟩ := List.getElem?_eq_some_iff.1 hx
  obtain ⟨hj, hjy⟩ := List.getElem?_eq_some_iff.1 hy
  have := List.pairwise_iff_getElem.1 h i (i + 1) hj hi (by omega)
  omega

def SeenAt (wx : World) (sb : Nat) (P : Int → Prop) : Prop :=
  sb < wx.heap.size ∧ ∀ j : Nat, j < 16 → wx.frozen? ⟨sb, j, none⟩ = false ∧ ∃ b : Bool, wx.cell? ⟨sb, j, none⟩ = some (.bool b) ∧ (b = true ↔ P (j : Int))
theorem SeenAt.below {wx w' : World} {sb : Nat} {P : Int → Prop} (h : SeenAt wx sb P) (hb : Below wx.heap.size wx w') : SeenAt w' sb P :=
  ⟨Nat.lt_of_lt_of_le h.1 hb.size, fun j hj => by
    obtain ⟨h1, b, h2, h3⟩ := h.2 j hj
    exact ⟨(hb.frozen h.1).trans h1, b, (hb.cell h.1).trans h2, h3⟩⟩
theorem SeenAt.congr {wx : World} {sb : Nat} {P Q : Int → Prop} (h : SeenAt wx sb P) (hpq : ∀ j, P j ↔ Q j) : SeenAt wx sb Q :=
  ⟨h.1, fun j hj => by
    obtain ⟨h1, b, h2, h3⟩ := h.2 j hj
    exact ⟨h1, b, h2, h3.trans (hpq _)⟩⟩
theorem SeenAt.set {wx : World} {sb : Nat} {P : Int → Prop} (h : SeenAt wx sb P) {i : Nat} : SeenAt (wx.setCell ⟨sb, i, none⟩ (.bool true)) sb (fun j => P j ∨ j = (i : Int)) :=
  ⟨by simpa [World.setCell] using h.1, fun j hj => by
    obtain ⟨h1, b, h2, h3⟩ := h.2 j hj
    refine ⟨by simpa using h1, ?_⟩
    by_cases hij : i = j
    · subst hij
      exact ⟨true, World.cell?_setCell_same _ _ _ h2, by simp⟩
    · refine ⟨b, by rw [World.cell?_setCell_other _ _ _ _ (by intro e; injection e with _ e2; exact hij e2)]; exact h2, ?_⟩
      rw [h3]
      constructor
      · exact .inl
      · rintro (h | h)
        · exact h
        · omega⟩
theorem SeenAt.new (w : World) : SeenAt (w.alloc (.cells #[.bool false, .bool false, .bool false, .bool false, .bool false, .bool false, .bool false, .bool false, .bool false, .bool false, .bool false, .bool false, .bool false, .bool false, .bool false, .bool false] 29)) w.heap.size (fun _ => False) :=
  ⟨by simp, fun j hj => ⟨by simp, false, by
    rw [World.cell?_alloc_new]
    have : j = 0 ∨ j = 1 ∨ j = 2 ∨ j = 3 ∨ j = 4 ∨ j = 5 ∨ j = 6 ∨ j = 7 ∨ j = 8 ∨ j = 9 ∨ j = 10 ∨ j = 11 ∨ j = 12 ∨ j = 13 ∨ j = 14 ∨ j = 15 := by omega
    rcases this with rfl | rfl | rfl | rfl | rfl | rfl | rfl | rfl | rfl | rfl | rfl | rfl | rfl | rfl | rfl | rfl <;> rfl, by simp⟩⟩

structure VRel (w : World) (I : Ids) (s : St) (sb : Nat) (P : Int → Prop) (wx : World) : Prop where
  at_ : SlotsAt wx I s
  below : Below w.heap.size w wx
  seen : SeenAt wx sb P
  far : ∀ k ∈ I.list, k < sb
  base : w.heap.size ≤ sb
theorem VRel.later {w : World} {I : Ids} {s : St} {sb : Nat} {P : Int → Prop} {wx w' : World} (h : VRel w I s sb P wx) (hb : Below wx.heap.size wx w') : VRel w I s sb P w' :=
  ⟨h.at_.below hb, h.below.trans (hb.mono h.below.size), h.seen.below hb, h.far, h.base⟩
theorem VRel.congr {w : World} {I : Ids} {s : St} {sb : Nat} {P Q : Int → Prop} {wx : World} (h : VRel w I s sb P wx) (hpq : ∀ j, P j ↔ Q j) : VRel w I s sb Q wx :=
  ⟨h.at_, h.below, h.seen.congr hpq, h.far, h.base⟩
theorem VRel.set {w : World} {I : Ids} {s : St} {sb : Nat} {P : Int → Prop} {wx : World} (h : VRel w I s sb P wx) {i : Nat} : VRel w I s sb (fun j => P j ∨ j = (i : Int)) (wx.setCell ⟨sb, i, none⟩ (.bool true)) :=
  ⟨h.at_.touch ((Wrote.refl [sb] _).setCell (.inl (by simp)) _) (fun k hk => by have := h.far k hk; simp; omega), h.below.setCell h.base _, h.seen.set, h.far, h.base⟩

/-- a slice of numbers, in a block of its own -/
def Elems (wx : World) (sb : Nat) (A : Option Addr) (L : List Int) : Prop := ∀ i x, L[i]? = some x → ∃ g : Nat, A = some ⟨g, 0, none⟩ ∧ g ≠ sb ∧ wx.cell? ⟨g, i, none⟩ = some (.int .i64 x)
theorem elems_of {wx : World} {base sb cap : Nat} {v : Value} {L : List Int} (h : wx.ownsRow base 3 1 v L.length (L.map i64)) (hb : sb < base) (_hc : cap = cap) : ∃ A c, v = .slice A L.length c ∧ Elems wx sb A L := by
  rcases h.2 with ⟨rfl, h0⟩ | ⟨g, c, cur, hv, hg, _⟩
  · rw [h0]
    refine ⟨none, 0, rfl, fun i x hx => ?_⟩
    have : L = [] := List.eq_nil_of_length_eq_zero h0
    subst this
    simp at hx
  · refine ⟨some ⟨g, 0, none⟩, c, hv, fun i x hx => ⟨g, rfl, by omega, ?_⟩⟩
    subst hv
    have hi := (List.getElem?_eq_some_iff.1 hx).1
    rw [h.cellAt i (by omega)]
    simp [hx, i64]
theorem Elems.set {wx : World} {sb : Nat} {A : Option Addr} {L : List Int} (h : Elems wx sb A L) (i : Nat) (u : Value) : Elems (wx.setCell ⟨sb, i, none⟩ u) sb A L := fun j x hx => by
  obtain ⟨g, h1, h2, h3⟩ := h j x hx
  exact ⟨g, h1, h2, by rw [World.cell?_setCell_other _ _ _ _ (by intro e; injection e with e1; exact h2 e1.symm)]; exact h3⟩
theorem Elems.drewN {wx : World} {sb : Nat} {A : Option Addr} {L : List Int} (h : Elems wx sb A L) (n : Nat) : Elems (wx.drewN n) sb A L := h

theorem and15 (j : Nat) (h : j ≤ 9) : bits .and .i64 (j : Int) 15 = (j : Int) := by
  have : j = 0 ∨ j = 1 ∨ j = 2 ∨ j = 3 ∨ j = 4 ∨ j = 5 ∨ j = 6 ∨ j = 7 ∨ j = 8 ∨ j = 9 := by omega
  rcases this with rfl | rfl | rfl | rfl | rfl | rfl | rfl | rfl | rfl | rfl <;> rfl

def LoopRel (w : World) (I : Ids) (wr : World) : Prop := ∃ s, Inv s ∧ SlotsAt wr I s ∧ Below w.heap.size w wr

set_option maxRecDepth 100000 in
set_option maxHeartbeats 3200000 in
theorem votes_any (a : Option Addr) (ops : List Op6) (cap : Nat) (n kind : Int) (w : World) (ha : OpsAt w a ops) (hl : ops.length ≤ 150) :
    Calls Try.prog 3 #[.slice a ops.length cap, .int .i64 n, .int .i64 kind] w fun e w' => e = .returned (.bool true) ∧ Below w.heap.size w w' := by
  obtain ⟨len, hlen⟩ : ∃ len, len = ops.length := ⟨_, rfl⟩
  rw [← hlen] at hl ⊢
  have HA := Lib.hid ha
  have HL := Lib.hid hlen
  clear ha hlen
  go_enter Try.func3, Try.ntmps3
  go_wp2_with (go_at_call 9; refine (head_any _).mono ?_; rintro e w1 ⟨rfl, hb1⟩; have B1 := Lib.hid hb1; clear hb1)
  refine (new_any _).mono ?_
  rintro e w2 ⟨I, rfl, hs, hb, hI⟩
  have H2 := Lib.hid hs
  have B2 := Lib.hid hb
  have HI := Lib.hid hI
  clear hs hb hI
  go_wp2_with fail
  go_loopw [9] (fun i wr => ∃ k : Nat, k ≤ len ∧ i = .int .i64 k ∧ LoopRel w I wr) (fun i _ => len - (intOf i).toNat)
  case atStart => exact ⟨0, by omega, rfl, st0, inv0, H2.out, B1.out.trans (B2.out.mono B1.out.size)⟩
  case round =>
    obtain ⟨k, hk, rfl, s, hi, hs, hb⟩ := hrel
    have HS := Lib.hid hs
    have HV := Lib.hid hi
    have HB := Lib.hid hb
    clear hs hi hb
    by_cases hlt : k < len
    · have hok : ops[k]? = some (ops[k]'(by rw [← HL.out]; exact hlt)) := List.getElem?_eq_getElem _
      obtain ⟨o, ho⟩ : ∃ o, o = ops[k]'(by rw [← HL.out]; exact hlt) := ⟨_, rfl⟩
      rw [← ho] at hok
      obtain ⟨hn, b, off, rfl, hbl, c0, c1, c2, c3, c4, c5⟩ := HA.out k o hok
      have ht : ∀ j, wr.cell? ⟨b, j, none⟩ = w.cell? ⟨b, j, none⟩ := fun j => HB.out.cell hbl
      rw [← ht] at c0 c1 c2 c3 c4 c5
      have HN := Lib.hid hn
      clear ht hok ho hn
      go_wp2_with fail
      refine (does_any I s o.what o.n o.kind o.who o.d o.v _ HS.out HV.out HN.out).mono ?_
      rintro e w3 ⟨rfl, hs3, ht3⟩
      have HR : Hid (LoopRel w I w3) := ⟨_, inv_does HV.out _ _ _ _ _ _, hs3, HB.out.trans (ht3.below (Nat.le_trans HB.out.size (Nat.le_refl _)) (fun j hj => Nat.le_trans B1.out.size (HI.out j hj)))⟩
      clear hs3 ht3
      go_wp2_with fail
      go_roundw
      case rel => exact ⟨k + 1, by omega, by go_num, HR.out⟩
      case measure => simp [intOf]; omega
    · have V0 : Hid (VRel w I s wr.heap.size (fun j => ∃ d' : Nat, d' < 0 ∧ aget s.votes (kind, n, j) = some (d' : Int)) (wr.alloc (.cells #[.bool false, .bool false, .bool false, .bool false, .bool false, .bool false, .bool false, .bool false, .bool false, .bool false, .bool false, .bool false, .bool false, .bool false, .bool false, .bool false] 29))) :=
        ⟨HS.out.alloc _, HB.out.alloc HB.out.size _, (SeenAt.new wr).congr (fun j => by simp), HS.out.ids_lt, HB.out.size⟩
      obtain ⟨wo, rfl⟩ : ∃ wo : World, wo = wr := ⟨_, rfl⟩
      go_wp2_with fail
      go_loopw [11] (fun i wx => ∃ d : Nat, d ≤ 12 ∧ i = .int .i64 d ∧ VRel w I s wo.heap.size (fun j => ∃ d' : Nat, d' < d ∧ aget s.votes (kind, n, j) = some (d' : Int)) wx) (fun i _ => 12 - (intOf i).toNat)
      case atStart => exact ⟨0, by omega, rfl, V0.out⟩
      case round =>
        obtain ⟨d, hd, rfl, hV⟩ := hrel
        have V1 := Lib.hid hV
        clear hV
        by_cases hlt2 : d < 12
        · go_wp2_with fail
          refine (who_any I s kind n d _ V1.out.at_).mono ?_
          rintro e w4 ⟨v, rfl, hown, hb4⟩
          obtain ⟨A, c, rfl, hE⟩ := elems_of (cap := 0) hown V1.out.seen.1 rfl
          have V4 := Lib.hid (V1.out.later hb4)
          have E4 := Lib.hid hE
          obtain ⟨L, hL⟩ : ∃ L, L = whoL s kind n d := ⟨_, rfl⟩
          rw [← hL] at E4 ⊢
          have HLL := Lib.hid hL
          obtain ⟨m, hm⟩ : ∃ m, m = L.length := ⟨_, rfl⟩
          rw [← hm]
          have HM := Lib.hid hm
          have hm10 : m ≤ 10 := by rw [hm, hL]; exact whoK_len s kind n d 10
          clear hown hb4 hE hL hm
          go_wp2_with fail
          go_loopw [13] (fun i wy => ∃ j : Nat, j ≤ m ∧ i = .int .i64 j ∧ VRel w I s wo.heap.size (fun x => (∃ d' : Nat, d' < d ∧ aget s.votes (kind, n, x) = some (d' : Int)) ∨ x ∈ L.take j) wy ∧ Elems wy wo.heap.size A L) (fun i _ => m - (intOf i).toNat)
          case atStart => exact ⟨0, by omega, rfl, V4.out.congr (fun j => by simp), E4.out⟩
          case round =>
            obtain ⟨j, hj, rfl, hV, hE⟩ := hrel
            have V5 := Lib.hid hV
            have E5 := Lib.hid hE
            clear hV hE
            by_cases hlt3 : j < m
            · have hx : L[j]? = some (L[j]'(by rw [← HM.out]; exact hlt3)) := List.getElem?_eq_getElem _
              obtain ⟨x, hxx⟩ : ∃ x, x = L[j]'(by rw [← HM.out]; exact hlt3) := ⟨_, rfl⟩
              rw [← hxx] at hx
              clear hxx
              have hxm : x ∈ whoL s kind n d := by rw [← HLL.out]; exact List.mem_of_getElem? hx
              obtain ⟨hxn, hxv⟩ := whoL_mem.1 hxm
              obtain ⟨q, rfl, hq⟩ := nums_mem hxn
              have hnew : (q : Int) ∉ L.take j := by rw [HLL.out] at hx ⊢; exact up_take (whoL_up s kind n d) hx
              obtain ⟨g, hA, hg, hcx⟩ := E5.out j _ hx
              obtain ⟨hfz, b, hcb, hbb⟩ := V5.out.seen.2 q (by omega)
              have hbf : b = false := by
                cases b with
                | false => rfl
                | true =>
                  rcases hbb.1 rfl with ⟨d', hd', hv'⟩ | hin
                  · rw [hxv] at hv'
                    injection hv' with hv'
                    omega
                  · exact absurd hin hnew
              subst hbf
              subst hA
              have hand := and15 q hq
              have HR : Hid (∀ nq, VRel w I s wo.heap.size (fun x => (∃ d' : Nat, d' < d ∧ aget s.votes (kind, n, x) = some (d' : Int)) ∨ x ∈ L.take (j + 1)) ((wr.drewN nq).setCell ⟨wo.heap.size, q, none⟩ (.bool true)) ∧ Elems ((wr.drewN nq).setCell ⟨wo.heap.size, q, none⟩ (.bool true)) wo.heap.size (some ⟨g, 0, none⟩) L) := fun nq =>
                ⟨((V5.out.later (below_drewN (Below.refl _ _) nq)).set).congr (fun x => by
                  rw [List.take_add_one, hx]
                  simp [or_assoc]), (E5.out.drewN nq).set q _⟩
              have d1 : decide ((q : Int) < 0) = false := by simp
              have d2 : decide (9 < (q : Int)) = false := by simp; omega
              have hq2 : (q : Int) < 16 := by omega
              have hq1 : (0 : Int) ≤ q := by omega
              rcases Nat.eq_zero_or_pos j with h0 | h0
              · subst h0
                have hm0 : (0 : Int) < m := by omega
                clear hbb hg hnew hxn hxv hxm hx
                rw [show (((0 : Nat)) : Int) = 0 from rfl]
                go_wp2_with fail
                go_quiet (fail)
                go_wp2_with fail
                go_roundw
                case rel => exact ⟨1, by omega, by go_num, HR.out nq⟩
                case measure => simp [intOf]; omega
              · obtain ⟨j', rfl⟩ : ∃ j', j = j' + 1 := ⟨j - 1, by omega⟩
                have hy : L[j']? = some (L[j']'(by rw [← HM.out]; omega)) := List.getElem?_eq_getElem _
                obtain ⟨y, hyy⟩ : ∃ y, y = L[j']'(by rw [← HM.out]; omega) := ⟨_, rfl⟩
                rw [← hyy] at hy
                have hyx : y < q := by
                  have e1 := hx
                  have e2 := hy
                  rw [HLL.out] at e1 e2
                  exact up_next (whoL_up s kind n d) e2 e1
                obtain ⟨g2, hA2, hg2, hcy⟩ := E5.out j' _ hy
                injection hA2 with hA2
                injection hA2 with hA2
                subst hA2
                have d3 : decide ((q : Int) ≤ y) = false := by simp; omega
                have hj1 : (0 : Int) ≤ (j' : Int) := by omega
                have hj2 : (j' : Int) < m := by omega
                have hj3 : (j' : Int) + 1 < m := by omega
                clear hbb hg hnew hxn hxv hxm hx hy hyy hg2
                go_wp2_with fail
                go_quiet (fail)
                go_wp2_with fail
                go_roundw
                case rel => exact ⟨j' + 1 + 1, by omega, by go_num, HR.out nq⟩
                case measure => simp [intOf]; omega
            · go_wp2_with fail
              have hjm : j = m := by omega
              subst hjm
              go_roundw
              case rel =>
                refine ⟨d + 1, by omega, by go_num, V5.out.congr (fun x => ?_)⟩
                rw [List.take_of_length_le (by rw [HM.out]; exact Nat.le_refl _), HLL.out, whoL_mem]
                constructor
                · rintro (⟨d', h1, h2⟩ | ⟨_, h2⟩)
                  · exact ⟨d', by omega, h2⟩
                  · exact ⟨d, by omega, h2⟩
                · rintro ⟨d', h1, h2⟩
                  rcases Nat.lt_or_ge d' d with h3 | h3
                  · exact .inl ⟨d', h3, h2⟩
                  · obtain rfl : d' = d := by omega
                    refine .inr ⟨?_, h2⟩
                    have := (HV.out.votes _ (aget_some_mem h2)).2.2
                    simp [nums]
                    simp at this
                    omega
              case measure => simp [intOf]; omega
        · go_wp2_with fail
          go_ret
          exact ⟨rfl, V1.out.below⟩

/-- more calls than are looked at -/
theorem votes_long (a : Option Addr) (len : Nat) (cap : Nat) (n kind : Int) (w : World) (hl : 150 < len) :
    Calls Try.prog 3 #[.slice a len cap, .int .i64 n, .int .i64 kind] w fun e w' => e = .returned (.bool true) ∧ Below w.heap.size w w' := by
  go_enter Try.func3, Try.ntmps3
  go_wp2_with (go_at_call 9; refine (head_any _).mono ?_; rintro e w1 ⟨rfl, hb1⟩; have B1 := Lib.hid hb1; clear hb1)
  refine (new_any _).mono ?_
  rintro e w2 ⟨I, rfl, hs, hb, hI⟩
  have B2 := Lib.hid hb
  clear hs hb hI
  go_wp2_with fail
  go_ret
  exact ⟨rfl, B1.out.trans (B2.out.mono B1.out.size)⟩
end Go.Proofs.Ytelmgaaofighpaa
