/- RoutePlays: the walk. -/
import Derived.Test.YtemgcliihbjjiaaDoorRref5
import Derived.Test.YtemgcliihbjjiaaDoorHnd
import Derived.Deep.RegionWith
namespace Go.Proofs.YtemgcliihbjjiaaDoor
open Go.RowKit Go.My

theorem src_other {w w' : World} {a b : Option Addr} {cap n c r : Nat} {T : TypeId} {l : List Pc} (h : SrcAny w a cap l) (hr : w.heap[r]? = some (.cells #[.slice b n c] T (0, 0))) (hw : Wrote [r] w w') : SrcAny w' a cap l := by
  refine ⟨fun i x hi => ?_, h.nil, h.room, h.max⟩
  obtain ⟨g, o, e1, h2, h3⟩ := h.lies i x hi
  have hne : g ≠ r := fun e => by
    subst e
    have := h3 0 _ rfl
    rw [cell_of_row _ _ _ _ _ _ hr] at this
    cases hk : o + i * 3 + 0 with
    | zero => rw [hk] at this; cases this
    | succ m => rw [hk] at this; simp at this
  exact ⟨g, o, e1, Nat.lt_of_lt_of_le h2 hw.size, fun j v hj => by rw [hw.cell (p := ⟨g, _, none⟩) h2 (by simpa using hne)]; exact h3 j v hj⟩
def DtOwn (w : World) (d : Nat) (L : List Pc) (W : World) : Prop := w.heap.size ≤ d ∧ Below w.heap.size w W ∧ ∃ a cap, DtAt W d a cap L
theorem DtOwn.below {w W W' : World} {r : Nat} {L : List Pc} (h : DtOwn w r L W) (hb : Below W.heap.size W W') : DtOwn w r L W' := by
  obtain ⟨h1, h2, a, cap, h3⟩ := h
  exact ⟨h1, h2.trans (hb.mono h2.size), a, cap, h3.below hb⟩
def Two (w : World) (r d : Nat) (L : List Pc) (W : World) : Prop := RtOwn w r L W ∧ DtOwn w d L W
theorem Two.below {w W W' : World} {r d : Nat} {L : List Pc} (h : Two w r d L W) (hb : Below W.heap.size W W') : Two w r d L W' := ⟨h.1.below hb, h.2.below hb⟩
theorem Two.below0 {w W : World} {r d : Nat} {L : List Pc} (h : Two w r d L W) : Below w.heap.size w W := h.1.2.1
theorem two_ne {W : World} {r d : Nat} {b b' : Option Addr} {n n' c c' : Nat} (h : W.heap[r]? = some (.cells #[.slice b n c] 62 (0, 0))) (h' : W.heap[d]? = some (.cells #[.slice b' n' c'] 54 (0, 0))) : r ≠ d := fun e => by
  subst e
  rw [h] at h'
  cases h'
theorem two_move {w W : World} {r d : Nat} {L : List Pc} (h : Two w r d L W) (f t : ByteArray) (s : Int) : Calls Tryd.prog 11 #[.pointer (some ⟨r, 0, none⟩), .string f, .string t, .int .i64 s] W fun e w' => e = .returned (errQ (moveErr L f t s)) ∧ RtOwn w r (moveL L f t s) w' ∧ DtOwn w d L w' ∧ Wrote [r] W w' := by
  obtain ⟨h1, h2, h3, a, cap, h4⟩ := h
  refine (own_move h1 f t s).mono ?_
  rintro e w' ⟨he, ho, hw⟩
  obtain ⟨k1, k2, b, c, k3⟩ := h1
  refine ⟨he, ho, ⟨h2, h3.trans (hw.below h3.size fun k hk => by
    obtain rfl : k = r := by simpa using hk
    exact k1), a, cap, ⟨hw.heap h4.cell (by simpa using (two_ne k3.cell h4.cell).symm), src_other h4.src k3.cell hw, h4.ok⟩⟩, hw⟩
theorem two_doc {w W : World} {r d : Nat} {L M : List Pc} (hr : RtOwn w r M W) (hd : DtOwn w d L W) (f t : ByteArray) (s : Int) : Calls Tryd.prog 19 #[.pointer (some ⟨d, 0, none⟩), .string f, .string t, .int .i64 s] W fun e w' => e = .returned (.tuple #[.int .i64 (errE (moveErr L f t s)), .int .i64 (errA (moveErr L f t s))]) ∧ RtOwn w r M w' ∧ DtOwn w d (moveL L f t s) w' ∧ Wrote [d] W w' := by
  obtain ⟨h2, h3, a, cap, h4⟩ := hd
  obtain ⟨k1, k2, b, c, k3⟩ := hr
  refine (docmove_19 d a cap L f t s W h4).mono ?_
  rintro e w' ⟨hw, he, a', cap', hat⟩
  have hb : Below w.heap.size w w' := h3.trans (hw.below h3.size fun k hk => by
    obtain rfl : k = d := by simpa using hk
    exact h2)
  exact ⟨he, ⟨k1, hb, b, c, ⟨hw.heap k3.cell (by simpa using two_ne k3.cell h4.cell), src_other k3.src h4.cell hw, k3.ok⟩⟩, ⟨h2, hb, a', cap', hat⟩, hw⟩
theorem two_ones {w W : World} {r d : Nat} {L : List Pc} (h : Two w r d L W) (f t : ByteArray) : Calls Tryd.prog 18 #[.pointer (some ⟨d, 0, none⟩), .string f, .string t] W fun e w' => e = .returned (.tuple #[.agg #[.string (oneX L f t).fr, .int .i64 (oneX L f t).sh, .int .i64 (oneX L f t).ep], .bool (oneB L f t)]) ∧ Below W.heap.size W w' := by
  obtain ⟨_, _, _, a, cap, h4⟩ := h
  exact one_18 d a cap L f t W h4
theorem two_owners {w W : World} {r d : Nat} {L : List Pc} (h : Two w r d L W) (k : ByteArray) : Calls Tryd.prog 20 #[.pointer (some ⟨d, 0, none⟩), .string k] W fun e w' => e = .returned (.agg #[.string (ow pc0 L k).fr, .int .i64 (ow pc0 L k).sh, .int .i64 (ow pc0 L k).ep]) ∧ Below W.heap.size W w' := by
  obtain ⟨_, _, _, a, cap, h4⟩ := h
  exact owner_20 d a cap L k W h4
theorem ofErr_ne {l : List Pc} : ∀ q, ofErr l = some q → q.1 ≠ 0 := by
  intro q h
  unfold ofErr at h
  split at h
  · cases h; exact (by decide : (1 : Int) ≠ 0)
  · split at h
    · cases h; exact (by decide : (71 : Int) ≠ 0)
    · cases hb : firstBad l with
      | none => rw [hb] at h; cases h
      | some i => rw [hb] at h; cases h; exact (by decide : (1 : Int) ≠ 0)
theorem moveErr_ne {l : List Pc} {f t : ByteArray} {s : Int} : ∀ q, moveErr l f t s = some q → q.1 ≠ 0 := by
  intro q h
  unfold moveErr at h
  split at h
  · cases h; exact (by decide : (91 : Int) ≠ 0)
  · split at h
    · cases h; exact (by decide : (1 : Int) ≠ 0)
    · split at h
      · cases h; exact (by decide : (1 : Int) ≠ 0)
      · split at h
        · cases h; exact (by decide : (71 : Int) ≠ 0)
        · cases h
def BoxAt (W : World) (b : Nat) (x : Pc) : Prop := W.heap[b]? = some (.cells #[.string x.fr, .int .i64 x.sh, .int .i64 x.ep] 35 (0, 0))
set_option maxRecDepth 100000 in
set_option maxHeartbeats 6400000 in
theorem plays_8 (a ma ka : Option Addr) (cap mc kc : Nat) (l : List Pc) (ms : List Mv) (ks : List ByteArray) (w : World) (hg : TypeIs w) (hs : SrcAny w a cap l) (hl : (l.length : Int) ≤ 70368744177664)
    (hms : Lies w ma 3 mvL ms) (hks : Lies w ka 1 kyL ks) (hml : (ms.length : Int) ≤ 70368744177664) (hkl : (ks.length : Int) ≤ 70368744177664) :
    Calls Tryd.prog 8 #[.slice a l.length cap, .slice ma ms.length mc, .slice ka ks.length kc] w fun e w' => e = .returned (.bool true) ∧ Below w.heap.size w w' := by
  have HH := Lib.hid (head_9 w hg)
  have HG := Lib.hid hg
  have HS := Lib.hid hs
  have HMS := Lib.hid hms
  have HKS := Lib.hid hks
  have HOF : Hid (∀ W, Below w.heap.size w W → Calls Tryd.prog 10 #[.slice a l.length cap] W (OfLeft W l)) := fun W hb => of_10 a cap l W (HS.out.below hb) hl
  have HDO : Hid (∀ W, Below w.heap.size w W → Calls Tryd.prog 16 #[.slice a l.length cap] W (DocOf W l)) := fun W hb => docof_16 a cap l W (HS.out.below hb) hl
  have HTO : Hid (∀ o W, Below w.heap.size w W → (∀ q, o = some q → q.1 ≠ 0) → Calls Tryd.prog 17 #[errQ o, .int .i64 (errE o), .int .i64 (errA o)] W (BoolLeft W true)) := fun o W hb ho => told_17 o W (HG.out.below HG.out.lt hb) ho
  obtain ⟨n, hn⟩ : ∃ n, n = l.length := ⟨_, rfl⟩
  obtain ⟨mn, hmn⟩ : ∃ n, n = ms.length := ⟨_, rfl⟩
  obtain ⟨kn, hkn⟩ : ∃ n, n = ks.length := ⟨_, rfl⟩
  have HMN := Lib.hid hmn
  have HKN := Lib.hid hkn
  rw [← hn] at HOF HDO hl ⊢
  rw [← hmn] at hml ⊢
  rw [← hkn] at hkl ⊢
  clear hg hs hn hms hks hmn hkn
  by_cases hn100 : (100 : Int) < (n : Int)
  · go_enter Tryd.func8, Tryd.ntmps8
    go_wp2_with fail
    refine HH.out.mono ?_
    rintro e w1 ⟨rfl, hb⟩
    have HB1 := Lib.hid hb
    clear hb
    go_wp2_with fail
    go_ret
    exact ⟨rfl, HB1.out⟩
  by_cases hm60 : (60 : Int) < (mn : Int)
  · go_enter Tryd.func8, Tryd.ntmps8
    go_wp2_with fail
    refine HH.out.mono ?_
    rintro e w1 ⟨rfl, hb⟩
    have HB1 := Lib.hid hb
    clear hb
    go_wp2_with fail
    go_ret
    exact ⟨rfl, HB1.out⟩
  by_cases hk60 : (60 : Int) < (kn : Int)
  · go_enter Tryd.func8, Tryd.ntmps8
    go_wp2_with fail
    refine HH.out.mono ?_
    rintro e w1 ⟨rfl, hb⟩
    have HB1 := Lib.hid hb
    clear hb
    go_wp2_with fail
    go_ret
    exact ⟨rfl, HB1.out⟩
  have hm9 : (mn : Int) ≤ 60 := by omega
  have hk9 : (kn : Int) ≤ 60 := by omega
  clear hml hkl hl
  go_enter Tryd.func8, Tryd.ntmps8
  go_wp2_with fail
  refine HH.out.mono ?_
  rintro e w1 ⟨rfl, hb⟩
  have HB1 := Lib.hid hb
  clear hb
  go_wp2_with fail
  refine (HOF.out _ HB1.out).mono ?_
  rintro e w2 h
  cases ho : ofErr l with
  | some q =>
    obtain ⟨rfl, hb⟩ := own_of_err h ho
    have HB2 := Lib.hid (HB1.out.trans (hb.mono HB1.out.size))
    have HT : Hid (∀ W, Below w.heap.size w W → Calls Tryd.prog 17 #[rErr q.1 q.2, .int .i64 q.1, .int .i64 q.2] W (BoolLeft W true)) := fun W hW => HTO.out (some q) W hW (fun q' e => by
      obtain rfl : q = q' := by simpa using e
      exact ofErr_ne _ ho)
    obtain ⟨T, v, hE⟩ := errOf_form q.1 [(routeW, q.2)]
    have hE : rErr q.1 q.2 = .iface T v := hE
    rw [hE] at HT ⊢
    have HOE := Lib.hid ho
    clear hb h ho hE
    go_wp2_with fail
    refine (HDO.out _ HB2.out).mono ?_
    rintro e w3 ⟨hb, h⟩
    obtain rfl : e = .returned (.tuple #[.pointer none, .int .i64 q.1, .int .i64 q.2]) := by
      rcases h with ⟨h, _⟩ | ⟨q', h, h2⟩
      · rw [HOE.out] at h; cases h
      · rw [HOE.out] at h
        obtain rfl : q = q' := by simpa using h
        exact h2
    have HB3 := Lib.hid (HB2.out.trans (hb.mono HB2.out.size))
    clear hb h
    go_wp2_with fail
    refine (HT.out _ HB3.out).mono ?_
    rintro e w4 ⟨rfl, hb⟩
    have HB4 := Lib.hid (HB3.out.trans (hb.mono HB3.out.size))
    clear hb
    go_wp2_with fail
    go_ret
    exact ⟨rfl, HB4.out⟩
  | none =>
    obtain ⟨r, rfl, hown, hb⟩ := own_of h HB1.out ho
    have HO2 := Lib.hid hown
    have HOE := Lib.hid ho
    have HT : Hid (∀ W, Below w.heap.size w W → Calls Tryd.prog 17 #[.nilIface, .int .i64 0, .int .i64 0] W (BoolLeft W true)) := fun W hW => HTO.out none W hW (fun q' e => by cases e)
    clear hb h ho hown
    go_wp2_with fail
    refine (HDO.out _ HO2.out.2.1).mono ?_
    rintro e w3 ⟨hb, h⟩
    obtain ⟨d, a3, c3, rfl, hd, hat⟩ : ∃ d a cap, e = .returned (.tuple #[.pointer (some ⟨d, 0, none⟩), .int .i64 0, .int .i64 0]) ∧ w2.heap.size ≤ d ∧ DtAt w3 d a cap l := by
      rcases h with ⟨_, h⟩ | ⟨q', h, h2⟩
      · exact h
      · rw [HOE.out] at h; cases h
    have HTW : Hid (Two w r d l w3) := ⟨HO2.out.below hb, Nat.le_trans HO2.out.2.1.size hd, HO2.out.2.1.trans (hb.mono HO2.out.2.1.size), a3, c3, hat⟩
    clear hb h hd hat
    go_wp2_with fail
    refine (HT.out _ HTW.out.below0).mono ?_
    rintro e w4 ⟨rfl, hb⟩
    have P0 : Hid (Two w r d (mvsL l (ms.take 0)) w4) := HTW.out.below hb
    clear hb HT HTW
    go_wp2_with fail
    go_loopw [13] (fun i wr => ∃ j : Nat, j ≤ mn ∧ i = .int .i64 j ∧ Hid (Two w r d (mvsL l (ms.take j)) wr)) (fun i _ => mn - (intOf i).toNat)
    case atStart => exact ⟨0, by omega, rfl, P0⟩
    case round =>
      clear P0
      obtain ⟨j, hj, rfl, HI⟩ := hrel
      obtain ⟨L, hL⟩ : ∃ L, L = mvsL l (ms.take j) := ⟨_, rfl⟩
      have HLQ := Lib.hid hL
      rw [← hL] at HI
      clear hL
      by_cases hlt : j < mn
      · obtain ⟨m, hm⟩ : ∃ x, ms[j]? = some x := ⟨_, List.getElem?_eq_getElem (by rw [← HMN.out]; exact hlt)⟩
        obtain ⟨g, o, rfl, lg, hc⟩ := (HMS.out.below HI.out.below0).at hm
        have d0 : wr.cell? ⟨g, o + j * 3, none⟩ = some (.string m.fr) := hc 0 _ rfl
        have d1 : wr.cell? ⟨g, o + j * 3 + 1, none⟩ = some (.string m.tt) := hc 1 _ rfl
        have d2 : wr.cell? ⟨g, o + j * 3 + 2, none⟩ = some (.int .i64 m.sh) := hc 2 _ rfl
        have hj0 : (0 : Int) ≤ (j : Int) := by omega
        have hj1 : (j : Int) < (mn : Int) := by omega
        have HSN := Lib.hid (mvs_snoc l (ms.take j) m)
        have HTK := Lib.hid (take_snoc hm)
        obtain ⟨w5, hw5⟩ : ∃ w5, w5 = wr.alloc (.cells #[.string m.fr, .string m.tt, .int .i64 m.sh] 25) := ⟨_, rfl⟩
        obtain ⟨xb, hxb⟩ : ∃ z, z = wr.heap.size := ⟨_, rfl⟩
        have hb5 : Below wr.heap.size wr w5 := by rw [hw5]; exact (Below.refl _ wr).alloc (Nat.le_refl _) _
        have HX5 : Hid (w5.heap[xb]? = some (.cells #[.string m.fr, .string m.tt, .int .i64 m.sh] 25 (0, 0))) := by show _ = _; rw [hw5, hxb]; exact heap_alloc_new wr _
        have HI5 := Lib.hid (HI.out.below hb5)
        clear hm hc hb5
        go_upto_region 14 with fail
        rw [← hw5, ← hxb]
        clear hw5 hxb d0 d1 d2 lg
        have HON := Lib.hid (own_oneB HI5.out.1 m.fr m.tt)
        have HDN : Hid (∀ W, Below w5.heap.size w5 W → Calls Tryd.prog 18 #[.pointer (some ⟨d, 0, none⟩), .string m.fr, .string m.tt] W fun e w' => e = .returned (.tuple #[.agg #[.string (oneX L m.fr m.tt).fr, .int .i64 (oneX L m.fr m.tt).sh, .int .i64 (oneX L m.fr m.tt).ep], .bool (oneB L m.fr m.tt)]) ∧ Below W.heap.size W w') := fun W hW => two_ones (HI5.out.below hW) m.fr m.tt
        obtain ⟨x, hx⟩ : ∃ x, x = oneX L m.fr m.tt := ⟨_, rfl⟩
        obtain ⟨ib, hib⟩ : ∃ ib, ib = oneB L m.fr m.tt := ⟨_, rfl⟩
        rw [← hx, ← hib] at HON HDN
        clear hx hib
        have HMC : Hid (∀ W : World, W.heap[xb]? = some (.cells #[.string m.fr, .string m.tt, .int .i64 m.sh] 25 (0, 0)) → W.cell? ⟨xb, 0, none⟩ = some (.string m.fr) ∧ W.cell? ⟨xb, 1, none⟩ = some (.string m.tt) ∧ W.cell? ⟨xb, 2, none⟩ = some (.int .i64 m.sh) ∧ xb < W.heap.size) := fun W h =>
          ⟨by rw [cell_of_row _ _ _ _ _ _ h]; rfl, by rw [cell_of_row _ _ _ _ _ _ h]; rfl, by rw [cell_of_row _ _ _ _ _ _ h]; rfl, lt_of_heap h⟩
        obtain ⟨m0, m1, m2, lm⟩ := HMC.out w5 HX5.out
        go_wp2_with fail
        refine HON.out.mono ?_
        rintro e w6 ⟨rfl, hb⟩
        obtain ⟨w7, hw7⟩ : ∃ w7, w7 = w6.alloc (.cells #[.string x.fr, .int .i64 x.sh, .int .i64 x.ep] 35) := ⟨_, rfl⟩
        obtain ⟨x7, hx7⟩ : ∃ z, z = w6.heap.size := ⟨_, rfl⟩
        have hb7 : Below w6.heap.size w6 w7 := by rw [hw7]; exact (Below.refl _ w6).alloc (Nat.le_refl _) _
        have HB7 : Hid (BoxAt w7 x7 x) := by show _ = _; rw [hw7, hx7]; exact heap_alloc_new w6 _
        have HW7 := Lib.hid (hb.trans (hb7.mono hb.size))
        clear hb hb7 m0 m1 m2 lm HON
        go_upto_region 15 with fail
        rw [← hw7, ← hx7]
        clear hw7 hx7
        have HDN7 := Lib.hid (HDN.out w7 HW7.out)
        obtain ⟨m0, m1, m2, lm⟩ := HMC.out w7 ((HW7.out.block _ (lt_of_heap HX5.out)).trans HX5.out)
        go_wp2_with fail
        refine HDN7.out.mono ?_
        rintro e w8 ⟨rfl, hb⟩
        obtain ⟨w9, hw9⟩ : ∃ w9, w9 = w8.alloc (.cells #[.string x.fr, .int .i64 x.sh, .int .i64 x.ep] 35) := ⟨_, rfl⟩
        obtain ⟨x9, hx9⟩ : ∃ z, z = w8.heap.size := ⟨_, rfl⟩
        have hb9 : Below w8.heap.size w8 w9 := by rw [hw9]; exact (Below.refl _ w8).alloc (Nat.le_refl _) _
        have hc9 : w9.heap[x9]? = some (.cells #[.string x.fr, .int .i64 x.sh, .int .i64 x.ep] 35 (0, 0)) := by rw [hw9, hx9]; exact heap_alloc_new w8 _
        have hb79 := hb.trans (hb9.mono hb.size)
        have hc7 : w9.heap[x7]? = some (.cells #[.string x.fr, .int .i64 x.sh, .int .i64 x.ep] 35 (0, 0)) := (hb79.block _ (lt_of_heap HB7.out)).trans HB7.out
        have HW9 := Lib.hid (HW7.out.trans (hb79.mono HW7.out.size))
        have HX9 := Lib.hid ((HW9.out.block _ (lt_of_heap HX5.out)).trans HX5.out)
        clear m0 m1 m2 lm HDN7 HDN
        go_upto_region 16 with fail
        rw [← hw9, ← hx9]
        have p0 : w9.cell? ⟨x7, 0, none⟩ = some (.string x.fr) := by rw [cell_of_row _ _ _ _ _ _ hc7]; rfl
        have p1 : w9.cell? ⟨x7, 1, none⟩ = some (.int .i64 x.sh) := by rw [cell_of_row _ _ _ _ _ _ hc7]; rfl
        have p2 : w9.cell? ⟨x7, 2, none⟩ = some (.int .i64 x.ep) := by rw [cell_of_row _ _ _ _ _ _ hc7]; rfl
        have q0 : w9.cell? ⟨x9, 0, none⟩ = some (.string x.fr) := by rw [cell_of_row _ _ _ _ _ _ hc9]; rfl
        have q1 : w9.cell? ⟨x9, 1, none⟩ = some (.int .i64 x.sh) := by rw [cell_of_row _ _ _ _ _ _ hc9]; rfl
        have q2 : w9.cell? ⟨x9, 2, none⟩ = some (.int .i64 x.ep) := by rw [cell_of_row _ _ _ _ _ _ hc9]; rfl
        have lp := lt_of_heap hc7
        have lq := lt_of_heap hc9
        clear hb hw9 hx9 hb9 hc9 hb79 hc7
        have HTW9 := Lib.hid (HI5.out.below HW9.out)
        obtain ⟨m0, m1, m2, lm⟩ := HMC.out w9 HX9.out
        have HMV := Lib.hid (two_move HTW9.out m.fr m.tt m.sh)
        obtain ⟨ev, hev⟩ : ∃ ev, ev = errQ (moveErr L m.fr m.tt m.sh) := ⟨_, rfl⟩
        obtain ⟨e1, he1⟩ : ∃ ev, ev = errE (moveErr L m.fr m.tt m.sh) := ⟨_, rfl⟩
        obtain ⟨e2, he2⟩ : ∃ ev, ev = errA (moveErr L m.fr m.tt m.sh) := ⟨_, rfl⟩
        have HTT : Hid (∀ W, Below w.heap.size w W → Calls Tryd.prog 17 #[ev, .int .i64 e1, .int .i64 e2] W (BoolLeft W true)) := fun W hW => by rw [hev, he1, he2]; exact HTO.out _ W hW moveErr_ne
        obtain ⟨M, hM⟩ : ∃ M, M = moveL L m.fr m.tt m.sh := ⟨_, rfl⟩
        have HDV : Hid (∀ W, RtOwn w r M W → DtOwn w d L W → Calls Tryd.prog 19 #[.pointer (some ⟨d, 0, none⟩), .string m.fr, .string m.tt, .int .i64 m.sh] W fun e w' => e = .returned (.tuple #[.int .i64 e1, .int .i64 e2]) ∧ RtOwn w r M w' ∧ DtOwn w d M w' ∧ Wrote [d] W w') := fun W h1 h2 => by rw [he1, he2]; have := two_doc h1 h2 m.fr m.tt m.sh; rw [← hM] at this; exact this
        rw [← hev, ← hM] at HMV
        have HMQ : Hid (M = mvsL l (ms.take (j + 1))) := by show _ = _; rw [HTK.out, HSN.out, ← HLQ.out]; exact hM
        clear hev he1 he2 hM
        go_wp2_with fail
        refine HMV.out.mono ?_
        rintro e w10 ⟨rfl, hr10, hd10, hw10⟩
        have hx10 : w10.heap[xb]? = _ := hw10.heap HX9.out (by
          intro hm
          obtain rfl : xb = r := by simpa using hm
          obtain ⟨c, hc⟩ := HTW9.out.1.type
          rw [HX9.out] at hc
          cases hc)
        have HDV10 := Lib.hid (HDV.out w10 hr10 hd10)
        clear m0 m1 m2 lm p0 p1 p2 q0 q1 q2 lp lq HMV HDV
        obtain ⟨m0, m1, m2, lm⟩ := HMC.out w10 hx10
        clear hr10 hd10 hw10 hx10
        go_wp2_with fail
        refine HDV10.out.mono ?_
        rintro e w11 ⟨rfl, hr11, hd11, _⟩
        have HTW : Hid (Two w r d M w11) := ⟨hr11, hd11⟩
        clear m0 m1 m2 lm hr11 hd11 HDV10
        go_upto_region 20 with fail
        have hd : Below w11.heap.size w11 w11.drew := ⟨rfl, rfl, rfl, Nat.le_refl _, fun _ _ => rfl⟩
        have HDD := Lib.hid hd
        have HTT0 := Lib.hid (HTT.out w11.drew (HTW.out.below hd).below0)
        have HPI : Hid (∀ W, Below w11.drew.heap.size w11.drew W → Calls Tryd.prog 13 #[.pointer (some ⟨r, 0, none⟩)] W fun e w' => RowLeft W M e w' ∧ RtOwn w r M w' ∧ Below W.heap.size W w') := fun W hW => own_pieces ((HTW.out.below hd).1.below hW)
        have HMK := Lib.hid HTW.out.1.ok.len
        obtain ⟨ad, cd, HAT⟩ : ∃ ad cd, Hid (∀ W, Below w11.drew.heap.size w11.drew W → W.cell? ⟨d, 0, none⟩ = some (.slice ad M.length cd) ∧ d < W.heap.size ∧ SrcAny W ad cd M) := by
          obtain ⟨_, _, ad, cd, hat⟩ := (HTW.out.below hd).2
          exact ⟨ad, cd, fun W hW => ⟨(hat.below hW).c0, lt_of_heap (hat.below hW).cell, (hat.below hW).src⟩⟩
        obtain ⟨c0, ld, _⟩ := HAT.out w11.drew (Below.refl _ _)
        obtain ⟨mm, hmm⟩ : ∃ n, n = M.length := ⟨_, rfl⟩
        have HMM := Lib.hid hmm
        rw [← hmm] at c0 HAT HMK
        have hmi : (mm : Int) ≤ 70368744177664 := by have := HMK.out; omega
        clear hd hmm
        go_cut [134] from 120 to 133 (fun v wx => v = .bool false ∧ Two w r d M wx)
        case first =>
          go_region_with (first
            | (go_at_call 17; refine HTT0.out.mono ?_; rintro e wa ⟨rfl, hba⟩; have HBA := Lib.hid hba; obtain ⟨c0, ld, _⟩ := HAT.out wa hba; clear hba)
            | (go_at_call 13; refine (HPI.out _ HBA.out).mono ?_; rintro e wb ⟨hrow, _, hbb⟩; obtain ⟨a9, c9, rfl, hri⟩ := rowLeft_is hrow; rw [← HMM.out] at hri ⊢; have HRI := Lib.hid hri; have HBB := Lib.hid (HBA.out.trans (hbb.mono HBA.out.size)); obtain ⟨c0, ld, _⟩ := HAT.out wb HBB.out; clear hrow hri hbb)
            | (go_at_call 14; refine (same_14 _ _ _ _ _ M _ HRI.out.src.2.lies (HAT.out _ HBB.out).2.2.lies HMM.out hmi).mono ?_; rintro e wd ⟨rfl, hbd⟩; have HBD := Lib.hid (HBB.out.trans (hbd.mono HBB.out.size)); clear hbd))
          all_goals
            go_wp2_with fail
            go_meet
            refine ⟨rfl, ?_⟩
            exact (HTW.out.below HDD.out).below HBD.out
        case rest =>
          obtain ⟨rfl, htw⟩ := hcut
          have HNX : Hid (Two w r d (mvsL l (ms.take (j + 1))) wc) := by rw [← HMQ.out]; exact htw
          clear htw c0 ld
          go_wp2_with fail
          exact ⟨⟨j + 1, by omega, by simp, HNX⟩, by simp [intOf]; omega⟩
      · obtain rfl : j = mn := by omega
        have P1 : Hid (Two w r d L wr) := HI.out
        go_wp2_with fail
        go_loopw [19] (fun i wr => ∃ j : Nat, j ≤ kn ∧ i = .int .i64 j ∧ Hid (Two w r d L wr)) (fun i _ => kn - (intOf i).toNat)
        case atStart => exact ⟨0, by omega, rfl, P1⟩
        case round =>
          clear P1
          obtain ⟨j2, hj2, rfl, HJ⟩ := hrel
          by_cases hlt2 : j2 < kn
          · obtain ⟨k, hk⟩ : ∃ x, ks[j2]? = some x := ⟨_, List.getElem?_eq_getElem (by rw [← HKN.out]; exact hlt2)⟩
            obtain ⟨g, o, rfl, lg, hc⟩ := (HKS.out.below HJ.out.below0).at hk
            have k1 : wr.cell? ⟨g, o + j2, none⟩ = some (.string k) := by have := hc 0 _ rfl; simpa using this
            have k0 : ∀ X : Later wr, X.1.cell? ⟨g, o + j2, none⟩ = some (.string k) := fun X => (X.2.cell (p := ⟨g, _, none⟩) lg).trans k1
            have hj20 : (0 : Int) ≤ (j2 : Int) := by omega
            have hj21 : (j2 : Int) < (kn : Int) := by omega
            have HQ1 : Hid (∀ X : Later wr, Calls Tryd.prog 12 #[.pointer (some ⟨r, 0, none⟩), .string k] X.1 fun e w' => e = .returned (.agg #[.string (ow pc0 L k).fr, .int .i64 (ow pc0 L k).sh, .int .i64 (ow pc0 L k).ep]) ∧ ∃ Y : Later wr, w' = Y.1) := fun X => later_call (own_ownerB (HJ.out.below X.2).1 k)
            have HQ2 : Hid (∀ X : Later wr, Calls Tryd.prog 20 #[.pointer (some ⟨d, 0, none⟩), .string k] X.1 fun e w' => e = .returned (.agg #[.string (ow pc0 L k).fr, .int .i64 (ow pc0 L k).sh, .int .i64 (ow pc0 L k).ep]) ∧ ∃ Y : Later wr, w' = Y.1) := fun X => later_call (two_owners (HJ.out.below X.2) k)
            obtain ⟨x, hx⟩ : ∃ x, x = ow pc0 L k := ⟨_, rfl⟩
            rw [← hx] at HQ1 HQ2
            clear hk hc k1 hx
            go_wp2_with fail
            have here := Later.here wr
            refine wp_region_later (by kernel_rfl) (by kernel_rfl) ?_
            iterate 13 (with_reducible refine wpQuiet_step (fun K hK => ?_); (try go_simp); first | (refine hK _ ?_; clear hK K) | (apply Exists.intro; refine ⟨fun _ => ?_, hK _ ?_⟩; (go_at_call 12; with_reducible exact HQ1.out _); clear hK K) | (apply Exists.intro; refine ⟨fun _ => ?_, hK _ ?_⟩; (go_at_call 20; with_reducible exact HQ2.out _); clear hK K))
            with_reducible refine wpQuiet_nil ?_
            intro X
            have HNX : Hid (Two w r d L X.1) := HJ.out.below X.2
            clear k0 HQ1 HQ2
            go_wp2_with fail
            exact ⟨⟨j2 + 1, by omega, by simp, HNX⟩, by simp [intOf]; omega⟩
          · obtain rfl : j2 = kn := by omega
            go_wp2_with fail
            go_ret
            exact ⟨rfl, HJ.out.below0⟩
end Go.Proofs.YtemgcliihbjjiaaDoor
