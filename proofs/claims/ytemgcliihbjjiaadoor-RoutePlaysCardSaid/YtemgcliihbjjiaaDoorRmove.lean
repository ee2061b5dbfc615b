/- A route: a move. -/
import Derived.Test.YtemgcliihbjjiaaDoorRins
import Derived.Test.YtemgcliihbjjiaaDoorRcat
import Derived.Test.YtemgcliihbjjiaaDoorRlaw0
import Derived.Deep.DeepCutAuto
namespace Go.Proofs.YtemgcliihbjjiaaDoor
open Go.RowKit Go.My

def errQ : Option (Int × Int) → Value
  | none => .nilIface
  | some q => rErr q.1 q.2
/-- What Move leaves. -/
def MoveLeft (w : World) (r : Nat) (l : List Pc) (f t : ByteArray) (s : Int) (e : Ending) (w' : World) : Prop :=
  Wrote [r] w w' ∧ e = .returned (errQ (moveErr l f t s)) ∧ ∃ a cap, RtAt w' r a cap (moveL l f t s)
theorem move_err {w w' : World} {r cap : Nat} {a : Option Addr} {l : List Pc} {f t : ByteArray} {s : Int} {q : Int × Int} (h : RtAt w r a cap l) (hb : Below w.heap.size w w') (he : moveErr l f t s = some q) : MoveLeft w r l f t s (.returned (rErr q.1 q.2)) w' :=
  ⟨(Wrote.of_below (S := [r]) hb), by rw [he]; rfl, a, cap, by rw [moveL_some he]; exact h.below hb⟩
theorem SrcAny.sub {w : World} {g o cap : Nat} {l : List Pc} (h : SrcAny w (some ⟨g, o, none⟩) cap l) (i e : Nat) (he : e ≤ l.length) : SrcAny w (some ⟨g, o + i * 3, none⟩) (cap - i) ((l.take e).drop i) := by
  refine ⟨fun j x hj => ?_, (fun h => by cases h), ?_, ?_⟩
  · rw [List.getElem?_drop, List.getElem?_take] at hj
    split at hj
    · obtain ⟨g', o', e1, h2, h3⟩ := h.lies _ x hj
      obtain ⟨rfl, rfl⟩ : g = g' ∧ o = o' := by simpa using e1
      refine ⟨g, o + i * 3, rfl, h2, fun k v hk => ?_⟩
      rw [← h3 k v hk, Nat.add_mul]
      congr 2
      omega
    · cases hj
  · have := h.room
    simp
    omega
  · have := h.max
    omega
theorem SrcAny.none_of {w : World} {a : Addr} {cap : Nat} (hc : cap ≤ maxLen) : SrcAny w (some a) cap [] := ⟨fun i x hi => by simp at hi, fun h => (by cases h), Nat.zero_le _, hc⟩
theorem SrcAny.tail {w : World} {g o cap : Nat} {l : List Pc} (h : SrcAny w (some ⟨g, o, none⟩) cap l) (e : Nat) (he : e ≤ l.length) : SrcAny w (some (if cap = e then ⟨g, o, none⟩ else ⟨g, o + e * 3, none⟩)) (cap - e) (l.drop e) := by
  have h1 := h.room
  have h2 := h.max
  by_cases hc : cap = e
  · have e0 : l.drop e = [] := List.drop_eq_nil_of_le (by omega)
    rw [e0]
    exact SrcAny.none_of (by omega)
  · rw [if_neg hc]
    have := h.sub e l.length (Nat.le_refl _)
    rw [List.take_length] at this
    exact this
theorem SrcAny.head {w : World} {g o cap : Nat} {l : List Pc} (h : SrcAny w (some ⟨g, o, none⟩) cap l) (i : Nat) (hi : i ≤ l.length) : SrcAny w (some ⟨g, o, none⟩) cap (l.take i) := by
  have := h.sub 0 i hi
  simpa using this
theorem row_lower {w : World} {base base' : Nat} {e : TypeId} {c : Nat} {v : Value} {n : Nat} {xs : List Value} (hl : base' ≤ base) (h : w.ownsRow base e c v n xs) : w.ownsRow base' e c v n xs := by
  refine ⟨h.1, ?_⟩
  rcases h.2 with h0 | ⟨g, cap, cur, h1, h2, h3⟩
  · exact .inl h0
  · exact .inr ⟨g, cap, cur, h1, Nat.le_trans hl h2, h3⟩
/-- The rows ahead of a range, and behind it, as they are while a move goes on. -/
def AheadIs (w : World) (R : List Pc) (v : Value) (wx : World) : Prop := wx.ownsRow w.heap.size 35 3 v R.length (R.flatMap pcL) ∧ Below w.heap.size w wx
def BehindIs (W : World) (R : List Pc) (v : Value) (wx : World) : Prop := wx.ownsRow W.heap.size 35 3 v R.length (R.flatMap pcL) ∧ Below W.heap.size W wx

theorem last_get (o : Pc) (os : List Pc) : (o :: os)[os.length]? = some (lastP o os) := by
  unfold lastP
  rcases List.eq_nil_or_concat os with rfl | ⟨b, c, rfl⟩
  · rfl
  · simp
set_option maxRecDepth 100000 in
set_option maxHeartbeats 6400000 in
theorem move_11 (r : Nat) (a : Option Addr) (cap : Nat) (l : List Pc) (f t : ByteArray) (s : Int) (w : World) (h : RtAt w r a cap l) :
    Calls Tryd.prog 11 #[.pointer (some ⟨r, 0, none⟩), .string f, .string t, .int .i64 s] w (MoveLeft w r l f t s) := by
  have H := Lib.hid h
  have HG := Lib.hid (ranged_27 f t)
  cases hg : rangedB f t with
  | false =>
    rw [hg] at HG
    have HE := Lib.hid (move_err (f := f) (t := t) (s := s) (q := (91, 0)) h (Below.refl _ _) (by unfold moveErr; rw [if_pos hg]))
    have HW := Lib.hid (wrong_23 91 0 (by decide))
    clear h hg
    go_enter Tryd.func11, Tryd.ntmps11
    go_wp2_with (first | (go_at_call 27; refine (HG.out _).mono ?_; rintro e w2 ⟨rfl, rfl⟩) | (go_at_call 23; refine (HW.out _).mono ?_; rintro e w2 ⟨rfl, rfl⟩))
    go_ret
    exact HE.out
  | true =>
    rw [hg] at HG
    have HWA := Lib.hid (wrong_23 1)
    by_cases hs : s < 0 ∨ 4 ≤ s
    · have HE := Lib.hid (move_err (f := f) (t := t) (s := s) (q := (1, s)) h (Below.refl _ _) (by unfold moveErr; rw [hg]; simp only [Bool.true_eq_false, if_false]; rw [if_pos hs]))
      have HW := Lib.hid (HWA.out s (by decide))
      clear h hg HWA
      by_cases hs0 : s < 0
      · clear hs
        go_enter Tryd.func11, Tryd.ntmps11
        go_wp2_with (first | (go_at_call 27; refine (HG.out _).mono ?_; rintro e w2 ⟨rfl, rfl⟩) | (go_at_call 23; refine (HW.out _).mono ?_; rintro e w2 ⟨rfl, rfl⟩))
        go_ret
        exact HE.out
      · have hs4 : 4 ≤ s := by omega
        clear hs
        go_enter Tryd.func11, Tryd.ntmps11
        go_wp2_with (first | (go_at_call 27; refine (HG.out _).mono ?_; rintro e w2 ⟨rfl, rfl⟩) | (go_at_call 23; refine (HW.out _).mono ?_; rintro e w2 ⟨rfl, rfl⟩))
        go_ret
        exact HE.out
    · have hs0 : ¬ s < 0 := by omega
      have hs4 : ¬ 4 ≤ s := by omega
      obtain ⟨n, hn⟩ : ∃ n, n = l.length := ⟨_, rfl⟩
      have hi := pl_lt_en h.ok (ranged_lt hg)
      have he := en_le h.ok t
      have hlen := h.ok.len
      have hroom := h.src.room
      have hmax := h.src.max
      have HEN := Lib.hid (ends_28 r a cap l f t)
      have hgi := pl_get h.ok f
      obtain ⟨P, o1, os, S, p⟩ := parts_of h.ok (ranged_lt hg)
      have HP := Lib.hid p
      obtain ⟨i, hi1⟩ : ∃ i, i = pl l f := ⟨_, rfl⟩
      obtain ⟨e, he1⟩ : ∃ e, e = en l t := ⟨_, rfl⟩
      rw [← hi1, ← he1] at hi HEN
      rw [← hi1] at hgi
      rw [← he1, ← hn] at he
      rw [← hn] at hlen hroom
      obtain ⟨g, o, rfl, hgl, hcg⟩ := h.src.lies i _ hgi
      have hsub := h.src.sub i e (by rw [← hn]; exact he)
      have HSUB : Hid (SrcAny w (some ⟨g, o + i * 3, none⟩) (cap - i) (o1 :: os)) := by
        show SrcAny _ _ _ _
        rw [← p.own]
        have e2 : ownL l f t = (l.take e).drop i := by unfold ownL; rw [← he1, ← hi1]
        rw [e2]; exact hsub
      obtain ⟨q, hq⟩ : ∃ q, e - i = q := ⟨_, rfl⟩
      have hqo : q = (o1 :: os).length := by
        have h1 := p.i
        have h2 := p.e
        rw [← hi1] at h1
        rw [← he1] at h2
        simp only [List.length_cons]
        omega
      have HQ := Lib.hid hqo
      have HC : Hid (∀ W, Below w.heap.size w W → W.cell? ⟨r, 0, none⟩ = some (.slice (some ⟨g, o, none⟩) n cap) ∧ r < W.heap.size) := fun W hb => ⟨by rw [hn]; exact (H.out.below hb).c0, lt_of_heap (H.out.below hb).cell⟩
      have HF : Hid (∀ W, Below w.heap.size w W → Calls Tryd.prog 29 #[.slice (some ⟨g, o + i * 3, none⟩) q (cap - i), .func (.func 30) #[] #[]] W (BoolLeft W (fullB (o1 :: os)))) := fun W hb => by
        have := full_29 _ (cap - i) _ W (HSUB.out.below hb).lies (by rw [← HQ.out]; omega)
        rw [← HQ.out] at this
        exact this
      have HEN0 := Lib.hid (HEN.out w h)
      have hi0 : (0 : Int) ≤ (i : Int) := by omega
      have hie : (i : Int) ≤ (e : Int) := by omega
      have hen : (e : Int) ≤ (n : Int) := by omega
      have hec : (e : Int) ≤ (cap : Int) := by omega
      have hn32 : (n : Int) ≤ 32 := by omega
      have hic : ¬ cap = i := by omega
      have hcm : (cap : Int) ≤ 9223372036854775807 := by unfold maxLen at hmax; omega
      have HME : Hid (fullB (o1 :: os) = true → moveErr l f t s = some (1, -1)) := fun hf => by
        unfold moveErr
        rw [hg]
        simp only [Bool.true_eq_false, if_false]
        rw [if_neg (by omega), p.own, if_pos hf]
      have HN := Lib.hid (And.intro hn (And.intro hi1 he1))
      have HB := Lib.hid (And.intro hs hg)
      clear h hg hs hn hi he hlen hroom hmax hgi p hi1 he1 hgl hcg hsub hqo HEN
      cases hfu : fullB (o1 :: os) with
      | true =>
        have HE := Lib.hid (HME.out hfu)
        have HW := Lib.hid (HWA.out (-1) (by decide))
        rw [hfu] at HF
        clear hfu HME HWA
        go_enter Tryd.func11, Tryd.ntmps11
        go_wp2_with (go_at_call 27; refine (HG.out _).mono ?_; rintro e w2 ⟨rfl, rfl⟩)
        refine HEN0.out.mono ?_
        rintro e w1 ⟨rfl, hb⟩
        obtain ⟨c0, l0⟩ := HC.out w1 hb
        have HB1 := Lib.hid hb
        have HF1 := Lib.hid (HF.out w1 hb)
        clear hb HF
        go_wp2_with fail
        refine HF1.out.mono ?_
        rintro e w2 ⟨rfl, hb⟩
        have HB2 := Lib.hid (HB1.out.trans (hb.mono HB1.out.size))
        clear hb
        go_wp2_with (go_at_call 23; refine (HW.out _).mono ?_; rintro e w3 ⟨rfl, rfl⟩)
        go_ret
        exact move_err H.out HB2.out HE.out
      | false =>
        rw [hfu] at HF
        have HFU := Lib.hid hfu
        have HAC : Hid (∀ W, Below w.heap.size w W → Calls Tryd.prog 26 #[.slice (some ⟨g, o, none⟩) i cap] W (RowLeft W P)) := fun W hb => by
          have hp := HP.out.i
          have hPl : l.take i = P := by rw [HP.out.eq, HN.out.2.1, hp, List.append_assoc, List.take_left]
          have hs := (H.out.below hb).src.head i (by have := HN.out.1; omega)
          rw [hPl] at hs
          have := clone_26 (some ⟨g, o, none⟩) cap P W hs (by have := HN.out.2.1; omega)
          rw [show P.length = i by have := HN.out.2.1; omega] at this
          exact this
        have HBC : Hid (∀ W, Below w.heap.size w W → Calls Tryd.prog 26 #[.slice (some (if cap = e then ⟨g, o, none⟩ else ⟨g, o + e * 3, none⟩)) (n - e) (cap - e)] W (RowLeft W S)) := fun W hb => by
          have hs := (H.out.below hb).src.tail e (by have := HN.out.1; omega)
          have hSl : l.drop e = S := by rw [HN.out.2.2]; exact HP.out.drop
          have hSn : n - e = S.length := by rw [← hSl, List.length_drop, HN.out.1]
          rw [hSl] at hs
          have := clone_26 _ (cap - e) S W hs (by omega)
          rw [hSn]
          exact this
        obtain ⟨ab, hab⟩ : ∃ ab : Option Addr, (if cap = e then some ⟨g, o, none⟩ else some ⟨g, o + e * 3, none⟩) = ab := ⟨_, rfl⟩
        have HBC : Hid (∀ W, Below w.heap.size w W → Calls Tryd.prog 26 #[.slice ab (n - e) (cap - e)] W (RowLeft W S)) := fun W hb => by
          have := HBC.out W hb
          rw [← hab]
          by_cases hc : cap = e
          · rw [if_pos hc] at this ⊢; exact this
          · rw [if_neg hc] at this ⊢; exact this
        have HAB := Lib.hid hab
        clear hab
        have HO : Hid (∀ W, Below w.heap.size w W → W.cell? ⟨g, o + i * 3, none⟩ = some (.string o1.fr) ∧ W.cell? ⟨g, o + i * 3 + 1, none⟩ = some (.int .i64 o1.sh) ∧ W.cell? ⟨g, o + i * 3 + 2, none⟩ = some (.int .i64 o1.ep) ∧ g < W.heap.size) := fun W hb => by
          obtain ⟨g', o', h1, h2, h3⟩ := (HSUB.out.below hb).lies 0 o1 rfl
          obtain ⟨rfl, rfl⟩ : g = g' ∧ o + i * 3 = o' := by simpa using h1
          exact ⟨h3 0 _ rfl, h3 1 _ rfl, h3 2 _ rfl, h2⟩
        have hq0 : (0 : Int) < (q : Int) := by have := HQ.out; simp at this; omega
        clear hfu HME HWA
        go_enter Tryd.func11, Tryd.ntmps11
        go_wp2_with (go_at_call 27; refine (HG.out _).mono ?_; rintro e w2 ⟨rfl, rfl⟩)
        refine HEN0.out.mono ?_
        rintro r w1 ⟨rfl, hb⟩
        obtain ⟨c0, l0⟩ := HC.out w1 hb
        have HB1 := Lib.hid hb
        have HF1 := Lib.hid (HF.out w1 hb)
        clear hb HF HEN0 HG
        go_wp2_with fail
        refine HF1.out.mono ?_
        rintro r w2 ⟨rfl, hb⟩
        have HB2 := Lib.hid (HB1.out.trans (hb.mono HB1.out.size))
        clear hb c0 l0 HF1 HB1
        obtain ⟨c0, l0⟩ := HC.out w2 HB2.out
        have HA2 := Lib.hid (HAC.out w2 HB2.out)
        clear HAC
        go_wp2_with fail
        refine HA2.out.mono ?_
        rintro r w3 ⟨v12, rfl, ho, hb⟩
        have P0 : Hid (w3.ownsRow w.heap.size 35 3 v12 P.length (P.flatMap pcL)) := row_lower HB2.out.size ho
        have HB3 := Lib.hid (HB2.out.trans (hb.mono HB2.out.size))
        clear ho hb c0 l0 HA2
        obtain ⟨c0, l0⟩ := HC.out w3 HB3.out
        obtain ⟨d0, d1, d2, lg⟩ := HO.out w3 HB3.out
        obtain ⟨lb, hlb⟩ : ∃ lb, Op.bytesLess o1.fr.toList f.toList = lb := ⟨_, rfl⟩
        have HLB : Hid (lessK o1.fr f = lb) := hlb
        go_upto_if 58 with fail
        clear hlb
        go_cut [12] from 59 to 64 (fun v wx => AheadIs w (aheadP P o1 f) v wx)
        case first =>
          cases lb with
          | true =>
            have HAP : Hid (aheadP P o1 f = P ++ [o1]) := by show _ = _; unfold aheadP; rw [if_pos HLB.out]
            have HPL : Hid (P.length ≤ 1000) := by
              have h1 := HP.out.i
              have h2 := HN.out.2.1
              show P.length ≤ 1000
              omega
            go_wp2_with (at_builtin; refine append_src rfl _ _ rfl w.heap.size _ P [o1] rfl (P0.out.alloc _) _ 1 rfl (src_one (heap_alloc_new w3 _)) (by have := HPL.out; omega) (by simp) (by have := HB3.out.size; simp; omega) ?_)
            intro v' w4 hown hgrow
            have HAI : Hid (AheadIs w (aheadP P o1 f) v' w4) := by
              show AheadIs _ _ _ _
              rw [HAP.out]
              refine ⟨by rw [List.length_append, List.flatMap_append]; simpa using hown, ?_⟩
              have hW : Wrote v12.ownBlock.toList _ w4 := Wrote.of_grown hgrow
              have hal : Below w.heap.size w (w3.alloc (.cells #[.string o1.fr, .int .i64 o1.sh, .int .i64 o1.ep] 35)) := HB3.out.alloc HB3.out.size _
              exact hal.trans (hW.below hal.size fun g hg' => by
                simp only [Option.mem_toList] at hg'
                exact (row_block P0.out hg').1)
            clear hown hgrow
            go_wp2_with fail
            go_meet
            exact HAI.out
          | false =>
            have HAP : Hid (AheadIs w (aheadP P o1 f) v12 w3) := by
              show AheadIs _ _ _ _
              unfold aheadP
              rw [HLB.out]
              exact ⟨P0.out, HB3.out⟩
            go_wp2_with fail
            go_meet
            exact HAP.out
        case rest =>
          obtain ⟨wA, rfl⟩ : ∃ wA : World, wA = wc := ⟨_, rfl⟩
          have HA4 := Lib.hid hcut.1
          have HB4 := Lib.hid hcut.2
          clear hcut c0 l0 d0 d1 d2 lg P0 HLB
          obtain ⟨c0, l0⟩ := HC.out wA HB4.out
          have HB5 := Lib.hid (HBC.out wA HB4.out)
          clear HBC
          have hab := HAB.out
          go_wp2_with fail
          clear hab
          refine HB5.out.mono ?_
          rintro r w5 ⟨v13, rfl, ho, hb⟩
          have HR5 := Lib.hid ho
          have HB6 := Lib.hid hb
          have HBW := Lib.hid (HB4.out.trans (hb.mono HB4.out.size))
          clear ho hb c0 l0 HB5
          obtain ⟨p, hp⟩ : ∃ p, p = os.length := ⟨_, rfl⟩
          have hpq : q = p + 1 := by have := HQ.out; simp at this; omega
          obtain ⟨L, hL⟩ : ∃ L, L = lastP o1 os := ⟨_, rfl⟩
          have HL : Hid (∀ W, Below w.heap.size w W → W.cell? ⟨g, o + i * 3 + p * 3, none⟩ = some (.string L.fr) ∧ W.cell? ⟨g, o + i * 3 + p * 3 + 1, none⟩ = some (.int .i64 L.sh) ∧ W.cell? ⟨g, o + i * 3 + p * 3 + 2, none⟩ = some (.int .i64 L.ep) ∧ g < W.heap.size) := fun W hb => by
            obtain ⟨g', o', h1, h2, h3⟩ := (HSUB.out.below hb).lies p L (by rw [hp, hL]; exact last_get o1 os)
            obtain ⟨rfl, rfl⟩ : g = g' ∧ o + i * 3 = o' := by simpa using h1
            exact ⟨h3 0 _ rfl, h3 1 _ rfl, h3 2 _ rfl, h2⟩
          have hp0 : (0 : Int) ≤ (p : Int) := by omega
          have hp1 : (p : Int) < (q : Int) := by omega
          have hp2 : IntKind.i64.wrap ((q : Int) - 1) = (p : Int) := by rw [IntWalk.i64_in _ (by omega)]; omega
          have HLL := Lib.hid hL
          clear hpq hp hL
          obtain ⟨d0, d1, d2, lg⟩ := HL.out w5 HBW.out
          go_upto_region 15 with fail
          clear hp2 d0 d1 d2 lg
          obtain ⟨w6, hw6⟩ : ∃ w6, w6 = w5.alloc (.cells #[.string L.fr, .int .i64 L.sh, .int .i64 L.ep] 35) := ⟨_, rfl⟩
          obtain ⟨xb, hxb⟩ : ∃ xb, xb = w5.heap.size := ⟨_, rfl⟩
          have hbl : Below w5.heap.size w5 w6 := by rw [hw6]; exact (Below.refl _ w5).alloc (Nat.le_refl _) _
          have HX6 : Hid (w6.heap[xb]? = some (.cells #[.string L.fr, .int .i64 L.sh, .int .i64 L.ep] 35 (0, 0))) := by show _ = _; rw [hw6, hxb]; exact heap_alloc_new w5 _
          have HW6 := Lib.hid (HBW.out.trans (hbl.mono HBW.out.size))
          have HR6 := Lib.hid (row_below HR5.out hbl)
          have HB66 := Lib.hid (HB6.out.trans (hbl.mono HB6.out.size))
          have HXB : Hid (wA.heap.size ≤ xb ∧ ∀ g, v13.ownBlock = some g → g ≠ xb) := ⟨by rw [hxb]; exact HB6.out.size, fun g hg e => by
            have := (HR5.out.lt g hg).2
            omega⟩
          rw [← hw6, ← hxb]
          clear hw6 hxb hbl
          obtain ⟨c0, l0⟩ := HC.out w6 HW6.out
          obtain ⟨ib, hib⟩ : ∃ ib, ib = insS t S := ⟨_, rfl⟩
          have HIB := Lib.hid hib
          clear hib
          go_cut [100] from 78 to 99 (fun v wx => v = .bool ib ∧ w6 = wx)
          case first =>
            by_cases h0 : t.size = 0
            · obtain rfl := size_empty h0
              have hib : ib = false := by rw [HIB.out]; unfold insS; simp [h0]
              clear h0
              go_wp2_with fail
              go_meet
              exact ⟨by rw [hib], rfl⟩
            · have e4 := empty_ne h0
              by_cases he : e = n
              · have hS : S = [] := by
                  have h1 := HP.out.e
                  have h2 : l.length = P.length + (os.length + 1) + S.length := by rw [HP.out.eq]; simp; omega
                  have h3 := HN.out
                  exact List.length_eq_zero_iff.1 (by omega)
                have hib : ib = true := by rw [HIB.out, hS]; unfold insS; simp [h0]
                clear h0 hS
                subst he
                go_wp2_with fail
                go_meet
                exact ⟨by rw [hib], rfl⟩
              · obtain ⟨y, S', hS⟩ : ∃ y S', S = y :: S' := by
                  have h1 := HP.out.e
                  have h2 : l.length = P.length + (os.length + 1) + S.length := by rw [HP.out.eq]; simp; omega
                  have h3 := HN.out
                  cases S with
                  | nil => simp at h2; omega
                  | cons y S' => exact ⟨y, S', rfl⟩
                have hib : ib = lessK t y.fr := by rw [HIB.out, hS]; unfold insS; simp [h0]
                have hle : l[e]? = some y := by
                  have h1 := HP.out.drop
                  rw [← HN.out.2.2, hS] at h1
                  have h2 : (l.drop e)[0]? = some y := by rw [h1]; rfl
                  rwa [List.getElem?_drop] at h2
                obtain ⟨g', o', h1, lg, h3⟩ := (H.out.below HW6.out).src.lies e y hle
                obtain ⟨rfl, rfl⟩ : g = g' ∧ o = o' := by simpa using h1
                have d0 : w6.cell? ⟨g, o + e * 3, none⟩ = some (.string y.fr) := h3 0 _ rfl
                have hd : decide (e = n) = false := decide_eq_false he
                have hde : ((e : Int) == (n : Int)) = false := beq_eq_false_iff_ne.mpr (by omega)
                have he1 : (e : Int) < (n : Int) := by omega
                have he0 : (0 : Int) ≤ (e : Int) := by omega
                have HGT := Lib.hid (gtK y.fr t)
                have HHB := Lib.hid hib
                clear h0 hS hle h1 h3 hib
                go_wp2_with fail
                go_meet
                exact ⟨by rw [HHB.out, ← HGT.out], rfl⟩
          case rest =>
            obtain ⟨rfl, rfl⟩ := hcut
            clear c0 l0
            go_upto_if 100 with fail
            go_cut [13] from 101 to 106 (fun v wx => BehindIs wA (behindP t o1 os S) v wx)
            case first =>
              cases ib with
              | false =>
                have HE : Hid (BehindIs wA (behindP t o1 os S) v13 w6) := by
                  show BehindIs _ _ _ _
                  unfold behindP
                  rw [← HIB.out]
                  exact ⟨HR6.out, HB66.out⟩
                go_wp2_with fail
                go_meet
                exact HE.out
              | true =>
                have x0 : w6.cell? ⟨xb, 0, none⟩ = some (.string L.fr) := by rw [cell_of_row _ _ _ _ _ _ HX6.out]; rfl
                have fz : ∀ i, w6.frozen? ⟨xb, i, none⟩ = false := fun i => by simp [World.frozen?, HX6.out]
                have lx := lt_of_heap HX6.out
                obtain ⟨w7, hw7⟩ : ∃ w7, w7 = w6.setCell ⟨xb, 0, none⟩ (.string t) := ⟨_, rfl⟩
                have HX7 : Hid (w7.heap[xb]? = some (.cells #[.string t, .int .i64 L.sh, .int .i64 L.ep] 35 (0, 0))) := by show _ = _; rw [hw7]; exact heap_setCell_same _ xb 0 _ _ _ HX6.out
                have hwr : Wrote [xb] w6 w7 := by rw [hw7]; exact (Wrote.refl [xb] w6).setCell (.inl (List.mem_singleton.2 rfl)) _
                have HR7 := Lib.hid (row_wrote HR6.out hwr (fun g hg hm => HXB.out.2 g hg (by simpa using hm)))
                have HB77 : Hid (Below wA.heap.size wA w7) := HB66.out.trans (hwr.below HB66.out.size fun k hk => by
                  obtain rfl : k = xb := by simpa using hk
                  exact HXB.out.1)
                go_upto_region 17 with fail
                rw [← hw7]
                clear x0 fz lx hwr hw7
                have x0 : w7.cell? ⟨xb, 0, none⟩ = some (.string t) := by rw [cell_of_row _ _ _ _ _ _ HX7.out]; rfl
                have x1 : w7.cell? ⟨xb, 1, none⟩ = some (.int .i64 L.sh) := by rw [cell_of_row _ _ _ _ _ _ HX7.out]; rfl
                have x2 : w7.cell? ⟨xb, 2, none⟩ = some (.int .i64 L.ep) := by rw [cell_of_row _ _ _ _ _ _ HX7.out]; rfl
                have lx := lt_of_heap HX7.out
                have HIN : Hid (Calls Tryd.prog 31 #[v13, .int .i64 0, .slice (some ⟨w7.heap.size, 0, none⟩) 1 1] (w7.alloc (.cells #[.string t, .int .i64 L.sh, .int .i64 L.ep] 35)) (InsLeft (w7.alloc (.cells #[.string t, .int .i64 L.sh, .int .i64 L.ep] 35)) wA.heap.size v13 (⟨t, L.sh, L.ep⟩ :: S))) := by
                  refine insert_31 wA.heap.size v13 S ⟨t, L.sh, L.ep⟩ w7.heap.size _ (HR7.out.alloc _) (by have := HB77.out.size; simp; omega) (heap_alloc_new w7 _) (fun e => ?_) ?_
                  · have := (HR7.out.lt _ e).2
                    omega
                  · have h2 : l.length = P.length + (os.length + 1) + S.length := by rw [HP.out.eq]; simp; omega
                    have h3 := HN.out
                    omega
                go_wp2_with fail
                refine HIN.out.mono ?_
                rintro e8 w8 ⟨v', rfl, hown, hwr⟩
                have HE : Hid (BehindIs wA (behindP t o1 os S) v' w8) := by
                  show BehindIs _ _ _ _
                  unfold behindP
                  rw [← HIB.out, ← HLL.out]
                  refine ⟨hown, ?_⟩
                  have hal : Below wA.heap.size wA (w7.alloc (.cells #[.string t, .int .i64 L.sh, .int .i64 L.ep] 35)) := HB77.out.alloc HB77.out.size _
                  exact hal.trans (hwr.below hal.size fun g hg' => by
                    simp only [Option.mem_toList] at hg'
                    exact (row_block HR7.out hg').1)
                clear hown hwr HIN
                go_wp2_with fail
                go_meet
                exact HE.out
            case rest =>
              have HZ9 := Lib.hid hcut.1
              have HB9 := Lib.hid hcut.2
              clear hcut HX6 HR6 HB66 HXB HIB HB6 HR5 HBW HW6 HL HLL
              have HBw := Lib.hid (HB4.out.trans (HB9.out.mono HB4.out.size))
              have HX9 := Lib.hid (row_below HA4.out HB9.out)
              have HMV : Hid (Calls Tryd.prog 33 #[.slice (some ⟨g, o + i * 3, none⟩) q (cap - i), .string f, .int .i64 s] wc (RowLeft wc (movedL f s (o1 :: os)))) := by
                have := moved_33 (some ⟨g, o + i * 3, none⟩) (cap - i) o1 os f s wc (HSUB.out.below HBw.out) (by rw [← HQ.out]; omega) HP.out.ho (fun x hx => by
                  have hx2 := H.out.ok.fit x (by rw [HP.out.eq]; rcases List.mem_cons.1 hx with rfl | hx <;> simp [*])
                  unfold fitB at hx2
                  simp only [Bool.and_eq_true, decide_eq_true_eq] at hx2
                  exact ⟨hx2.1.2, hx2.2⟩)
                rw [← HQ.out] at this
                exact this
              go_wp2_with fail
              refine HMV.out.mono ?_
              rintro e10 w10 ⟨v10, rfl, hown, hb⟩
              have HB10 := Lib.hid (HBw.out.trans (hb.mono HBw.out.size))
              obtain ⟨a1, c1, e1, -⟩ := row_form HX9.out
              obtain ⟨a2, c2, e2, -⟩ := row_form hown
              obtain ⟨a3, c3, e3, -⟩ := row_form HZ9.out
              subst e1 e2 e3
              have HS1 := Lib.hid (row_src (row_below HX9.out hb) rfl)
              have HS2 := Lib.hid (row_src hown rfl)
              have HS3 := Lib.hid (row_src (row_below HZ9.out hb) rfl)
              clear hown hb HMV
              have HMOV : Hid (movL l f t s = aheadP P o1 f ++ movedL f s (o1 :: os) ++ behindP t o1 os S) := by show _ = _; rw [HP.out.mov]; rfl
              have HLN : Hid ((aheadP P o1 f).length ≤ 100 ∧ (movedL f s (o1 :: os)).length ≤ 100 ∧ (behindP t o1 os S).length ≤ 100) := by
                have h1 := (HP.out.mov_len s).2
                have h2 : (movL l f t s).length = (aheadP P o1 f).length + (movedL f s (o1 :: os)).length + (behindP t o1 os S).length := by rw [HMOV.out]; simp [Nat.add_assoc]
                have h3 := HN.out.1
                refine ⟨?_, ?_, ?_⟩ <;> omega
              have HAL : Hid (Below w10.heap.size w10 (w10.alloc (.cells #[.slice a1 (aheadP P o1 f).length c1, .slice a2 (movedL f s (o1 :: os)).length c2, .slice a3 (behindP t o1 os S).length c3] 22))) := (Below.refl _ w10).alloc (Nat.le_refl _) _
              have HCC := Lib.hid (concat_32 w10.heap.size a1 a2 a3 c1 c2 c3 _ _ _ _ (heap_alloc_new w10 (.cells #[.slice a1 (aheadP P o1 f).length c1, .slice a2 (movedL f s (o1 :: os)).length c2, .slice a3 (behindP t o1 os S).length c3] 22)) (HS1.out.below HAL.out) (HS2.out.below HAL.out) (HS3.out.below HAL.out) (by have := HLN.out; omega) (by have := HLN.out; omega) (by have := HLN.out; omega))
              rw [← HMOV.out] at HCC
              go_wp2_with fail
              refine HCC.out.mono ?_
              rintro e11 w11 ⟨v11, rfl, hown, hb⟩
              have HB11 := Lib.hid (HB10.out.trans ((HAL.out.trans (hb.mono HAL.out.size)).mono HB10.out.size))
              obtain ⟨a4, c4, e4, -⟩ := row_form hown
              subst e4
              have HS4 : Hid (∀ W', Wrote [r] w11 W' → SrcAny W' a4 c4 (movL l f t s)) := fun W' hw => row_src (row_wrote hown hw (fun g hg hm => by
                have h1 := (row_block hown hg).1
                have h2 := lt_of_heap H.out.cell
                have h3 := HB10.out.size
                obtain rfl : g = r := by simpa using hm
                simp at h1
                omega)) rfl
              have HML := Lib.hid (HP.out.mov_len s)
              clear hown hb HCC HAL HS1 HS2 HS3 HX9 HZ9 HA4
              obtain ⟨c0, l0⟩ := HC.out w11 HB11.out
              obtain ⟨M, hM⟩ : ∃ M, M = (movL l f t s).length := ⟨_, rfl⟩
              have HM := Lib.hid hM
              have hM34 : M ≤ 34 := by have := HML.out.2; have := HN.out.1; omega
              have hM9 : (M : Int) ≤ 34 := by omega
              rw [← hM]
              clear hM hM34
              have HME : Hid (moveErr l f t s = if 32 < M then some (71, (M : Int)) else none) := by
                show _ = _
                unfold moveErr
                rw [HB.out.2, HP.out.own, HFU.out, ← HM.out]
                rw [if_neg (by simp), if_neg HB.out.1, if_neg (by simp)]
              by_cases h32 : 32 < M
              · have h32i : (32 : Int) < (M : Int) := by omega
                have HER := Lib.hid (HME.out.trans (if_pos h32))
                have HW := Lib.hid (wrong_23 71 (M : Int) (by decide))
                clear h32
                go_wp2_with (go_at_call 23; refine (HW.out _).mono ?_; rintro e12 w12 ⟨rfl, rfl⟩)
                go_ret
                exact move_err H.out HB11.out HER.out
              · have h32i : ¬ (32 : Int) < (M : Int) := by omega
                have HER := Lib.hid (HME.out.trans (if_neg h32))
                have HOK := Lib.hid (ok_move H.out.ok f t s)
                have HR11 : Hid (w11.heap[r]? = some (.cells #[.slice (some ⟨g, o, none⟩) l.length cap] 62 (0, 0))) := (HB11.out.block _ (lt_of_heap H.out.cell)).trans H.out.cell
                have fz : w11.frozen? ⟨r, 0, none⟩ = false := by simp [World.frozen?, HR11.out]
                have HE : Hid (MoveLeft w r l f t s (.returned .nilIface) (w11.setCell ⟨r, 0, none⟩ (.slice a4 M c4))) := by
                  refine ⟨?_, by rw [HER.out]; rfl, a4, c4, ?_⟩
                  · exact ((Wrote.of_below (S := [r]) HB11.out)).setCell (.inl (List.mem_singleton.2 rfl)) _
                  · rw [moveL_none HER.out]
                    have hok := HOK.out
                    rw [moveL_none HER.out] at hok
                    refine ⟨?_, ?_, hok⟩
                    · rw [← HM.out]
                      exact heap_setCell_same _ r 0 _ _ _ HR11.out
                    · exact HS4.out _ ((Wrote.refl [r] w11).setCell (.inl (List.mem_singleton.2 rfl)) _)
                clear h32
                go_wp2_with fail
                go_ret
                exact HE.out
end Go.Proofs.YtemgcliihbjjiaaDoor
