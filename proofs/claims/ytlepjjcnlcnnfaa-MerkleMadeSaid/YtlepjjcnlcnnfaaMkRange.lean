/- Merkle: Range. -/
import Derived.Test.YtlepjjcnlcnnfaaMkHas
namespace Go.Proofs.Ytlepjjcnlcnnfaa.Merkle
open Go.RowKit Go.My

theorem ent_info : (Try.prog.info? 42).map (fun i => (i.zero, i.size, i.bytes)) = some (some (.agg #[.string ⟨#[]⟩, .string ⟨#[]⟩, .int .i64 0]), 3, 40) := by kernel_rfl
theorem ent_one (x : Ent) : ∀ u ∈ entL x, u.oneCell' = true := by
  intro u hu
  simp only [entL, List.mem_cons, List.not_mem_nil, or_false] at hu
  rcases hu with rfl | rfl | rfl <;> rfl
def geB (tk k : ByteArray) : Bool := !decide (tk.size = 0) && !lessK k tk
def inB (fr tk k : ByteArray) : Bool := !lessK k fr && !geB tk k
def lowR (L : List Ent) (f : Nat) (fr : ByteArray) : Bool := decide (f = 0) || L.any fun x => lessK x.key fr
def highR (L : List Ent) (n f : Nat) (tk : ByteArray) : Bool := decide (f + L.length = n) || L.any fun x => geB tk x.key
/-- what Range tells of a proof that is taken -/
def RangeT (L : List Ent) (n f : Nat) (fr tk : ByteArray) (Q : World → Prop) (e : Ending) (w' : World) : Prop :=
  ∃ w1, Q w1 ∧ Below w1.heap.size w1 w' ∧ (((lowR L f fr && highR L n f tk) = false ∧ e = .returned (.tuple #[.slice none 0 0, wrongV 62])) ∨
    ((lowR L f fr && highR L n f tk) = true ∧ ∃ a cap, e = .returned (.tuple #[.slice a (L.filter fun x => inB fr tk x.key).length cap, .nilIface]) ∧ LiesAt w' a 3 entL (L.filter fun x => inB fr tk x.key)))
/-- what Check tells ahead of Range's walk -/
def RngCh (w : World) (p : Prf) (a1 : Option Addr) (c1 : Nat) (a2 : Option Addr) (c2 : Nat) (Te : TypeId) (ev : Value) (Q Q2 : World → Prop) (e : Ending) (w' : World) : Prop :=
  (e = .returned (.iface Te ev) ∧ Q2 w') ∨
  (e = .returned .nilIface ∧ Q w' ∧ w'.heap[w.heap.size]? = some (.cells #[.int .i64 p.many, .int .i64 p.first, .slice a1 p.L.length c1, .slice a2 p.B.length c2] 25 (0, 0)) ∧ LiesAt w' a1 3 entL p.L)
def RngTwo (Te : TypeId) (ev : Value) (L : List Ent) (n f : Nat) (fr tk : ByteArray) (Q Q2 : World → Prop) (e : Ending) (w' : World) : Prop :=
  RangeT L n f fr tk Q e w' ∨ (e = .returned (.tuple #[.slice none 0 0, .iface Te ev]) ∧ Q2 w')
def rngW (w : World) (p : Prf) (a1 : Option Addr) (c1 : Nat) (a2 : Option Addr) (c2 : Nat) : World := w.alloc (.cells #[.int .i64 p.many, .int .i64 p.first, .slice a1 p.L.length c1, .slice a2 p.B.length c2] 25)
theorem rngW_below (w : World) (p : Prf) (a1 : Option Addr) (c1 : Nat) (a2 : Option Addr) (c2 : Nat) : Below w.heap.size w (rngW w p a1 c1 a2 c2) := (Below.refl _ _).alloc (Nat.le_refl _) _
theorem rngW_box (w : World) (p : Prf) (a1 : Option Addr) (c1 : Nat) (a2 : Option Addr) (c2 : Nat) : (rngW w p a1 c1 a2 c2).heap[w.heap.size]? = some (.cells #[.int .i64 p.many, .int .i64 p.first, .slice a1 p.L.length c1, .slice a2 p.B.length c2] 25 (0, 0)) := heap_alloc_new w _
theorem take_filter {L : List Ent} {j : Nat} {x : Ent} (h : L[j]? = some x) (g : Ent → Bool) : (L.take (j + 1)).filter g = if g x = true then (L.take j).filter g ++ [x] else (L.take j).filter g := by
  rw [List.take_add_one, h, List.filter_append]
  by_cases hx : g x = true <;> simp [hx]
/-- what the round of Range keeps -/
structure RgRel (L : List Ent) (fr tk : ByteArray) (lo hi : Bool) (w1 : World) (j : Nat) (x y : Bool) (u : Value) (wr : World) : Prop where
  low : x = (lo || (L.take j).any fun x => lessK x.key fr)
  high : y = (hi || (L.take j).any fun x => geB tk x.key)
  row : wr.ownsRow w1.heap.size 42 3 u ((L.take j).filter fun x => inB fr tk x.key).length (((L.take j).filter fun x => inB fr tk x.key).flatMap entL)
  below : Below w1.heap.size w1 wr
theorem RgRel.next {L : List Ent} {fr tk : ByteArray} {lo hi : Bool} {w1 : World} {j : Nat} {x y : Bool} {u u' : Value} {wr W : World} {k s : ByteArray} {z : Int} (h : RgRel L fr tk lo hi w1 j x y u wr) (hx : L[j]? = some ⟨k, s, z⟩)
    (hb : Below w1.heap.size w1 W) (hr : W.ownsRow w1.heap.size 42 3 u' ((L.take (j + 1)).filter fun x => inB fr tk x.key).length (((L.take (j + 1)).filter fun x => inB fr tk x.key).flatMap entL)) {x' y' : Bool} (h1 : x' = (x || lessK k fr)) (h2 : y' = (y || geB tk k)) : RgRel L fr tk lo hi w1 (j + 1) x' y' u' W :=
  ⟨by rw [h1, h.low, take_any hx]; simp [Bool.or_assoc], by rw [h2, h.high, take_any hx]; simp [Bool.or_assoc], hr, hb⟩
theorem RgRel.skip {L : List Ent} {fr tk : ByteArray} {lo hi : Bool} {w1 : World} {j : Nat} {x y : Bool} {u : Value} {wr W : World} {k s : ByteArray} {z : Int} (h : RgRel L fr tk lo hi w1 j x y u wr) (hx : L[j]? = some ⟨k, s, z⟩)
    (hb : Below wr.heap.size wr W) (hi' : inB fr tk k = false) {x' y' : Bool} (h1 : x' = (x || lessK k fr)) (h2 : y' = (y || geB tk k)) : RgRel L fr tk lo hi w1 (j + 1) x' y' u W := by
  refine h.next hx (h.below.trans (hb.mono h.below.size)) ?_ h1 h2
  rw [take_filter hx, if_neg (by simp [hi'])]
  exact row_below h.row hb
theorem RgRel.app {L : List Ent} {fr tk : ByteArray} {lo hi : Bool} {w1 : World} {j : Nat} {x y : Bool} {u u' : Value} {wr W w3 : World} {k s : ByteArray} {z : Int} {ob : Obj} (h : RgRel L fr tk lo hi w1 j x y u wr) (hx : L[j]? = some ⟨k, s, z⟩)
    (hb : Below wr.heap.size wr W) (hown : w3.ownsRow w1.heap.size 42 3 u' (((L.take j).filter fun x => inB fr tk x.key).length + 1) (((L.take j).filter fun x => inB fr tk x.key).flatMap entL ++ [.string k, .string s, .int .i64 z])) (hg : (W.alloc ob).grownBy w3 u.ownBlock) (hi' : inB fr tk k = true)
    {x' y' : Bool} (h1 : x' = (x || lessK k fr)) (h2 : y' = (y || geB tk k)) : RgRel L fr tk lo hi w1 (j + 1) x' y' u' w3 := by
  refine h.next hx ?_ ?_ h1 h2
  · refine h.below.trans ?_
    exact ((((Wrote.of_below (S := []) hb).mono (T := u.ownBlock.toList) (by simp)).alloc ob).trans (Wrote.of_grown hg)).below h.below.size fun g hg => (row_block h.row (by simpa using hg)).1
  · rw [take_filter hx, if_pos (by simpa using hi'), List.length_append, List.flatMap_append]
    simpa [entL] using hown
theorem RgRel.box {L : List Ent} {fr tk : ByteArray} {lo hi : Bool} {w1 : World} {j : Nat} {x y : Bool} {u : Value} {wr W w3 : World} {ob o2 : Obj} {xb : Nat} (h : RgRel L fr tk lo hi w1 j x y u wr) (hx : W.heap[xb]? = some o2) (hge : wr.heap.size ≤ xb)
    (hg : (W.alloc ob).grownBy w3 u.ownBlock) : w3.heap[xb]? = some o2 := by
  have h1 : (W.alloc ob).heap[xb]? = some o2 := (Below.heap_alloc W ob xb (lt_of_heap hx)).trans hx
  refine (hg.block xb (lt_of_heap h1) (fun e => ?_)).trans h1
  have := row_lt h.row xb e.symm
  omega
set_option maxRecDepth 100000 in
set_option maxHeartbeats 6400000 in
theorem range_any (b : Nat) (root : Int) (fr tk : ByteArray) (p : Prf) (n f : Nat) (a1 a2 : Option Addr) (c1 c2 : Nat) (w : World) (Te : TypeId) (ev : Value) (Q Q2 : World → Prop) (hsh : Shaped p n f)
    (HC : Calls Try.prog 13 #[.pointer (some ⟨b, 0, none⟩), .int .i64 root, prfV p a1 c1 a2 c2] (rngW w p a1 c1 a2 c2) (RngCh w p a1 c1 a2 c2 Te ev Q Q2)) :
    Calls Try.prog 17 #[.pointer (some ⟨b, 0, none⟩), .int .i64 root, .string fr, .string tk, prfV p a1 c1 a2 c2] w (RngTwo Te ev p.L n f fr tk Q Q2) := by
  unfold RngCh at HC
  have HCH := Lib.hid HC
  have hb := rngW_box w p a1 c1 a2 c2
  have d0 : (rngW w p a1 c1 a2 c2).cell? ⟨w.heap.size, 0, none⟩ = some (.int .i64 p.many) := by rw [cell_of_row _ _ _ _ _ _ hb]; rfl
  have d1 : (rngW w p a1 c1 a2 c2).cell? ⟨w.heap.size, 1, none⟩ = some (.int .i64 p.first) := by rw [cell_of_row _ _ _ _ _ _ hb]; rfl
  have d2 : (rngW w p a1 c1 a2 c2).cell? ⟨w.heap.size, 2, none⟩ = some (.slice a1 p.L.length c1) := by rw [cell_of_row _ _ _ _ _ _ hb]; rfl
  have d3 : (rngW w p a1 c1 a2 c2).cell? ⟨w.heap.size, 3, none⟩ = some (.slice a2 p.B.length c2) := by rw [cell_of_row _ _ _ _ _ _ hb]; rfl
  obtain ⟨W, hW⟩ : ∃ W : World, W = rngW w p a1 c1 a2 c2 := ⟨_, rfl⟩
  have HW : Hid (w.alloc (.cells #[.int .i64 p.many, .int .i64 p.first, .slice a1 p.L.length c1, .slice a2 p.B.length c2] 25) = W) := hW.symm
  rw [← hW] at HCH d0 d1 d2 d3
  obtain ⟨pb, hpb⟩ : ∃ k, k = w.heap.size := ⟨_, rfl⟩
  have HPB := Lib.hid hpb.symm
  rw [← hpb] at HCH d0 d1 d2 d3
  have hsm := hsh.small
  have hft := hsh.fits
  have hmm := hsh.many
  have hff := hsh.first
  unfold prfV at HCH ⊢
  obtain ⟨pm, pf, L, B⟩ := p
  simp only at hmm hff
  subst hmm
  subst hff
  simp only at HCH HW d0 d1 d2 d3 hft ⊢
  obtain ⟨ln, hln⟩ : ∃ k, k = L.length := ⟨_, rfl⟩
  have HLN := Lib.hid hln
  rw [← hln] at HCH d2 HW hft ⊢
  generalize B.length = bn at *
  have HEN := Lib.hid (fun (X : World) => ends_any n f ln a1 a2 c1 bn c2 X ⟨by omega, by omega, by omega⟩)
  have HWR := Lib.hid (fun (W : World) => wrong_any 62 W rfl)
  have hl9 : (ln : Int) ≤ 2000 := by omega
  have hn9 : (n : Int) ≤ 2000 := by omega
  clear HC hb hW hpb hsh hln hsm hft
  go_enter Try.func17, Try.ntmps17
  go_upto_region 1 with fail
  rw [HW.out, HPB.out]
  go_wp2_with fail
  refine HCH.out.mono ?_
  intro e w1 hch
  rcases hch with ⟨rfl, hq⟩ | ⟨rfl, hq, hx, hl⟩
  · have HQ := Lib.hid hq
    clear hq
    go_wp2_with fail
    go_ret2
    exact .inr ⟨rfl, HQ.out⟩
  have HQ := Lib.hid hq
  have HX := Lib.hid hx
  have HL := Lib.hid hl
  have d0 : w1.cell? ⟨pb, 0, none⟩ = some (.int .i64 (n : Int)) := by rw [cell_of_row _ _ _ _ _ _ hx]; rfl
  have d1 : w1.cell? ⟨pb, 1, none⟩ = some (.int .i64 (f : Int)) := by rw [cell_of_row _ _ _ _ _ _ hx]; rfl
  have d2 : w1.cell? ⟨pb, 2, none⟩ = some (.slice a1 ln c1) := by rw [cell_of_row _ _ _ _ _ _ hx]; rfl
  have d3 : w1.cell? ⟨pb, 3, none⟩ = some (.slice a2 bn c2) := by rw [cell_of_row _ _ _ _ _ _ hx]; rfl
  clear hq hx hl
  go_wp2_with fail
  refine (HEN.out _).mono ?_
  rintro e w2 ⟨rfl, hb⟩
  have HB2 := Lib.hid hb
  have hx := box_kept hb HX.out
  have d0 : w2.cell? ⟨pb, 0, none⟩ = some (.int .i64 (n : Int)) := by rw [cell_of_row _ _ _ _ _ _ hx]; rfl
  have d2 : w2.cell? ⟨pb, 2, none⟩ = some (.slice a1 ln c1) := by rw [cell_of_row _ _ _ _ _ _ hx]; rfl
  obtain ⟨lo, hlo⟩ : ∃ x, x = decide (f = 0) := ⟨_, rfl⟩
  obtain ⟨hi, hhi⟩ : ∃ x, x = decide (f + ln = n) := ⟨_, rfl⟩
  rw [← hlo, ← hhi]
  have HLO := Lib.hid hlo
  have HHI := Lib.hid hhi
  have P0 : Hid (RgRel L fr tk lo hi w1 0 lo hi (.slice none 0 0) w2) := ⟨by simp, by simp, World.ownsRow_nil _ _ _ _, hb⟩
  obtain ⟨i0, hi0, hz0, hz1, hz2⟩ := info_parts ent_info
  have HI := Lib.hid hi0
  have HZ := Lib.hid hz0
  have HS := Lib.hid hz1
  have HY := Lib.hid hz2
  obtain ⟨te, hte⟩ : ∃ te, decide (tk.size = 0) = te := ⟨_, rfl⟩
  have HTE := Lib.hid hte
  have ht1 : (tk.toList == []) = te := by
    rw [← hte]
    by_cases h : tk.size = 0
    · rw [size_empty h, Lib.toList_data]; rfl
    · rw [empty_ne h]; simp [h]
  clear hb hx hlo hhi hi0 hz0 hz1 hz2 hte
  go_wp2_with fail
  go_loopw [13, 14, 15, 33] (fun p q u i wr => ∃ (j : Nat) (x y : Bool), j ≤ ln ∧ i = .int .i64 j ∧ p = .bool x ∧ q = .bool y ∧ Hid (RgRel L fr tk lo hi w1 j x y u wr)) (fun _ _ _ i _ => ln - (intOf i).toNat)
  case atStart => exact ⟨0, lo, hi, by omega, rfl, rfl, rfl, P0⟩
  case round =>
    clear P0
    obtain ⟨j, x, y, hj, rfl, rfl, rfl, HJ⟩ := hrel
    by_cases hlt : j < ln
    · obtain ⟨⟨xk, xu, xn⟩, hx⟩ : ∃ x, L[j]? = some x := ⟨_, List.getElem?_eq_getElem (by rw [← HLN.out]; exact hlt)⟩
      obtain ⟨g, o, rfl, lg, hc⟩ := (HL.out.below HJ.out.below) j _ hx
      have k0 := hc 0 _ rfl
      have k1 := hc 1 _ rfl
      have k2 := hc 2 _ rfl
      simp only [Nat.add_zero] at k0 k1 k2
      have HXJ := Lib.hid hx
      have hj0 : (0 : Int) ≤ (j : Int) := by omega
      have hj1 : (j : Int) < (ln : Int) := by omega
      obtain ⟨W, hW⟩ : ∃ W : World, W = wr.alloc (.cells #[.string xk, .string xu, .int .i64 xn] 42) := ⟨_, rfl⟩
      obtain ⟨xb, hxb⟩ : ∃ k, k = wr.heap.size := ⟨_, rfl⟩
      have hbx : W.heap[xb]? = some (.cells #[.string xk, .string xu, .int .i64 xn] 42 (0, 0)) := by rw [hW, hxb]; exact heap_alloc_new wr _
      have HBX := Lib.hid hbx
      have e0 : W.cell? ⟨xb, 0, none⟩ = some (.string xk) := by rw [cell_of_row _ _ _ _ _ _ hbx]; rfl
      have e1 : W.cell? ⟨xb, 1, none⟩ = some (.string xu) := by rw [cell_of_row _ _ _ _ _ _ hbx]; rfl
      have e2 : W.cell? ⟨xb, 2, none⟩ = some (.int .i64 xn) := by rw [cell_of_row _ _ _ _ _ _ hbx]; rfl
      have HBW : Hid (Below wr.heap.size wr W) := by rw [hW]; exact (Below.refl _ _).alloc (Nat.le_refl _) _
      have HWW := Lib.hid hW.symm
      have HXB := Lib.hid hxb.symm
      have HJL : Hid (((L.take j).filter fun x => inB fr tk x.key).length ≤ 2000) := by
        have := List.length_filter_le (fun x => inB fr tk x.key) (L.take j)
        rw [List.length_take] at this
        show _ ≤ _
        omega
      obtain ⟨lf, hlf⟩ : ∃ b, Op.bytesLess xk.toList fr.toList = b := ⟨_, rfl⟩
      obtain ⟨lt, hlt2⟩ : ∃ b, Op.bytesLess xk.toList tk.toList = b := ⟨_, rfl⟩
      have HLF : Hid (lessK xk fr = lf) := hlf
      have HLT : Hid (lessK xk tk = lt) := hlt2
      have HGE : Hid (geB tk xk = (!te && !lt)) := by show _ = _; unfold geB; rw [HTE.out, HLT.out]
      have HIN : Hid (inB fr tk xk = (!lf && !(!te && !lt))) := by show _ = _; unfold inB; rw [HLF.out, HGE.out]
      clear hx hc lg hbx hW hxb
      cases lf with
      | true =>
        cases te with
        | true =>
          cases y with
          | true =>
            have HNX : Hid (RgRel L fr tk lo hi w1 (j + 1) true true u15 W) := HJ.out.skip HXJ.out HBW.out (by rw [HIN.out]; rfl) (by rw [HLF.out]; simp) (by rw [HGE.out]; simp)
            go_upto_region 10 with fail
            rw [HWW.out, HXB.out]
            clear k0 k1 k2
            go_wp2_with fail
            exact ⟨⟨j + 1, true, true, by omega, by simp, rfl, rfl, HNX⟩, by simp [intOf]; omega⟩
          | false =>
            have HNX : Hid (RgRel L fr tk lo hi w1 (j + 1) true false u15 W) := HJ.out.skip HXJ.out HBW.out (by rw [HIN.out]; rfl) (by rw [HLF.out]; simp) (by rw [HGE.out]; simp)
            go_upto_region 10 with fail
            rw [HWW.out, HXB.out]
            clear k0 k1 k2
            go_wp2_with fail
            exact ⟨⟨j + 1, true, false, by omega, by simp, rfl, rfl, HNX⟩, by simp [intOf]; omega⟩
        | false =>
          cases lt with
          | true =>
            cases y with
            | true =>
              have HNX : Hid (RgRel L fr tk lo hi w1 (j + 1) true true u15 W) := HJ.out.skip HXJ.out HBW.out (by rw [HIN.out]; rfl) (by rw [HLF.out]; simp) (by rw [HGE.out]; simp)
              go_upto_region 10 with fail
              rw [HWW.out, HXB.out]
              clear k0 k1 k2
              go_wp2_with fail
              exact ⟨⟨j + 1, true, true, by omega, by simp, rfl, rfl, HNX⟩, by simp [intOf]; omega⟩
            | false =>
              have HNX : Hid (RgRel L fr tk lo hi w1 (j + 1) true false u15 W) := HJ.out.skip HXJ.out HBW.out (by rw [HIN.out]; rfl) (by rw [HLF.out]; simp) (by rw [HGE.out]; simp)
              go_upto_region 10 with fail
              rw [HWW.out, HXB.out]
              clear k0 k1 k2
              go_wp2_with fail
              exact ⟨⟨j + 1, true, false, by omega, by simp, rfl, rfl, HNX⟩, by simp [intOf]; omega⟩
          | false =>
            cases y with
            | true =>
              have HNX : Hid (RgRel L fr tk lo hi w1 (j + 1) true true u15 W) := HJ.out.skip HXJ.out HBW.out (by rw [HIN.out]; rfl) (by rw [HLF.out]; simp) (by rw [HGE.out]; simp)
              go_upto_region 10 with fail
              rw [HWW.out, HXB.out]
              clear k0 k1 k2
              go_wp2_with fail
              exact ⟨⟨j + 1, true, true, by omega, by simp, rfl, rfl, HNX⟩, by simp [intOf]; omega⟩
            | false =>
              have HNX : Hid (RgRel L fr tk lo hi w1 (j + 1) true true u15 W) := HJ.out.skip HXJ.out HBW.out (by rw [HIN.out]; rfl) (by rw [HLF.out]; simp) (by rw [HGE.out]; simp)
              go_upto_region 10 with fail
              rw [HWW.out, HXB.out]
              clear k0 k1 k2
              go_wp2_with fail
              exact ⟨⟨j + 1, true, true, by omega, by simp, rfl, rfl, HNX⟩, by simp [intOf]; omega⟩
      | false =>
        cases te with
        | true =>
          cases y with
          | true =>
            go_upto_region 10 with fail
            rw [HWW.out, HXB.out]
            clear k0 k1 k2
            go_wp2_with (at_builtin; refine wpList_append_own_at _ rfl _ _ 22 rfl w1.heap.size 42 i0 (.agg #[.string ⟨#[]⟩, .string ⟨#[]⟩, .int .i64 0]) 3 40 Try.underlying22 HI.out HZ.out HS.out HY.out rfl (by decide) _ _ _ rfl ((row_below HJ.out.row HBW.out).alloc _) ⟨W.heap.size, 0, none⟩ 1 1 [.string xk, .string xu, .int .i64 xn] rfl rfl (news_at W [.string xk, .string xu, .int .i64 xn] 42) (ent_one ⟨xk, xu, xn⟩) (by have := HJL.out; unfold maxLen; omega) (by have := HJL.out; omega) (by have := HBW.out.size; have := HJ.out.below.size; simp; omega) ?_)
            intro v1 w3 hown1 hgrow1 _ _
            obtain ⟨va, vc, rfl⟩ := row_slice hown1
            have HNX : Hid (RgRel L fr tk lo hi w1 (j + 1) x true (.slice va (((L.take j).filter fun x => inB fr tk x.key).length + 1) vc) w3) := HJ.out.app HXJ.out HBW.out hown1 hgrow1 (by rw [HIN.out]; rfl) (by rw [HLF.out]; simp) (by rw [HGE.out]; simp)
            have hbx3 := HJ.out.box HBX.out (by have := HXB.out; omega) hgrow1
            have e0 : w3.cell? ⟨xb, 0, none⟩ = some (.string xk) := by rw [cell_of_row _ _ _ _ _ _ hbx3]; rfl
            clear hown1 hgrow1 hbx3
            go_wp2_with fail
            exact ⟨⟨j + 1, x, true, by omega, by simp, rfl, rfl, HNX⟩, by simp [intOf]; omega⟩
          | false =>
            go_upto_region 10 with fail
            rw [HWW.out, HXB.out]
            clear k0 k1 k2
            go_wp2_with (at_builtin; refine wpList_append_own_at _ rfl _ _ 22 rfl w1.heap.size 42 i0 (.agg #[.string ⟨#[]⟩, .string ⟨#[]⟩, .int .i64 0]) 3 40 Try.underlying22 HI.out HZ.out HS.out HY.out rfl (by decide) _ _ _ rfl ((row_below HJ.out.row HBW.out).alloc _) ⟨W.heap.size, 0, none⟩ 1 1 [.string xk, .string xu, .int .i64 xn] rfl rfl (news_at W [.string xk, .string xu, .int .i64 xn] 42) (ent_one ⟨xk, xu, xn⟩) (by have := HJL.out; unfold maxLen; omega) (by have := HJL.out; omega) (by have := HBW.out.size; have := HJ.out.below.size; simp; omega) ?_)
            intro v1 w3 hown1 hgrow1 _ _
            obtain ⟨va, vc, rfl⟩ := row_slice hown1
            have HNX : Hid (RgRel L fr tk lo hi w1 (j + 1) x false (.slice va (((L.take j).filter fun x => inB fr tk x.key).length + 1) vc) w3) := HJ.out.app HXJ.out HBW.out hown1 hgrow1 (by rw [HIN.out]; rfl) (by rw [HLF.out]; simp) (by rw [HGE.out]; simp)
            have hbx3 := HJ.out.box HBX.out (by have := HXB.out; omega) hgrow1
            have e0 : w3.cell? ⟨xb, 0, none⟩ = some (.string xk) := by rw [cell_of_row _ _ _ _ _ _ hbx3]; rfl
            clear hown1 hgrow1 hbx3
            go_wp2_with fail
            exact ⟨⟨j + 1, x, false, by omega, by simp, rfl, rfl, HNX⟩, by simp [intOf]; omega⟩
        | false =>
          cases lt with
          | true =>
            cases y with
            | true =>
              go_upto_region 10 with fail
              rw [HWW.out, HXB.out]
              clear k0 k1 k2
              go_wp2_with (at_builtin; refine wpList_append_own_at _ rfl _ _ 22 rfl w1.heap.size 42 i0 (.agg #[.string ⟨#[]⟩, .string ⟨#[]⟩, .int .i64 0]) 3 40 Try.underlying22 HI.out HZ.out HS.out HY.out rfl (by decide) _ _ _ rfl ((row_below HJ.out.row HBW.out).alloc _) ⟨W.heap.size, 0, none⟩ 1 1 [.string xk, .string xu, .int .i64 xn] rfl rfl (news_at W [.string xk, .string xu, .int .i64 xn] 42) (ent_one ⟨xk, xu, xn⟩) (by have := HJL.out; unfold maxLen; omega) (by have := HJL.out; omega) (by have := HBW.out.size; have := HJ.out.below.size; simp; omega) ?_)
              intro v1 w3 hown1 hgrow1 _ _
              obtain ⟨va, vc, rfl⟩ := row_slice hown1
              have HNX : Hid (RgRel L fr tk lo hi w1 (j + 1) x true (.slice va (((L.take j).filter fun x => inB fr tk x.key).length + 1) vc) w3) := HJ.out.app HXJ.out HBW.out hown1 hgrow1 (by rw [HIN.out]; rfl) (by rw [HLF.out]; simp) (by rw [HGE.out]; simp)
              have hbx3 := HJ.out.box HBX.out (by have := HXB.out; omega) hgrow1
              have e0 : w3.cell? ⟨xb, 0, none⟩ = some (.string xk) := by rw [cell_of_row _ _ _ _ _ _ hbx3]; rfl
              clear hown1 hgrow1 hbx3
              go_wp2_with fail
              exact ⟨⟨j + 1, x, true, by omega, by simp, rfl, rfl, HNX⟩, by simp [intOf]; omega⟩
            | false =>
              go_upto_region 10 with fail
              rw [HWW.out, HXB.out]
              clear k0 k1 k2
              go_wp2_with (at_builtin; refine wpList_append_own_at _ rfl _ _ 22 rfl w1.heap.size 42 i0 (.agg #[.string ⟨#[]⟩, .string ⟨#[]⟩, .int .i64 0]) 3 40 Try.underlying22 HI.out HZ.out HS.out HY.out rfl (by decide) _ _ _ rfl ((row_below HJ.out.row HBW.out).alloc _) ⟨W.heap.size, 0, none⟩ 1 1 [.string xk, .string xu, .int .i64 xn] rfl rfl (news_at W [.string xk, .string xu, .int .i64 xn] 42) (ent_one ⟨xk, xu, xn⟩) (by have := HJL.out; unfold maxLen; omega) (by have := HJL.out; omega) (by have := HBW.out.size; have := HJ.out.below.size; simp; omega) ?_)
              intro v1 w3 hown1 hgrow1 _ _
              obtain ⟨va, vc, rfl⟩ := row_slice hown1
              have HNX : Hid (RgRel L fr tk lo hi w1 (j + 1) x false (.slice va (((L.take j).filter fun x => inB fr tk x.key).length + 1) vc) w3) := HJ.out.app HXJ.out HBW.out hown1 hgrow1 (by rw [HIN.out]; rfl) (by rw [HLF.out]; simp) (by rw [HGE.out]; simp)
              have hbx3 := HJ.out.box HBX.out (by have := HXB.out; omega) hgrow1
              have e0 : w3.cell? ⟨xb, 0, none⟩ = some (.string xk) := by rw [cell_of_row _ _ _ _ _ _ hbx3]; rfl
              clear hown1 hgrow1 hbx3
              go_wp2_with fail
              exact ⟨⟨j + 1, x, false, by omega, by simp, rfl, rfl, HNX⟩, by simp [intOf]; omega⟩
          | false =>
            cases y with
            | true =>
              have HNX : Hid (RgRel L fr tk lo hi w1 (j + 1) x true u15 W) := HJ.out.skip HXJ.out HBW.out (by rw [HIN.out]; rfl) (by rw [HLF.out]; simp) (by rw [HGE.out]; simp)
              go_upto_region 10 with fail
              rw [HWW.out, HXB.out]
              clear k0 k1 k2
              go_wp2_with fail
              exact ⟨⟨j + 1, x, true, by omega, by simp, rfl, rfl, HNX⟩, by simp [intOf]; omega⟩
            | false =>
              have HNX : Hid (RgRel L fr tk lo hi w1 (j + 1) x true u15 W) := HJ.out.skip HXJ.out HBW.out (by rw [HIN.out]; rfl) (by rw [HLF.out]; simp) (by rw [HGE.out]; simp)
              go_upto_region 10 with fail
              rw [HWW.out, HXB.out]
              clear k0 k1 k2
              go_wp2_with fail
              exact ⟨⟨j + 1, x, true, by omega, by simp, rfl, rfl, HNX⟩, by simp [intOf]; omega⟩
    · obtain rfl : ln = j := by omega
      have HOUT : Hid ((L.take ln) = L) := List.take_of_length_le (by have := HLN.out; omega)
      have hrow := HJ.out.row
      have hlow := HJ.out.low
      have hhigh := HJ.out.high
      rw [HOUT.out] at hrow hlow hhigh
      obtain ⟨va, vc, rfl⟩ := row_slice hrow
      have hlies := row_liesAt hrow entL_len rfl
      have HE : Hid ((lowR L f fr && highR L n f tk) = (x && y)) := by
        show _ = _
        have e1 : lowR L f fr = x := by unfold lowR; rw [hlow, HLO.out]
        have e2 : highR L n f tk = y := by unfold highR; rw [hhigh, HHI.out, HLN.out]
        rw [e1, e2]
      have HLS := Lib.hid hlies
      have HB := Lib.hid HJ.out.below
      clear hrow hlow hhigh hlies HJ
      cases x with
      | false =>
        go_wp2_with (go_at_call 20; refine (HWR.out _).mono ?_; rintro e w2 ⟨rfl, rfl⟩)
        go_ret2
        exact .inl ⟨w1, HQ.out, HB.out, .inl ⟨by rw [HE.out]; rfl, rfl⟩⟩
      | true =>
        cases y with
        | false =>
          go_wp2_with (go_at_call 20; refine (HWR.out _).mono ?_; rintro e w2 ⟨rfl, rfl⟩)
          go_ret2
          exact .inl ⟨w1, HQ.out, HB.out, .inl ⟨by rw [HE.out]; rfl, rfl⟩⟩
        | true =>
          go_wp2_with fail
          go_ret2
          exact .inl ⟨w1, HQ.out, HB.out, .inr ⟨by rw [HE.out]; rfl, va, vc, rfl, HLS.out⟩⟩
end Go.Proofs.Ytlepjjcnlcnnfaa.Merkle
