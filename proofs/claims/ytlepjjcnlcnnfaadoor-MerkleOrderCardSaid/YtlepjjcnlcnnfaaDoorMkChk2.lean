/- Merkle: Check. -/
import Derived.Test.YtlepjjcnlcnnfaaDoorMkCheck
namespace Go.Proofs.YtlepjjcnlcnnfaaDoor.Merkle
open Go.RowKit Go.My

def toN (B : List Int) : List Nat := B.map Int.toNat
def prfV (p : Prf) (a1 : Option Addr) (c1 : Nat) (a2 : Option Addr) (c2 : Nat) : Value := .agg #[.int .i64 p.many, .int .i64 p.first, .slice a1 p.L.length c1, .slice a2 p.B.length c2]
/-- what a proof is told to be, by a book -/
structure Told (T' : List ByteArray) (p : Prf) (n f t d : Nat) : Prop where
  shaped : Shaped p n f
  made : MadeAt enc T' p.L f 0 n (toN p.B) t []
  root : At T' d (rootT n t)
def ChkT (w : World) (bB b m : Nat) (T : List ByteArray) (root : Int) (p : Prf) (n f : Nat) (e : Ending) (w' : World) : Prop :=
  ∃ v' T' t d, e = .returned (if ((d : Nat) : Int) = root then .nilIface else wrongV 61) ∧ BkT w' bB b m v' T' ∧ Ext T T' ∧ Told T' p n f t d ∧ T'.length ≤ T.length + (2 * n + 1) ∧ Fx bB w w'
theorem toN_at {B : List Int} (hp : ∀ z ∈ B, 0 ≤ z) {w : World} {a : Option Addr} (h : LiesAt w a 1 nums B) : LiesAt w a 1 numN (toN B) := by
  intro i x hi
  unfold toN at hi
  rw [List.getElem?_map] at hi
  obtain ⟨z, hz, rfl⟩ := Option.map_eq_some_iff.1 hi
  obtain ⟨g, o, ha, hg, hc⟩ := h i z hz
  have := hp z (List.mem_of_getElem? hz)
  refine ⟨g, o, ha, hg, fun j v hv => hc j v ?_⟩
  unfold numN at hv
  rw [show ((z.toNat : Nat) : Int) = z by omega] at hv
  exact hv
section
variable {w : World} {bB b m : Nat} {v : Value} {T : List ByteArray} {p : Prf} {a1 a2 : Option Addr} {c1 c2 : Nat}
/-- the call's own blocks: the proof's box -/
theorem box_kept {w1 : World} {o : Obj} (hb : Below w.heap.size w w1) {pb : Nat} (h : w.heap[pb]? = some o) : w1.heap[pb]? = some o := (hb.block _ (lt_of_heap h)).trans h
end
set_option maxRecDepth 100000 in
theorem chk_no (bB b : Nat) (root : Int) (p : Prf) (a1 a2 : Option Addr) (c1 c2 : Nat) (w : World) (h : PrfAt w bB p a1 a2) (hB : bB ≤ w.heap.size) (hno : ¬ ∃ n f, Shaped p n f) :
    Calls Tryd.prog 13 #[.pointer (some ⟨b, 0, none⟩), .int .i64 root, prfV p a1 c1 a2 c2] w fun e w' => e = .returned (wrongV 62) ∧ Below w.heap.size w w' := by
  obtain ⟨W, hW⟩ : ∃ W : World, W = w.alloc (.cells #[.int .i64 p.many, .int .i64 p.first, .slice a1 p.L.length c1, .slice a2 p.B.length c2] 25) := ⟨_, rfl⟩
  obtain ⟨pb, hpb⟩ : ∃ k, k = w.heap.size := ⟨_, rfl⟩
  have hbx : W.heap[pb]? = some (.cells #[.int .i64 p.many, .int .i64 p.first, .slice a1 p.L.length c1, .slice a2 p.B.length c2] 25 (0, 0)) := by rw [hW, hpb]; exact heap_alloc_new w _
  have hbw : Below w.heap.size w W := by rw [hW]; exact (Below.refl _ _).alloc (Nat.le_refl _) _
  have HBW := Lib.hid hbw
  have hS := shaped_any bB p a1 c1 a2 c2 W (h.keep (Fx.of_below hbw hB)) (Nat.le_trans hB hbw.size)
  have HS : Hid (Calls Tryd.prog 24 #[prfV p a1 c1 a2 c2] W fun e w' => e = .returned (.bool false) ∧ Below W.heap.size W w') := hS.mono fun e w' ⟨r, h1, h2, h3, h4⟩ => by
    cases r with
    | false => exact ⟨h1, h4⟩
    | true => exact absurd (h2 rfl) hno
  have HWR := Lib.hid (fun (W : World) => wrong_any 62 W rfl)
  unfold prfV at HS ⊢
  obtain ⟨pm, pf, L, B⟩ := p
  simp only at hbx hW HS ⊢
  generalize L.length = ln at *
  generalize B.length = bn at *
  have d0 : W.cell? ⟨pb, 0, none⟩ = some (.int .i64 pm) := by rw [cell_of_row _ _ _ _ _ _ hbx]; rfl
  have d1 : W.cell? ⟨pb, 1, none⟩ = some (.int .i64 pf) := by rw [cell_of_row _ _ _ _ _ _ hbx]; rfl
  have d2 : W.cell? ⟨pb, 2, none⟩ = some (.slice a1 ln c1) := by rw [cell_of_row _ _ _ _ _ _ hbx]; rfl
  have d3 : W.cell? ⟨pb, 3, none⟩ = some (.slice a2 bn c2) := by rw [cell_of_row _ _ _ _ _ _ hbx]; rfl
  have HW : Hid (w.alloc (.cells #[.int .i64 pm, .int .i64 pf, .slice a1 ln c1, .slice a2 bn c2] 25) = W ∧ w.heap.size = pb) := ⟨hW.symm, hpb.symm⟩
  clear h hB hno hS hW hpb hbx hbw
  go_enter Tryd.func13, Tryd.ntmps13
  go_upto_region 1 with fail
  rw [HW.out.1, HW.out.2]
  go_wp2_with fail
  refine HS.out.mono ?_
  rintro e w1 ⟨rfl, hb⟩
  have HB1 := Lib.hid (HBW.out.trans (hb.mono HBW.out.size))
  clear hb
  go_wp2_with (go_at_call 16; refine (HWR.out _).mono ?_; rintro e w2 ⟨rfl, rfl⟩)
  go_ret
  exact ⟨rfl, HB1.out⟩
set_option maxRecDepth 100000 in
set_option maxHeartbeats 3200000 in
theorem chk_yes (bB b m : Nat) (v : Value) (T : List ByteArray) (root : Int) (p : Prf) (n f : Nat) (a1 a2 : Option Addr) (c1 c2 : Nat) (w : World) (hbk : BkT w bB b m v T) (h : PrfAt w bB p a1 a2) (hc : p.B.length ≤ c2) (hs : Shaped p n f) (hT : T.length ≤ 50000) :
    Calls Tryd.prog 13 #[.pointer (some ⟨b, 0, none⟩), .int .i64 root, prfV p a1 c1 a2 c2] w (ChkT w bB b m T root p n f) := by
  obtain ⟨W, hW⟩ : ∃ W : World, W = w.alloc (.cells #[.int .i64 p.many, .int .i64 p.first, .slice a1 p.L.length c1, .slice a2 p.B.length c2] 25) := ⟨_, rfl⟩
  obtain ⟨pb, hpb⟩ : ∃ k, k = w.heap.size := ⟨_, rfl⟩
  have hbx : W.heap[pb]? = some (.cells #[.int .i64 p.many, .int .i64 p.first, .slice a1 p.L.length c1, .slice a2 p.B.length c2] 25 (0, 0)) := by rw [hW, hpb]; exact heap_alloc_new w _
  have hbw : Below w.heap.size w W := by rw [hW]; exact (Below.refl _ _).alloc (Nat.le_refl _) _
  have HBW := Lib.hid hbw
  have hS := shaped_any bB p a1 c1 a2 c2 W (h.keep (Fx.of_below hbw hbk.le)) (Nat.le_trans hbk.le hbw.size)
  have HS : Hid (Calls Tryd.prog 24 #[prfV p a1 c1 a2 c2] W fun e w' => e = .returned (.bool true) ∧ Below W.heap.size W w') := hS.mono fun e w' ⟨r, h1, h2, h3, h4⟩ => by
    cases r with
    | true => exact ⟨h1, h4⟩
    | false => exact absurd ⟨n, f, hs⟩ (h3 rfl)
  have HWR := Lib.hid (fun (W : World) => wrong_any 61 W rfl)
  have hgood := right_good hs.right h.wide
  have hsm := hs.small
  have hfit := hs.fits
  have hln : (toN p.B).length = p.B.length := by unfold toN; rw [List.length_map]
  have HF : Hid (∀ w1, Below W.heap.size W w1 → Calls Tryd.prog 25 #[.pointer (some ⟨w1.heap.size, 0, none⟩), .int .i64 0, .int .i64 (n : Int), .func (.func 26) #[] #[.pointer (some ⟨pb, 0, none⟩), .pointer (some ⟨w1.heap.size + 1 + 1, 0, none⟩)], .func (.func 27) #[] #[.pointer (some ⟨w1.heap.size + 1, 0, none⟩), .pointer (some ⟨pb, 0, none⟩)]]
      (((w1.alloc (.cells #[.pointer (some ⟨b, 0, none⟩), .nilIface] 53)).alloc (.cells #[.pointer (some ⟨w1.heap.size, 0, none⟩)] 51)).alloc (.cells #[.slice a2 p.B.length c2] 23))
      (fun e w2 => ∃ v' T' t, e = .returned (.int .i64 ((t : Nat) : Int)) ∧ TrAt w2 bB b m v' T' w1.heap.size ∧ Ext T T' ∧ MadeAt enc T' p.L f 0 n (toN p.B) t [] ∧ T'.length ≤ T.length + 2 * n ∧ Fx bB w w2 ∧ w2.heap[pb]? = some (.cells #[.int .i64 p.many, .int .i64 p.first, .slice a1 p.L.length c1, .slice a2 p.B.length c2] 25 (0, 0)) ∧ w2.heap[w1.heap.size + 1]? = some (.cells #[.pointer (some ⟨w1.heap.size, 0, none⟩)] 51 (0, 0)))) := fun w1 hb1 => by
    obtain ⟨W3, hW3⟩ : ∃ W3 : World, W3 = ((w1.alloc (.cells #[.pointer (some ⟨b, 0, none⟩), .nilIface] 53)).alloc (.cells #[.pointer (some ⟨w1.heap.size, 0, none⟩)] 51)).alloc (.cells #[.slice a2 p.B.length c2] 23) := ⟨_, rfl⟩
    have hbw1 : Below w.heap.size w w1 := hbw.trans (hb1.mono hbw.size)
    have h1 := (hbk.below hbw1).tree
    have hba : Below (w1.heap.size + 1) (w1.alloc (.cells #[.pointer (some ⟨b, 0, none⟩), .nilIface] 53)) W3 := by rw [hW3]; exact ((Below.refl _ _).alloc (by simp) _).alloc (by simp) _
    have h3 : TrAt W3 bB b m v T w1.heap.size := h1.below (by simpa using hba)
    have hbt : W3.heap[w1.heap.size + 1]? = some (.cells #[.pointer (some ⟨w1.heap.size, 0, none⟩)] 51 (0, 0)) := by
      rw [hW3, heap_alloc_old _ _ (by simp)]
      have := heap_alloc_new (w1.alloc (.cells #[.pointer (some ⟨b, 0, none⟩), .nilIface] 53)) (.cells #[.pointer (some ⟨w1.heap.size, 0, none⟩)] 51)
      simpa using this
    have hrb : W3.heap[w1.heap.size + 1 + 1]? = some (.cells #[.slice a2 (toN p.B).length c2] 23 (0, 0)) := by
      rw [hln, hW3]
      have := heap_alloc_new ((w1.alloc (.cells #[.pointer (some ⟨b, 0, none⟩), .nilIface] 53)).alloc (.cells #[.pointer (some ⟨w1.heap.size, 0, none⟩)] 51)) (.cells #[.slice a2 p.B.length c2] 23)
      simpa using this
    have hb13 : Below w1.heap.size w1 W3 := by rw [hW3]; exact (((Below.refl _ _).alloc (Nat.le_refl _) _).alloc (by simp) _).alloc (by simp; omega) _
    have hbw3 : Below w.heap.size w W3 := hbw1.trans (hb13.mono hbw1.size)
    have hp3 := h.keep (Fx.of_below hbw3 hbk.le)
    have hpb3 : W3.heap[pb]? = some (.cells #[.int .i64 p.many, .int .i64 p.first, .slice a1 p.L.length c1, .slice a2 p.B.length c2] 25 (0, 0)) := box_kept (hb1.trans (hb13.mono hb1.size)) hbx
    have hlt : pb < w1.heap.size := Nat.lt_of_lt_of_le (lt_of_heap hbx) hb1.size
    have hold : ∀ g, g < w.heap.size → g ≠ w1.heap.size + 1 + 1 := fun g hg => by have := hbw1.size; omega
    have hents : EntsY W3 bB (w1.heap.size + 1 + 1) a1 p.L := ⟨hp3.ents, fun g o e hne => hold g (h.ents.safe g o e hne).1⟩
    have hne0 : toN p.B ≠ [] → p.B ≠ [] := fun q e => q (by unfold toN; rw [e]; rfl)
    have hrest : RestAt W3 bB (w1.heap.size + 1 + 1) (toN p.B) := ⟨⟨a2, c2, hrb, by rw [hln]; exact hc, toN_at hs.pos hp3.nums, fun g o e hne => ⟨hp3.safe g o e (hne0 hne), hold g (h.safe g o e (hne0 hne)).1⟩⟩, fun x hx => by
      unfold toN at hx
      obtain ⟨z, hz, rfl⟩ := List.mem_map.1 hx
      have := h.i64 z hz
      omega, by have := hbw1.size; have := hbk.le; omega⟩
    have hm : p.many = n := hs.many
    have hf : p.first = f := hs.first
    have hpb4 := hpb3
    rw [hf] at hpb4
    have hlen := hs.len
    rw [← hln] at hlen
    have hfold := chkfold_any bB b m w1.heap.size (w1.heap.size + 1) pb (w1.heap.size + 1 + 1) f p.many a1 a2 c1 c2 p.B.length p.L hgood (by omega) ⟨by omega, by omega⟩ n 0 v T (toN p.B) W3 h3 hbt hpb4 hents hrest (by rw [hln]; have := h.few; omega) (by omega) (fun h0 => apart_iff.2 (.inl (by omega))) (by omega) (by omega)
    rw [← hW3]
    refine Calls.mono (show Calls _ _ _ _ (MadeT W3 bB b m w1.heap.size (w1.heap.size + 1 + 1) T p.L f 0 n (toN p.B)) from hfold) ?_
    rintro e w2 ⟨v', T', t, r', q1, q2, q3, q4, q5, q6, q7, q8⟩
    have hr' : r' = [] := List.length_eq_zero_iff.1 (by omega)
    subst hr'
    refine ⟨v', T', t, q1, q2, q3, q4, by omega, ?_, q8.kept _ _ (by omega) hpb3 rfl, q8.kept _ _ (by omega) hbt rfl⟩
    refine ⟨(hbw3.mono hbk.le).trans q8.below, fun k o hk ho => q8.kept k o ?_ (box_kept hbw3 hk) ho⟩
    have := lt_of_heap hk
    have := hbw1.size
    omega
  have HFIN : Hid (∀ (T1 : List ByteArray) (t : Nat) (w2 w3 : World) (tb : Nat) (e : Ending), Ext T T1 → MadeAt enc T1 p.L f 0 n (toN p.B) t [] → T1.length ≤ T.length + 2 * n → Fx bB w w2 → DigT w2 bB b m tb T1 (rootT n t) e w3 → ∃ (d : Nat) (v' : Value) (T' : List ByteArray), e = .returned (.int .i64 (d : Int)) ∧ TrAt w3 bB b m v' T' tb ∧ Fx bB w2 w3 ∧ ∀ e', e' = .returned (if (d : Int) = root then .nilIface else wrongV 61) → ChkT w bB b m T root p n f e' w3) := by
    rintro T1 t w2 w3 tb e x1 m1 l1 f1 ⟨v', T', d, q1, q2, q3, q4, q5, q6⟩
    exact ⟨d, v', T', q1, q2, q6, fun e' he' => ⟨v', T', t, d, he', q2.bkt, x1.trans q3, ⟨hs, m1.ext q3, q4⟩, by omega, f1.trans q6⟩⟩
  have HT1 : Hid (∀ T1 : List ByteArray, T1.length ≤ T.length + 2 * n → T1.length < 65536) := fun T1 q => by omega
  have hmany := hs.many
  unfold prfV at HS ⊢
  obtain ⟨pm, pf, L, B⟩ := p
  simp only at hmany
  subst hmany
  simp only at hbx hW HS HF HFIN ⊢
  obtain ⟨ln, hlnn⟩ : ∃ k, k = L.length := ⟨_, rfl⟩
  obtain ⟨bn, hbnn⟩ : ∃ k, k = B.length := ⟨_, rfl⟩
  rw [← hlnn] at hbx hW HS HF ⊢
  rw [← hbnn] at hbx hW HS HF ⊢
  have d0 : W.cell? ⟨pb, 0, none⟩ = some (.int .i64 (n : Int)) := by rw [cell_of_row _ _ _ _ _ _ hbx]; rfl
  have d1 : W.cell? ⟨pb, 1, none⟩ = some (.int .i64 pf) := by rw [cell_of_row _ _ _ _ _ _ hbx]; rfl
  have d2 : W.cell? ⟨pb, 2, none⟩ = some (.slice a1 ln c1) := by rw [cell_of_row _ _ _ _ _ _ hbx]; rfl
  have d3 : W.cell? ⟨pb, 3, none⟩ = some (.slice a2 bn c2) := by rw [cell_of_row _ _ _ _ _ _ hbx]; rfl
  have HW : Hid (w.alloc (.cells #[.int .i64 (n : Int), .int .i64 pf, .slice a1 ln c1, .slice a2 bn c2] 25) = W ∧ w.heap.size = pb) := ⟨hW.symm, hpb.symm⟩
  have HBX := Lib.hid hbx
  clear h hs hc hbk hT hS hW hpb hbx hbw hgood hsm hfit hln hlnn hbnn
  go_enter Tryd.func13, Tryd.ntmps13
  go_upto_region 1 with fail
  rw [HW.out.1, HW.out.2]
  go_wp2_with fail
  refine HS.out.mono ?_
  rintro e w1 ⟨rfl, hb⟩
  have HF1 := Lib.hid (HF.out w1 hb)
  have hb1 := box_kept hb HBX.out
  have d0 : w1.cell? ⟨pb, 0, none⟩ = some (.int .i64 (n : Int)) := by rw [cell_of_row _ _ _ _ _ _ hb1]; rfl
  have d3 : w1.cell? ⟨pb, 3, none⟩ = some (.slice a2 bn c2) := by rw [cell_of_row _ _ _ _ _ _ hb1]; rfl
  obtain ⟨W3, hW3⟩ : ∃ W3 : World, W3 = ((w1.alloc (.cells #[.pointer (some ⟨b, 0, none⟩), .nilIface] 53)).alloc (.cells #[.pointer (some ⟨w1.heap.size, 0, none⟩)] 51)).alloc (.cells #[.slice a2 bn c2] 23) := ⟨_, rfl⟩
  have hb13 : Below w1.heap.size w1 W3 := by rw [hW3]; exact (((Below.refl _ _).alloc (Nat.le_refl _) _).alloc (by simp) _).alloc (by simp; omega) _
  have g0 : W3.cell? ⟨pb, 0, none⟩ = some (.int .i64 (n : Int)) := (hb13.cell (p := ⟨pb, _, none⟩) (lt_of_heap hb1)).trans d0
  have g1 : W3.cell? ⟨w1.heap.size + 1, 0, none⟩ = some (.pointer (some ⟨w1.heap.size, 0, none⟩)) := by
    refine one_cell (t := 51) ?_
    rw [hW3, heap_alloc_old _ _ (by simp)]
    have := heap_alloc_new (w1.alloc (.cells #[.pointer (some ⟨b, 0, none⟩), .nilIface] 53)) (.cells #[.pointer (some ⟨w1.heap.size, 0, none⟩)] 51)
    simpa using this
  have HW3 := Lib.hid hW3.symm
  rw [← hW3] at HF1
  have lpb : pb < w1.heap.size := lt_of_heap hb1
  clear hb hb1 hb13 hW3
  go_upto_region 5 with fail
  rw [HW3.out]
  clear d0 d3 lpb
  go_wp2_with fail
  refine HF1.out.mono ?_
  rintro e w2 ⟨v2, T2, t, rfl, q2, x2, m2, l2, f2, k1, k2⟩
  have HRT := Lib.hid (root_any bB b m w1.heap.size v2 T2 n t w2 q2 (HT1.out T2 l2))
  have HF2 := Lib.hid (fun (w3 : World) (e : Ending) (hd : DigT w2 bB b m w1.heap.size T2 (rootT n t) e w3) => HFIN.out T2 t w2 w3 w1.heap.size e x2 m2 l2 f2 hd)
  have c0 : w2.cell? ⟨pb, 0, none⟩ = some (.int .i64 (n : Int)) := by rw [cell_of_row _ _ _ _ _ _ k1]; rfl
  have c2' := one_cell k2
  have HK2 := Lib.hid k2
  clear q2 x2 m2 l2 f2 k1 k2
  go_wp2_with fail
  refine HRT.out.mono ?_
  rintro e w3 hd
  obtain ⟨d, v3, T3, rfl, htr, hfx, hfin⟩ := HF2.out w3 e hd
  have e1 := htr.c1
  have e2 := one_cell (hfx.kept _ _ HK2.out rfl)
  have HFN := Lib.hid hfin
  clear htr hfx hfin hd
  by_cases hr : (d : Int) = root
  · have HE : Hid (ChkT w bB b m T root ⟨(n : Int), pf, L, B⟩ n f (.returned .nilIface) w3) := HFN.out _ (by rw [if_pos hr])
    have ht : ((d : Int) != root) = false := by simpa using hr
    clear hr
    go_wp2_with fail
    go_ret
    exact HE.out
  · have HE : Hid (ChkT w bB b m T root ⟨(n : Int), pf, L, B⟩ n f (.returned (wrongV 61)) w3) := HFN.out _ (by rw [if_neg hr])
    have ht : ((d : Int) != root) = true := by simpa using hr
    clear hr
    go_wp2_with (go_at_call 16; refine (HWR.out _).mono ?_; rintro e w2 ⟨rfl, rfl⟩)
    go_ret
    exact HE.out
end Go.Proofs.YtlepjjcnlcnnfaaDoor.Merkle
