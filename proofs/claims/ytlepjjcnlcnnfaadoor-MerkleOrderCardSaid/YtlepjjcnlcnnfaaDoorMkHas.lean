/- Merkle: Has. -/
import Derived.Test.YtlepjjcnlcnnfaaDoorMkChk2
namespace Go.Proofs.YtlepjjcnlcnnfaaDoor.Merkle
open Go.RowKit Go.My

def EndsLeft (w : World) (n f ln : Nat) (e : Ending) (w' : World) : Prop := e = .returned (.tuple #[.bool (decide (f = 0)), .bool (decide (f + ln = n))]) ∧ Below w.heap.size w w'
set_option maxRecDepth 100000 in
theorem ends_any (n f ln : Nat) (a1 a2 : Option Addr) (c1 bn c2 : Nat) (w : World) (h : n ≤ 2000 ∧ f ≤ 2000 ∧ ln ≤ 2000) :
    Calls Tryd.prog 19 #[.agg #[.int .i64 (n : Int), .int .i64 (f : Int), .slice a1 ln c1, .slice a2 bn c2]] w (EndsLeft w n f ln) := by
  obtain ⟨W, hW⟩ : ∃ W : World, W = w.alloc (.cells #[.int .i64 (n : Int), .int .i64 (f : Int), .slice a1 ln c1, .slice a2 bn c2] 25) := ⟨_, rfl⟩
  obtain ⟨pb, hpb⟩ : ∃ k, k = w.heap.size := ⟨_, rfl⟩
  have hbx : W.heap[pb]? = some (.cells #[.int .i64 (n : Int), .int .i64 (f : Int), .slice a1 ln c1, .slice a2 bn c2] 25 (0, 0)) := by rw [hW, hpb]; exact heap_alloc_new w _
  have hbw : Below w.heap.size w W := by rw [hW]; exact (Below.refl _ _).alloc (Nat.le_refl _) _
  have HQ : Hid (∀ q, Below w.heap.size w (W.drewN q)) := fun q => ⟨hbw.os, hbw.tape, hbw.output, hbw.size, hbw.block⟩
  have d0 : W.cell? ⟨pb, 0, none⟩ = some (.int .i64 (n : Int)) := by rw [cell_of_row _ _ _ _ _ _ hbx]; rfl
  have d1 : W.cell? ⟨pb, 1, none⟩ = some (.int .i64 (f : Int)) := by rw [cell_of_row _ _ _ _ _ _ hbx]; rfl
  have d2 : W.cell? ⟨pb, 2, none⟩ = some (.slice a1 ln c1) := by rw [cell_of_row _ _ _ _ _ _ hbx]; rfl
  have HW : Hid (w.alloc (.cells #[.int .i64 (n : Int), .int .i64 (f : Int), .slice a1 ln c1, .slice a2 bn c2] 25) = W ∧ w.heap.size = pb) := ⟨hW.symm, hpb.symm⟩
  have w1 : IntKind.i64.wrap ((f : Int) + (ln : Int)) = (f : Int) + (ln : Int) := IntWalk.i64_in _ (by omega)
  have HV : Hid (((f : Int) == 0) = decide (f = 0) ∧ ((f : Int) + (ln : Int) == (n : Int)) = decide (f + ln = n)) := ⟨by rw [Bool.eq_iff_iff]; simp, by rw [Bool.eq_iff_iff]; simp; omega⟩
  unfold EndsLeft
  rw [← HV.out.1, ← HV.out.2]
  clear hW hpb hbx hbw h
  go_enter Tryd.func19, Tryd.ntmps19
  go_upto_region 1 with fail
  rw [HW.out.1, HW.out.2]
  go_quiet (fail)
  go_wp2_with fail
  go_ret2
  exact ⟨rfl, HQ.out _⟩
def zeroE : Value := .agg #[.string ⟨#[]⟩, .string ⟨#[]⟩, .int .i64 0]
def lowH (L : List Ent) (n f : Nat) (key : ByteArray) : Bool := if L.length = 0 then decide (n = 0) else (decide (f = 0) || L.any fun x => lessK x.key key)
def highH (L : List Ent) (n f : Nat) (key : ByteArray) : Bool := decide (f + L.length = n) || L.any fun x => !lessK x.key key
/-- what Has tells of a proof that is taken -/
def hasV (L : List Ent) (n f : Nat) (key : ByteArray) : Value :=
  match L.find? fun x => decide (x.key = key) with
  | some x => .tuple #[entV x, .bool true, .nilIface]
  | none => if (lowH L n f key && highH L n f key) = true then .tuple #[zeroE, .bool false, .nilIface] else .tuple #[zeroE, .bool false, wrongV 62]
def resO : Obj := .cells #[.string ⟨#[]⟩, .string ⟨#[]⟩, .int .i64 0] 36
def hasW (w : World) (p : Prf) (a1 : Option Addr) (c1 : Nat) (a2 : Option Addr) (c2 : Nat) : World := (w.alloc (.cells #[.int .i64 p.many, .int .i64 p.first, .slice a1 p.L.length c1, .slice a2 p.B.length c2] 25)).alloc resO
theorem hasW_below (w : World) (p : Prf) (a1 : Option Addr) (c1 : Nat) (a2 : Option Addr) (c2 : Nat) : Below w.heap.size w (hasW w p a1 c1 a2 c2) := ((Below.refl _ _).alloc (Nat.le_refl _) _).alloc (by simp) _
theorem hasW_box (w : World) (p : Prf) (a1 : Option Addr) (c1 : Nat) (a2 : Option Addr) (c2 : Nat) : (hasW w p a1 c1 a2 c2).heap[w.heap.size]? = some (.cells #[.int .i64 p.many, .int .i64 p.first, .slice a1 p.L.length c1, .slice a2 p.B.length c2] 25 (0, 0)) := by
  unfold hasW
  rw [heap_alloc_old _ _ (by simp)]
  exact heap_alloc_new w _
theorem hasW_res (w : World) (p : Prf) (a1 : Option Addr) (c1 : Nat) (a2 : Option Addr) (c2 : Nat) : (hasW w p a1 c1 a2 c2).heap[w.heap.size + 1]? = some (.cells #[.string ⟨#[]⟩, .string ⟨#[]⟩, .int .i64 0] 36 (0, 0)) := by
  unfold hasW resO
  have := heap_alloc_new (w.alloc (.cells #[.int .i64 p.many, .int .i64 p.first, .slice a1 p.L.length c1, .slice a2 p.B.length c2] 25)) (.cells #[.string ⟨#[]⟩, .string ⟨#[]⟩, .int .i64 0] 36)
  simpa using this
/-- a result in a block of the call's own was written -/
def HasLeft (v : Value) (k : Nat) (Q : World → Prop) (e : Ending) (w' : World) : Prop := e = .returned v ∧ ∃ w1, Q w1 ∧ Wrote [k] w1 w'
set_option maxRecDepth 100000 in
theorem has_err (b : Nat) (root : Int) (key : ByteArray) (p : Prf) (a1 a2 : Option Addr) (c1 c2 : Nat) (w : World) (Te : TypeId) (ev : Value) (Q : World → Prop)
    (HC : Calls Tryd.prog 13 #[.pointer (some ⟨b, 0, none⟩), .int .i64 root, prfV p a1 c1 a2 c2] (hasW w p a1 c1 a2 c2) fun e w' => e = .returned (.iface Te ev) ∧ Q w' ∧ w'.heap[w.heap.size + 1]? = some (.cells #[.string ⟨#[]⟩, .string ⟨#[]⟩, .int .i64 0] 36 (0, 0))) :
    Calls Tryd.prog 10 #[.pointer (some ⟨b, 0, none⟩), .int .i64 root, .string key, prfV p a1 c1 a2 c2] w (HasLeft (.tuple #[zeroE, .bool false, .iface Te ev]) (w.heap.size + 1) Q) := by
  have HCH := Lib.hid HC
  have hb := hasW_box w p a1 c1 a2 c2
  have d0 : (hasW w p a1 c1 a2 c2).cell? ⟨w.heap.size, 0, none⟩ = some (.int .i64 p.many) := by rw [cell_of_row _ _ _ _ _ _ hb]; rfl
  have d1 : (hasW w p a1 c1 a2 c2).cell? ⟨w.heap.size, 1, none⟩ = some (.int .i64 p.first) := by rw [cell_of_row _ _ _ _ _ _ hb]; rfl
  have d2 : (hasW w p a1 c1 a2 c2).cell? ⟨w.heap.size, 2, none⟩ = some (.slice a1 p.L.length c1) := by rw [cell_of_row _ _ _ _ _ _ hb]; rfl
  have d3 : (hasW w p a1 c1 a2 c2).cell? ⟨w.heap.size, 3, none⟩ = some (.slice a2 p.B.length c2) := by rw [cell_of_row _ _ _ _ _ _ hb]; rfl
  obtain ⟨W, hW⟩ : ∃ W : World, W = hasW w p a1 c1 a2 c2 := ⟨_, rfl⟩
  have HW : Hid ((w.alloc (.cells #[.int .i64 p.many, .int .i64 p.first, .slice a1 p.L.length c1, .slice a2 p.B.length c2] 25)).alloc (.cells #[.string ⟨#[]⟩, .string ⟨#[]⟩, .int .i64 0] 36) = W) := hW.symm
  rw [← hW] at HCH d0 d1 d2 d3
  obtain ⟨pb, hpb⟩ : ∃ k, k = w.heap.size := ⟨_, rfl⟩
  have HPB := Lib.hid hpb.symm
  rw [← hpb] at HCH d0 d1 d2 d3 ⊢
  unfold prfV at HCH ⊢
  generalize p.L.length = ln at *
  generalize p.B.length = bn at *
  generalize p.many = pm at *
  generalize p.first = pf at *
  clear HC hb hW hpb
  go_enter Tryd.func10, Tryd.ntmps10
  go_upto_region 1 with fail
  rw [HW.out, HPB.out]
  go_wp2_with fail
  refine HCH.out.mono ?_
  rintro e w1 ⟨rfl, hq, hr⟩
  have e0 : w1.cell? ⟨pb + 1, 0, none⟩ = some (.string ⟨#[]⟩) := by rw [cell_of_row _ _ _ _ _ _ hr]; rfl
  have e1 : w1.cell? ⟨pb + 1, 1, none⟩ = some (.string ⟨#[]⟩) := by rw [cell_of_row _ _ _ _ _ _ hr]; rfl
  have e2 : w1.cell? ⟨pb + 1, 2, none⟩ = some (.int .i64 0) := by rw [cell_of_row _ _ _ _ _ _ hr]; rfl
  have f0 : w1.frozen? ⟨pb + 1, 0, none⟩ = false := by unfold World.frozen?; rw [hr]; rfl
  have f1 : w1.frozen? ⟨pb + 1, 1, none⟩ = false := by unfold World.frozen?; rw [hr]; rfl
  have f2 : w1.frozen? ⟨pb + 1, 2, none⟩ = false := by unfold World.frozen?; rw [hr]; rfl
  have HQ := Lib.hid hq
  clear hq hr
  go_wp2_with fail
  refine bodyPost_ret (v := .tuple #[.agg #[.string ⟨#[]⟩, .string ⟨#[]⟩, .int .i64 0], .bool false, .iface Te ev]) (by simp [results, Tryd.results10, go_sem, e0, e1, e2]) rfl ⟨rfl, w1, HQ.out, ?_⟩
  exact (((Wrote.refl _ _).setCell (.inl (by simp)) _).setCell (.inl (by simp)) _).setCell (.inl (by simp)) _
theorem take_any {L : List Ent} {j : Nat} {x : Ent} (h : L[j]? = some x) (g : Ent → Bool) : (L.take (j + 1)).any g = ((L.take j).any g || g x) := by
  rw [List.take_add_one, h]
  simp
theorem find_none_snoc {L : List Ent} {j : Nat} {x : Ent} (h : L[j]? = some x) (g : Ent → Bool) (h0 : (L.take j).find? g = none) (hx : g x = false) : (L.take (j + 1)).find? g = none := by
  rw [List.take_add_one, h, List.find?_append, h0]
  simp [hx]
theorem find_hit {L : List Ent} {j : Nat} {x : Ent} (h : L[j]? = some x) (g : Ent → Bool) (h0 : (L.take j).find? g = none) (hx : g x = true) : L.find? g = some x := by
  rw [← List.take_append_drop (j + 1) L, List.find?_append, List.take_add_one, h, List.find?_append, h0]
  simp [hx]
set_option maxRecDepth 100000 in
set_option maxHeartbeats 6400000 in
theorem has_ok (b : Nat) (root : Int) (key : ByteArray) (p : Prf) (n f : Nat) (a1 a2 : Option Addr) (c1 c2 : Nat) (w : World) (Q : World → Prop) (hsh : Shaped p n f)
    (HC : Calls Tryd.prog 13 #[.pointer (some ⟨b, 0, none⟩), .int .i64 root, prfV p a1 c1 a2 c2] (hasW w p a1 c1 a2 c2) fun e w' => e = .returned .nilIface ∧ Q w' ∧ w'.heap[w.heap.size + 1]? = some (.cells #[.string ⟨#[]⟩, .string ⟨#[]⟩, .int .i64 0] 36 (0, 0)) ∧
      w'.heap[w.heap.size]? = some (.cells #[.int .i64 p.many, .int .i64 p.first, .slice a1 p.L.length c1, .slice a2 p.B.length c2] 25 (0, 0)) ∧ LiesAt w' a1 3 entL p.L) :
    Calls Tryd.prog 10 #[.pointer (some ⟨b, 0, none⟩), .int .i64 root, .string key, prfV p a1 c1 a2 c2] w (HasLeft (hasV p.L n f key) (w.heap.size + 1) Q) := by
  have HCH := Lib.hid HC
  have hb := hasW_box w p a1 c1 a2 c2
  have d0 : (hasW w p a1 c1 a2 c2).cell? ⟨w.heap.size, 0, none⟩ = some (.int .i64 p.many) := by rw [cell_of_row _ _ _ _ _ _ hb]; rfl
  have d1 : (hasW w p a1 c1 a2 c2).cell? ⟨w.heap.size, 1, none⟩ = some (.int .i64 p.first) := by rw [cell_of_row _ _ _ _ _ _ hb]; rfl
  have d2 : (hasW w p a1 c1 a2 c2).cell? ⟨w.heap.size, 2, none⟩ = some (.slice a1 p.L.length c1) := by rw [cell_of_row _ _ _ _ _ _ hb]; rfl
  have d3 : (hasW w p a1 c1 a2 c2).cell? ⟨w.heap.size, 3, none⟩ = some (.slice a2 p.B.length c2) := by rw [cell_of_row _ _ _ _ _ _ hb]; rfl
  obtain ⟨W, hW⟩ : ∃ W : World, W = hasW w p a1 c1 a2 c2 := ⟨_, rfl⟩
  have HW : Hid ((w.alloc (.cells #[.int .i64 p.many, .int .i64 p.first, .slice a1 p.L.length c1, .slice a2 p.B.length c2] 25)).alloc (.cells #[.string ⟨#[]⟩, .string ⟨#[]⟩, .int .i64 0] 36) = W) := hW.symm
  rw [← hW] at HCH d0 d1 d2 d3
  obtain ⟨pb, hpb⟩ : ∃ k, k = w.heap.size := ⟨_, rfl⟩
  have HPB := Lib.hid hpb.symm
  rw [← hpb] at HCH d0 d1 d2 d3 ⊢
  have hsm := hsh.small
  have hft := hsh.fits
  have hmm := hsh.many
  have hff := hsh.first
  unfold prfV at HCH ⊢
  obtain ⟨pm, pf, L, B⟩ := p
  simp only at hmm hff
  subst hmm
  subst hff
  simp only at HCH HW d0 d1 d2 d3 hft ⊢
  obtain ⟨ln, hln⟩ : ∃ k, k = L.length := ⟨_, rfl⟩
  have HLN := Lib.hid hln
  rw [← hln] at HCH d2 HW hft ⊢
  generalize B.length = bn at *
  have HEN := Lib.hid (fun (X : World) => ends_any n f ln a1 a2 c1 bn c2 X ⟨by omega, by omega, by omega⟩)
  have HWR := Lib.hid (fun (W : World) => wrong_any 62 W rfl)
  have hl9 : (ln : Int) ≤ 2000 := by omega
  have hn9 : (n : Int) ≤ 2000 := by omega
  clear HC hb hW hpb hsh hln hsm hft
  go_enter Tryd.func10, Tryd.ntmps10
  go_upto_region 1 with fail
  rw [HW.out, HPB.out]
  go_wp2_with fail
  refine HCH.out.mono ?_
  rintro e w1 ⟨rfl, hq, hr, hx, hl⟩
  have HQ := Lib.hid hq
  have HR := Lib.hid hr
  have HX := Lib.hid hx
  have HL := Lib.hid hl
  have d0 : w1.cell? ⟨pb, 0, none⟩ = some (.int .i64 (n : Int)) := by rw [cell_of_row _ _ _ _ _ _ hx]; rfl
  have d1 : w1.cell? ⟨pb, 1, none⟩ = some (.int .i64 (f : Int)) := by rw [cell_of_row _ _ _ _ _ _ hx]; rfl
  have d2 : w1.cell? ⟨pb, 2, none⟩ = some (.slice a1 ln c1) := by rw [cell_of_row _ _ _ _ _ _ hx]; rfl
  have d3 : w1.cell? ⟨pb, 3, none⟩ = some (.slice a2 bn c2) := by rw [cell_of_row _ _ _ _ _ _ hx]; rfl
  clear hq hr hx hl
  go_wp2_with fail
  refine (HEN.out _).mono ?_
  rintro e w2 ⟨rfl, hb⟩
  have HB2 := Lib.hid hb
  have hx := box_kept hb HX.out
  have d0 : w2.cell? ⟨pb, 0, none⟩ = some (.int .i64 (n : Int)) := by rw [cell_of_row _ _ _ _ _ _ hx]; rfl
  have d2 : w2.cell? ⟨pb, 2, none⟩ = some (.slice a1 ln c1) := by rw [cell_of_row _ _ _ _ _ _ hx]; rfl
  obtain ⟨lo, hlo⟩ : ∃ x, x = decide (f = 0) := ⟨_, rfl⟩
  obtain ⟨hi, hhi⟩ : ∃ x, x = decide (f + ln = n) := ⟨_, rfl⟩
  rw [← hlo, ← hhi]
  have HLO := Lib.hid hlo
  have HHI := Lib.hid hhi
  have P0 : Hid (lo = (lo || (L.take 0).any fun x => lessK x.key key) ∧ hi = (hi || (L.take 0).any fun x => !lessK x.key key) ∧ ((L.take 0).find? fun x => decide (x.key = key)) = none ∧ Below w1.heap.size w1 w2) := ⟨by simp, by simp, by simp, hb⟩
  clear hb hx hlo hhi
  go_wp2_with fail
  go_loopw [12, 13, 32] (fun u v i wr => ∃ (j : Nat) (x y : Bool), j ≤ ln ∧ i = .int .i64 j ∧ u = .bool x ∧ v = .bool y ∧ Hid (x = (lo || (L.take j).any fun x => lessK x.key key) ∧ y = (hi || (L.take j).any fun x => !lessK x.key key) ∧ ((L.take j).find? fun x => decide (x.key = key)) = none ∧ Below w1.heap.size w1 wr)) (fun _ _ i _ => ln - (intOf i).toNat)
  case atStart => exact ⟨0, lo, hi, by omega, rfl, rfl, rfl, P0⟩
  case round =>
    clear P0
    obtain ⟨j, x, y, hj, rfl, rfl, rfl, HJ⟩ := hrel
    by_cases hlt : j < ln
    · obtain ⟨⟨xk, xu, xn⟩, hx⟩ : ∃ x, L[j]? = some x := ⟨_, List.getElem?_eq_getElem (by rw [← HLN.out]; exact hlt)⟩
      obtain ⟨g, o, rfl, lg, hc⟩ := (HL.out.below HJ.out.2.2.2) j _ hx
      have k0 := hc 0 _ rfl
      have k1 := hc 1 _ rfl
      have k2 := hc 2 _ rfl
      simp only [Nat.add_zero] at k0 k1 k2
      have HXJ := Lib.hid hx
      have hj0 : (0 : Int) ≤ (j : Int) := by omega
      have hj1 : (j : Int) < (ln : Int) := by omega
      obtain ⟨W, hW⟩ : ∃ W : World, W = wr.alloc (.cells #[.string xk, .string xu, .int .i64 xn] 36) := ⟨_, rfl⟩
      obtain ⟨xb, hxb⟩ : ∃ k, k = wr.heap.size := ⟨_, rfl⟩
      have hbx : W.heap[xb]? = some (.cells #[.string xk, .string xu, .int .i64 xn] 36 (0, 0)) := by rw [hW, hxb]; exact heap_alloc_new wr _
      have e0 : W.cell? ⟨xb, 0, none⟩ = some (.string xk) := by rw [cell_of_row _ _ _ _ _ _ hbx]; rfl
      have e1 : W.cell? ⟨xb, 1, none⟩ = some (.string xu) := by rw [cell_of_row _ _ _ _ _ _ hbx]; rfl
      have e2 : W.cell? ⟨xb, 2, none⟩ = some (.int .i64 xn) := by rw [cell_of_row _ _ _ _ _ _ hbx]; rfl
      have hbw : Below w1.heap.size w1 W := by rw [hW]; exact HJ.out.2.2.2.trans (((Below.refl _ _).alloc (Nat.le_refl _) _).mono HJ.out.2.2.2.size)
      have HBW := Lib.hid hbw
      have HWW := Lib.hid hW.symm
      have HXB := Lib.hid hxb.symm
      by_cases hk : xk = key
      · have hr := box_kept hbw HR.out
        have hne : xb ≠ pb + 1 := by
          have := lt_of_heap HR.out
          have := HJ.out.2.2.2.size
          omega
        have e0' : W.cell? ⟨pb + 1, 0, none⟩ = some (.string ⟨#[]⟩) := by rw [cell_of_row _ _ _ _ _ _ hr]; rfl
        have e1' : W.cell? ⟨pb + 1, 1, none⟩ = some (.string ⟨#[]⟩) := by rw [cell_of_row _ _ _ _ _ _ hr]; rfl
        have e2' : W.cell? ⟨pb + 1, 2, none⟩ = some (.int .i64 0) := by rw [cell_of_row _ _ _ _ _ _ hr]; rfl
        have f0 : W.frozen? ⟨pb + 1, 0, none⟩ = false := by unfold World.frozen?; rw [hr]; rfl
        have f1 : W.frozen? ⟨pb + 1, 1, none⟩ = false := by unfold World.frozen?; rw [hr]; rfl
        have f2 : W.frozen? ⟨pb + 1, 2, none⟩ = false := by unfold World.frozen?; rw [hr]; rfl
        have hkk : (xk.toList == key.toList) = true := by rw [hk]; simp
        have HV : Hid (hasV L n f key = .tuple #[.agg #[.string xk, .string xu, .int .i64 xn], .bool true, .nilIface]) := by
          show _ = _
          unfold hasV
          rw [find_hit HXJ.out (fun x => decide (x.key = key)) HJ.out.2.2.1 (by simp [hk])]
          rfl
        clear hx hc lg hbx hbw hr hk hW hxb
        go_upto_region 9 with fail
        rw [HWW.out, HXB.out]
        clear k0 k1 k2
        go_wp2_with fail
        rw [HV.out]
        refine bodyPost_ret (v := .tuple #[.agg #[.string xk, .string xu, .int .i64 xn], .bool true, .nilIface]) (by simp [results, Tryd.results10, go_sem, e0', e1', e2']) rfl ⟨rfl, w1, HQ.out, ?_⟩
        exact (((((Wrote.of_below (S := []) HBW.out).mono (by simp)).setCell (.inl (by simp)) _).setCell (.inl (by simp)) _).setCell (.inl (by simp)) _)
      · have hkk : (xk.toList == key.toList) = false := key_ne hk
        have HF : Hid (((L.take (j + 1)).find? fun x => decide (x.key = key)) = none) := find_none_snoc HXJ.out _ HJ.out.2.2.1 (by simp [hk])
        obtain ⟨lb, hlb⟩ : ∃ lb, Op.bytesLess xk.toList key.toList = lb := ⟨_, rfl⟩
        have HLB : Hid (lessK xk key = lb) := hlb
        cases lb with
        | true =>
          have HNX : Hid (true = (lo || (L.take (j + 1)).any fun x => lessK x.key key) ∧ y = (hi || (L.take (j + 1)).any fun x => !lessK x.key key) ∧ ((L.take (j + 1)).find? fun x => decide (x.key = key)) = none ∧ Below w1.heap.size w1 W) := by
            refine ⟨?_, ?_, HF.out, HBW.out⟩
            · rw [take_any HXJ.out]
              simp only
              rw [HLB.out]
              simp
            · rw [take_any HXJ.out]
              simp only
              rw [HLB.out, HJ.out.2.1]
              simp
          clear hx hc lg hbx hbw hk hW hxb
          go_upto_region 9 with fail
          rw [HWW.out, HXB.out]
          clear k0 k1 k2
          go_wp2_with fail
          exact ⟨⟨j + 1, true, y, by omega, by simp, rfl, rfl, HNX⟩, by simp [intOf]; omega⟩
        | false =>
          have HNX : Hid (x = (lo || (L.take (j + 1)).any fun x => lessK x.key key) ∧ true = (hi || (L.take (j + 1)).any fun x => !lessK x.key key) ∧ ((L.take (j + 1)).find? fun x => decide (x.key = key)) = none ∧ Below w1.heap.size w1 W) := by
            refine ⟨?_, ?_, HF.out, HBW.out⟩
            · rw [take_any HXJ.out]
              simp only
              rw [HLB.out, HJ.out.1]
              simp
            · rw [take_any HXJ.out]
              simp only
              rw [HLB.out]
              simp
          clear hx hc lg hbx hbw hk hW hxb
          go_upto_region 9 with fail
          rw [HWW.out, HXB.out]
          clear k0 k1 k2
          go_wp2_with fail
          exact ⟨⟨j + 1, x, true, by omega, by simp, rfl, rfl, HNX⟩, by simp [intOf]; omega⟩
    · obtain rfl : ln = j := by omega
      have hx := box_kept HJ.out.2.2.2 HX.out
      have d0 : wr.cell? ⟨pb, 0, none⟩ = some (.int .i64 (n : Int)) := by rw [cell_of_row _ _ _ _ _ _ hx]; rfl
      have d2 : wr.cell? ⟨pb, 2, none⟩ = some (.slice a1 ln c1) := by rw [cell_of_row _ _ _ _ _ _ hx]; rfl
      have hr := box_kept HJ.out.2.2.2 HR.out
      have e0' : wr.cell? ⟨pb + 1, 0, none⟩ = some (.string ⟨#[]⟩) := by rw [cell_of_row _ _ _ _ _ _ hr]; rfl
      have e1' : wr.cell? ⟨pb + 1, 1, none⟩ = some (.string ⟨#[]⟩) := by rw [cell_of_row _ _ _ _ _ _ hr]; rfl
      have e2' : wr.cell? ⟨pb + 1, 2, none⟩ = some (.int .i64 0) := by rw [cell_of_row _ _ _ _ _ _ hr]; rfl
      have f0 : wr.frozen? ⟨pb + 1, 0, none⟩ = false := by unfold World.frozen?; rw [hr]; rfl
      have f1 : wr.frozen? ⟨pb + 1, 1, none⟩ = false := by unfold World.frozen?; rw [hr]; rfl
      have f2 : wr.frozen? ⟨pb + 1, 2, none⟩ = false := by unfold World.frozen?; rw [hr]; rfl
      obtain ⟨x2, hx2⟩ : ∃ x2, x2 = if ln = 0 then decide (n = 0) else x := ⟨_, rfl⟩
      have HBW := Lib.hid HJ.out.2.2.2
      have HV : Hid (hasV L n f key = if (x2 && y) = true then .tuple #[zeroE, .bool false, .nilIface] else .tuple #[zeroE, .bool false, wrongV 62]) := by
        show _ = _
        have q1 := HJ.out.1
        have q2 := HJ.out.2.1
        have q3 := HJ.out.2.2.1
        rw [List.take_of_length_le (by have := HLN.out; omega)] at q1 q2 q3
        unfold hasV
        rw [q3]
        have e1 : lowH L n f key = x2 := by
          unfold lowH
          rw [← HLN.out, hx2, q1, HLO.out]
        have e2 : highH L n f key = y := by
          unfold highH
          rw [← HLN.out, q2, HHI.out]
        simp only [e1, e2]
      have HWRT : Hid (∀ (u0 u1 u2 : Value), Wrote [pb + 1] w1 (((wr.setCell ⟨pb + 1, 0, none⟩ u0).setCell ⟨pb + 1, 1, none⟩ u1).setCell ⟨pb + 1, 2, none⟩ u2)) := fun u0 u1 u2 => (((((Wrote.of_below (S := []) HBW.out).mono (by simp)).setCell (.inl (by simp)) _).setCell (.inl (by simp)) _).setCell (.inl (by simp)) _)
      have HX2 := Lib.hid hx2
      clear hx hr hx2
      by_cases hz : ln = 0
      · subst hz
        have hzi : ((n : Int) == 0) = x2 := by
          rw [HX2.out, if_pos rfl]
          by_cases h : n = 0 <;> simp [h]
        cases x2 with
        | false =>
          have HVV : Hid (hasV L n f key = .tuple #[.agg #[.string ⟨#[]⟩, .string ⟨#[]⟩, .int .i64 0], .bool false, wrongV 62]) := by rw [HV.out]; rfl
          go_wp2_with (go_at_call 16; refine (HWR.out _).mono ?_; rintro e w2 ⟨rfl, rfl⟩)
          rw [HVV.out]
          refine bodyPost_ret (v := .tuple #[.agg #[.string ⟨#[]⟩, .string ⟨#[]⟩, .int .i64 0], .bool false, wrongV 62]) (by simp [results, Tryd.results10, go_sem, e0', e1', e2']) rfl ⟨rfl, w1, HQ.out, HWRT.out _ _ _⟩
        | true =>
          cases y with
          | false =>
            have HVV : Hid (hasV L n f key = .tuple #[.agg #[.string ⟨#[]⟩, .string ⟨#[]⟩, .int .i64 0], .bool false, wrongV 62]) := by rw [HV.out]; rfl
            go_wp2_with (go_at_call 16; refine (HWR.out _).mono ?_; rintro e w2 ⟨rfl, rfl⟩)
            rw [HVV.out]
            refine bodyPost_ret (v := .tuple #[.agg #[.string ⟨#[]⟩, .string ⟨#[]⟩, .int .i64 0], .bool false, wrongV 62]) (by simp [results, Tryd.results10, go_sem, e0', e1', e2']) rfl ⟨rfl, w1, HQ.out, HWRT.out _ _ _⟩
          | true =>
            have HVV : Hid (hasV L n f key = .tuple #[.agg #[.string ⟨#[]⟩, .string ⟨#[]⟩, .int .i64 0], .bool false, .nilIface]) := by rw [HV.out]; rfl
            go_wp2_with fail
            rw [HVV.out]
            refine bodyPost_ret (v := .tuple #[.agg #[.string ⟨#[]⟩, .string ⟨#[]⟩, .int .i64 0], .bool false, .nilIface]) (by simp [results, Tryd.results10, go_sem, e0', e1', e2']) rfl ⟨rfl, w1, HQ.out, HWRT.out _ _ _⟩
      · have hzi : ((ln : Int) == 0) = false := by simp; omega
        have hxx : x = x2 := by rw [HX2.out, if_neg hz]
        subst hxx
        clear hz
        cases x with
        | false =>
          have HVV : Hid (hasV L n f key = .tuple #[.agg #[.string ⟨#[]⟩, .string ⟨#[]⟩, .int .i64 0], .bool false, wrongV 62]) := by rw [HV.out]; rfl
          go_wp2_with (go_at_call 16; refine (HWR.out _).mono ?_; rintro e w2 ⟨rfl, rfl⟩)
          rw [HVV.out]
          refine bodyPost_ret (v := .tuple #[.agg #[.string ⟨#[]⟩, .string ⟨#[]⟩, .int .i64 0], .bool false, wrongV 62]) (by simp [results, Tryd.results10, go_sem, e0', e1', e2']) rfl ⟨rfl, w1, HQ.out, HWRT.out _ _ _⟩
        | true =>
          cases y with
          | false =>
            have HVV : Hid (hasV L n f key = .tuple #[.agg #[.string ⟨#[]⟩, .string ⟨#[]⟩, .int .i64 0], .bool false, wrongV 62]) := by rw [HV.out]; rfl
            go_wp2_with (go_at_call 16; refine (HWR.out _).mono ?_; rintro e w2 ⟨rfl, rfl⟩)
            rw [HVV.out]
            refine bodyPost_ret (v := .tuple #[.agg #[.string ⟨#[]⟩, .string ⟨#[]⟩, .int .i64 0], .bool false, wrongV 62]) (by simp [results, Tryd.results10, go_sem, e0', e1', e2']) rfl ⟨rfl, w1, HQ.out, HWRT.out _ _ _⟩
          | true =>
            have HVV : Hid (hasV L n f key = .tuple #[.agg #[.string ⟨#[]⟩, .string ⟨#[]⟩, .int .i64 0], .bool false, .nilIface]) := by rw [HV.out]; rfl
            go_wp2_with fail
            rw [HVV.out]
            refine bodyPost_ret (v := .tuple #[.agg #[.string ⟨#[]⟩, .string ⟨#[]⟩, .int .i64 0], .bool false, .nilIface]) (by simp [results, Tryd.results10, go_sem, e0', e1', e2']) rfl ⟨rfl, w1, HQ.out, HWRT.out _ _ _⟩
end Go.Proofs.YtlepjjcnlcnnfaaDoor.Merkle
