/- SlotsPlays: the walk. -/
import Derived.Test.YtelmgaaofighpaaSd5
import Derived.Test.YtelmgaaofighpaaCut
import Derived.Test.YtelmgaaofighpaaVotes
import Derived.Deep.RegionHeld3
import Derived.IntWalk
namespace Go.Proofs.Ytelmgaaofighpaa
open Go.RowKit Go.My Go.My.Slots

theorem SlotsAt.under {N : Nat} {w w' : World} {I : Ids} {s : St} (h : SlotsAt w I s) (ht : Below N w w') (hI : ∀ k ∈ I.list, k < N) : SlotsAt w' I s :=
  ⟨(ht.block _ (hI _ (by simp [Ids.list]))).trans h.blk, h.acc.keep (ht.block _ (hI _ (by simp [Ids.list]))), h.dec.keep (ht.block _ (hI _ (by simp [Ids.list]))), h.votes.keep (ht.block _ (hI _ (by simp [Ids.list]))), h.proofs.keep (ht.block _ (hI _ (by simp [Ids.list]))), h.nd⟩
theorem inv_short {s : St} (h : Inv s) : s.acc.length ≤ 16 ∧ s.dec.length ≤ 16 ∧ s.votes.length ≤ 320 ∧ (proofsL s).length ≤ 16 :=
  ⟨short_of h.nacc fun p hp => (h.acc p hp).1, short_of h.ndec fun p hp => (h.dec p hp).1, short_votes h, by rw [proofsL_len]; exact inv_few h⟩
theorem inv_long {s : St} (h : Inv s) : s.acc.length ≤ 10000 ∧ s.dec.length ≤ 10000 ∧ s.votes.length ≤ 10000 ∧ (proofsL s).length ≤ 10000 := by
  have := inv_short h
  omega
/-- what the long loop keeps -/
structure PlRel (w : World) (I : Ids) (d : Nat) (s : St) (v : Dv) (wr : World) : Prop where
  inv : Inv s
  slots : SlotsAt wr I s
  doc : DocAt wr d d v s
  below : Below w.heap.size w wr
  lo : w.heap.size ≤ d
  ids : ∀ k ∈ I.list, w.heap.size ≤ k ∧ k < d
theorem PlRel.keep {w wr w' : World} {I : Ids} {d : Nat} {s : St} {v : Dv} (h : PlRel w I d s v wr) (hb : Below wr.heap.size wr w') : PlRel w I d s v w' :=
  ⟨h.inv, h.slots.below hb, h.doc.below hb, h.below.trans (hb.mono h.below.size), h.lo, h.ids⟩
/-- a call is played on the open numbers and on the document -/
theorem PlRel.does {w wr w1 w2 : World} {I : Ids} {d : Nat} {s s' : St} {v : Dv} {b : Bool} {e e' : Ending} (h : PlRel w I d s v wr) (hi : Inv s') (h1 : Left wr I b s' e w1) (h2 : DocL w1 d d b s' e' w2) : ∃ v', PlRel w I d s' v' w2 := by
  obtain ⟨_, hs, hw⟩ := h1
  obtain ⟨_, ⟨v', hd⟩, hb⟩ := h2
  refine ⟨v', hi, hs.under hb.b fun k hk => (h.ids k hk).2, hd, ?_, h.lo, h.ids⟩
  exact (h.below.trans (hw.below h.below.size fun k hk => (h.ids k hk).1)).trans (hb.b.mono h.lo)

theorem thn {w w' w'' : World} (h : Below w.heap.size w w') (k : Below w'.heap.size w' w'') : Below w.heap.size w w'' := h.trans (k.mono h.size)
theorem drw (w : World) : Below w.heap.size w w.drew := (Below.refl _ _).drew
/-- a call, boxed -/
def Boxed (W : World) (bx : Nat) (o : Op6) : Prop := W.heap[bx]? = some (Obj.cells #[.int .i64 o.what, .int .i64 o.n, .int .i64 o.kind, .int .i64 o.who, .int .i64 o.d, .int .i64 o.v] 28 (0, 0))
theorem Boxed.cells {W : World} {bx : Nat} {o : Op6} (h : Boxed W bx o) : W.cell? ⟨bx, 0, none⟩ = some (.int .i64 o.what) ∧ W.cell? ⟨bx, 1, none⟩ = some (.int .i64 o.n) ∧ W.cell? ⟨bx, 2, none⟩ = some (.int .i64 o.kind) ∧ W.cell? ⟨bx, 3, none⟩ = some (.int .i64 o.who) ∧ W.cell? ⟨bx, 4, none⟩ = some (.int .i64 o.d) ∧ W.cell? ⟨bx, 5, none⟩ = some (.int .i64 o.v) := by
  refine ⟨?_, ?_, ?_, ?_, ?_, ?_⟩ <;> rw [cell_of_row _ _ _ _ _ _ h] <;> rfl

set_option maxRecDepth 100000 in
theorem plays_long (a : Option Addr) (len : Nat) (cap : Nat) (w : World) (hl : 150 < len) :
    Calls Try.prog 6 #[.slice a len cap] w fun e w' => e = .returned (.bool true) ∧ Below w.heap.size w w' := by
  go_enter Try.func6, Try.ntmps6
  go_wp2_with (go_at_call 9; refine (head_any _).mono ?_; rintro e w1 ⟨rfl, hb1⟩; have B1 := Lib.hid hb1; clear hb1)
  refine (new_any _).mono ?_
  rintro e w2 ⟨I, rfl, hs, hb, hI⟩
  have B2 := Lib.hid hb
  clear hs hb hI
  go_wp2_with fail
  go_ret
  exact ⟨rfl, (B1.out.trans (B2.out.mono B1.out.size)).alloc (Nat.le_trans B1.out.size B2.out.size) _⟩

set_option maxRecDepth 100000 in
set_option maxHeartbeats 6400000 in
theorem plays_law (a : Option Addr) (ops : List Op6) (cap : Nat) (w : World) (ha : OpsAt w a ops) (hl : ops.length ≤ 150) :
    Calls Try.prog 6 #[.slice a ops.length cap] w fun e w' => e = .returned (.bool true) ∧ Below w.heap.size w w' := by
  obtain ⟨len, hlen⟩ : ∃ len, len = ops.length := ⟨_, rfl⟩
  rw [← hlen] at hl ⊢
  have HA := Lib.hid ha
  have HL := Lib.hid hlen
  clear ha hlen
  go_enter Try.func6, Try.ntmps6
  go_wp2_with (go_at_call 9; refine (head_any _).mono ?_; rintro e w1 ⟨rfl, hb1⟩; have B1 := Lib.hid hb1; clear hb1)
  refine (new_any _).mono ?_
  rintro e w2 ⟨I, rfl, hs, hb, hI⟩
  have HP : Hid (PlRel w I w2.heap.size st0 ⟨.slice none 0 0, .slice none 0 0, .slice none 0 0, .slice none 0 0⟩ (w2.alloc (.cells #[.int .i64 0, .int .i64 0, .slice none 0 0, .slice none 0 0, .slice none 0 0, .slice none 0 0] 50))) := by
    have h0 : Below w.heap.size w w2 := B1.out.trans (hb.mono B1.out.size)
    have hpl : proofsL st0 = [] := by simp [proofsL, sortK, st0]
    refine ⟨inv0, hs.alloc _, ⟨Nat.le_refl _, heap_alloc_new _ _, World.ownsRow_nil _ _ _ _, World.ownsRow_nil _ _ _ _, by rw [hpl]; exact World.ownsRow_nil _ _ _ _, World.ownsRow_nil _ _ _ _, fun g hg => by cases hg⟩, h0.alloc h0.size _, h0.size, fun k hk => ⟨Nat.le_trans B1.out.size (hI k hk), hs.ids_lt k hk⟩⟩
  clear hs hb hI
  obtain ⟨d, hd⟩ : ∃ d, d = w2.heap.size := ⟨_, rfl⟩
  rw [← hd] at HP
  have HD := Lib.hid hd
  clear hd B1
  go_wp2_with fail
  rw [← HD.out]
  go_loopw [6] (fun i wr => ∃ k : Nat, k ≤ len ∧ i = .int .i64 k ∧ ∃ s v, Hid (PlRel w I d s v wr)) (fun i _ => len - (intOf i).toNat)
  case atStart => exact ⟨0, by omega, rfl, st0, _, HP⟩
  case round =>
    clear HP
    obtain ⟨k, hk, rfl, s0, v0, HP⟩ := hrel
    by_cases hlt : k < len
    · have hok : ops[k]? = some (ops[k]'(by rw [← HL.out]; exact hlt)) := List.getElem?_eq_getElem _
      obtain ⟨o, ho⟩ : ∃ o, o = ops[k]'(by rw [← HL.out]; exact hlt) := ⟨_, rfl⟩
      rw [← ho] at hok
      obtain ⟨hn, b, off, rfl, hbl, c0, c1, c2, c3, c4, c5⟩ := HA.out k o hok
      have ht : ∀ j, wr.cell? ⟨b, j, none⟩ = w.cell? ⟨b, j, none⟩ := fun j => HP.out.below.cell hbl
      rw [← ht] at c0 c1 c2 c3 c4 c5
      have HN := Lib.hid hn
      clear ht hok ho hn
      go_upto_region 10 with fail
      obtain ⟨W0, hW0⟩ : ∃ W, W = wr.alloc (.cells #[.int .i64 o.what, .int .i64 o.n, .int .i64 o.kind, .int .i64 o.who, .int .i64 o.d, .int .i64 o.v] 28) := ⟨_, rfl⟩
      obtain ⟨bx, hbx⟩ : ∃ z, z = wr.heap.size := ⟨_, rfl⟩
      rw [← hW0, ← hbx]
      have HX0 : Hid (Boxed W0 bx o) := by show Boxed W0 bx o; rw [hW0, hbx]; exact heap_alloc_new _ _
      have HP0 : Hid (PlRel w I d s0 v0 W0) := by show PlRel w I d s0 v0 W0; rw [hW0]; exact HP.out.keep ((Below.refl _ _).alloc (Nat.le_refl _) _)
      have HBD : Hid (d < bx) := by show d < bx; rw [hbx]; exact HP.out.doc.lt
      clear hW0 hbx HP c0 c1 c2 c3 c4 c5
      obtain ⟨bb, hbb⟩ : ∃ x, x = doesB s0 (msk o.what) o.n o.kind o.who o.d o.v := ⟨_, rfl⟩
      obtain ⟨s1, hs1⟩ : ∃ x, x = doesS s0 (msk o.what) o.n o.kind o.who o.d o.v := ⟨_, rfl⟩
      have HV1 : Hid (Inv s1) := by show Inv s1; rw [hs1]; exact inv_does HP0.out.inv _ _ _ _ _ _
      have HD1 := Lib.hid (does_any I s0 o.what o.n o.kind o.who o.d o.v W0 HP0.out.slots HP0.out.inv HN.out)
      have HD2 : Hid (∀ W, DocAt W d d v0 s0 → Calls Try.prog 21 #[.pointer (some ⟨d, 0, none⟩), .agg #[.int .i64 o.what, .int .i64 o.n, .int .i64 o.kind, .int .i64 o.who, .int .i64 o.d, .int .i64 o.v]] W (DocL W d d bb s1)) := fun W hW => by
        rw [hbb, hs1]
        exact twin_any d d v0 s0 o.what o.n o.kind o.who o.d o.v W hW HP0.out.inv (inv_long HP0.out.inv)
      rw [← hbb, ← hs1] at HD1
      clear hbb hs1
      obtain ⟨x0, x1, x2, x3, x4, x5⟩ := HX0.out.cells
      go_upto_region 11 with (go_at_call 11; refine HD1.out.mono ?_; rintro e w3 ⟨rfl, hs3, hw3⟩; have HLF : Hid (Left W0 I bb s1 (.returned (.bool bb)) w3) := ⟨rfl, hs3, hw3⟩; clear hs3 hw3)
      have HX3 : Hid (Boxed w3 bx o) := HLF.out.2.2.heap HX0.out fun hm => by
        have h1 := (HP0.out.ids _ hm).2
        have h2 := HBD.out
        omega
      have HD3 := Lib.hid (HP0.out.doc.other HLF.out.2.2 fun k hk => (HP0.out.ids k hk).2)
      clear x0 x1 x2 x3 x4 x5 HD1
      obtain ⟨x0, x1, x2, x3, x4, x5⟩ := HX3.out.cells
      go_upto_region 12 with (go_at_call 21; refine (HD2.out _ HD3.out).mono ?_; rintro e w4 ⟨rfl, hd4, hb4⟩; have HLD : Hid (DocL w3 d d bb s1 (.returned (.bool bb)) w4) := ⟨rfl, hd4, hb4⟩; clear hd4 hb4)
      obtain ⟨v1, hp4⟩ := HP0.out.does HV1.out HLF.out HLD.out
      have HP4 := Lib.hid hp4
      have HX4 : Hid (Boxed w4 bx o) := HLD.out.2.2.op _ _ HX3.out
      clear x0 x1 x2 x3 x4 x5 hp4 HD2 HD3 HX3 HLF HLD HV1 HX0 HP0
      obtain ⟨q0, q1, _, _, _, _⟩ := HP4.out.doc.cells
      have ld := HP4.out.doc.lt
      have HLOW : Hid (∀ n', Calls Try.prog 17 #[.pointer (some ⟨I.b, 0, none⟩)] (w4.drewN n') fun e w' => e = .returned (.int .i64 s1.low) ∧ w' = w4.drewN n') := fun n' =>
        (low_any I.b s1.low (w4.drewN n') (HP4.out.slots.below ⟨rfl, rfl, rfl, by simp, fun _ _ => rfl⟩).c0).mono fun _ _ h => (⟨h.1, h.2.symm⟩ : _ ∧ _)
      have HVIEW : Hid (∀ n', Calls Try.prog 15 #[.pointer (some ⟨I.b, 0, none⟩)] (w4.drewN n') fun e w' => e = .returned (.int .i64 s1.view) ∧ w' = w4.drewN n') := fun n' =>
        (view_any I.b s1.view (w4.drewN n') (HP4.out.slots.below ⟨rfl, rfl, rfl, by simp, fun _ _ => rfl⟩).c1).mono fun _ _ h => (⟨h.1, h.2.symm⟩ : _ ∧ _)
      go_quiet ((first | (go_at_call 17; exact Calls.quiet_of_same (HLOW.out _)) | (go_at_call 15; exact Calls.quiet_of_same (HVIEW.out _))))
      clear q0 q1 ld HLOW HVIEW
      obtain ⟨w5, hw5⟩ : ∃ W, W = w4.drewN nq := ⟨_, rfl⟩
      rw [← hw5]
      have HP5 : Hid (PlRel w I d s1 v1 w5) := by show PlRel w I d s1 v1 w5; rw [hw5]; exact HP4.out.keep ⟨rfl, rfl, rfl, by simp, fun _ _ => rfl⟩
      have HX5 : Hid (Boxed w5 bx o) := by show Boxed w5 bx o; rw [hw5]; exact HX4.out
      clear hw5 HP4 HX4
      go_wp2_with fail
      go_loopw [10] (fun i wx => ∃ j : Nat, j ≤ k + 1 ∧ i = .int .i64 j ∧ Hid (Below w5.heap.size w5 wx)) (fun i _ => k + 1 - (intOf i).toNat)
      case atStart => exact ⟨0, by omega, rfl, Below.refl _ _⟩
      case round =>
        obtain ⟨j, hj, rfl, HW⟩ := hrel
        have HPx := Lib.hid (HP5.out.keep HW.out)
        have HXx : Hid (Boxed wr bx o) := (HW.out.block _ (lt_of_heap HX5.out)).trans HX5.out
        by_cases hjk : j ≤ k
        · obtain ⟨oj, hoj⟩ : ∃ oj, ops[j]? = some oj := ⟨_, List.getElem?_eq_getElem (by rw [← HL.out]; omega)⟩
          obtain ⟨hn, b', off', hb', _, _, d1, d2, _, _, _⟩ := HA.out j oj hoj
          cases hb'
          have ht : ∀ i, wr.cell? ⟨b, i, none⟩ = w.cell? ⟨b, i, none⟩ := fun i => HPx.out.below.cell hbl
          rw [← ht] at d1 d2
          have lb : b < wr.heap.size := Nat.lt_of_lt_of_le hbl HPx.out.below.size
          have lx := lt_of_heap HXx.out
          have x4 := HXx.out.cells.2.2.2.2.1
          have ld := HPx.out.doc.lt
          obtain ⟨aT, cT, hT, hlT⟩ := HPx.out.doc.lT
          obtain ⟨aD, cD, hD, hlD⟩ := HPx.out.doc.lD
          obtain ⟨_, _, q2, _, _, q5⟩ := HPx.out.doc.cells
          rw [hT] at q2
          rw [hD] at q5
          obtain ⟨sh1, sh2, _, _⟩ := inv_short HPx.out.inv
          have HACC := Lib.hid (accepted_any I s1 oj.n wr HPx.out.slots)
          have HDEC := Lib.hid (decided_any I s1 oj.n wr HPx.out.slots)
          have HFT := Lib.hid ((find_any aT cT s1.acc oj.n wr hlT (by omega)).mono fun _ _ h => (⟨h.1, h.2.symm⟩ : _ ∧ _))
          have HFD := Lib.hid ((find_any aD cD s1.dec oj.n wr hlD (by omega)).mono fun _ _ h => (⟨h.1, h.2.symm⟩ : _ ∧ _))
          obtain ⟨i1, hi1⟩ : ∃ x, x = (aget s1.acc oj.n).getD 0 := ⟨_, rfl⟩
          obtain ⟨b1, hb1⟩ : ∃ x, x = (aget s1.acc oj.n).isSome := ⟨_, rfl⟩
          obtain ⟨i2, hi2⟩ : ∃ x, x = (aget s1.dec oj.n).getD 0 := ⟨_, rfl⟩
          obtain ⟨b2, hb2⟩ : ∃ x, x = (aget s1.dec oj.n).isSome := ⟨_, rfl⟩
          obtain ⟨mT, hmT⟩ : ∃ x, x = s1.acc.length := ⟨_, rfl⟩
          obtain ⟨mD, hmD⟩ : ∃ x, x = s1.dec.length := ⟨_, rfl⟩
          rw [← hi1, ← hb1] at HACC HFT
          rw [← hi2, ← hb2] at HDEC HFD
          rw [← hmT] at q2 HFT
          rw [← hmD] at q5 HFD
          have HWHO : Hid (∀ W, Below wr.heap.size wr W → Calls Try.prog 12 #[.pointer (some ⟨I.b, 0, none⟩), .int .i64 oj.kind, .int .i64 oj.n, .int .i64 o.d] W (DwhoL W s1 oj.kind oj.n o.d)) := fun W hW =>
            (who_any I s1 oj.kind oj.n o.d W (HPx.out.slots.below hW)).mono fun _ _ h => who_lies h
          have HDWHO : Hid (∀ W, Below wr.heap.size wr W → Calls Try.prog 24 #[.pointer (some ⟨d, 0, none⟩), .int .i64 oj.kind, .int .i64 oj.n, .int .i64 o.d] W (DwhoL W s1 oj.kind oj.n o.d)) := fun W hW =>
            dwho_any d d v1 s1 oj.kind oj.n o.d W (HPx.out.doc.below hW) HPx.out.inv (inv_long HPx.out.inv).2.2.1
          have hwl : (whoL s1 oj.kind oj.n o.d).length ≤ 10 := by
            unfold whoL
            exact Nat.le_trans (List.length_filter_le _ _) (by simp [nums])
          unfold DwhoL at HWHO HDWHO
          obtain ⟨L, hL⟩ : ∃ L, L = whoL s1 oj.kind oj.n o.d := ⟨_, rfl⟩
          rw [← hL] at HWHO HDWHO hwl
          have HSAME : Hid (∀ ra ca rb cb W, LiesAt W ra 1 (fun z : Int => [.int .i64 z]) L → LiesAt W rb 1 (fun z : Int => [.int .i64 z]) L → Calls Try.prog 23 #[.slice ra L.length ca, .slice rb L.length cb] W fun e w' => e = .returned (.bool true) ∧ Below W.heap.size W w') := fun ra ca rb cb W h1 h2 =>
            sameints_any ra rb ca cb L.length L W rfl h1 h2 (by omega)
          obtain ⟨mL, hmL⟩ : ∃ x, x = L.length := ⟨_, rfl⟩
          rw [← hmL] at HWHO HDWHO HSAME
          have HKS : Hid (∀ W, Below wr.heap.size wr W → Below wr.heap.size wr W ∧ W.cell? ⟨b, off + j * 6 + 2, none⟩ = some (.int .i64 oj.kind) ∧ W.cell? ⟨bx, 4, none⟩ = some (.int .i64 o.d)) := fun W hW =>
            ⟨hW, (hW.cell (p := ⟨b, off + j * 6 + 2, none⟩) lb).trans d2, (hW.cell (p := ⟨bx, 4, none⟩) lx).trans x4⟩
          have hj0 : (0 : Int) ≤ (j : Int) := by omega
          have hj1 : (j : Int) < (len : Int) := by omega
          clear ht hoj hn hT hD hlT hlD hi1 hi2 hb1 hb2 hmT hmD hL hmL sh1 sh2 hwl
          go_upto_region 20 with (first | (go_at_call 13; refine HACC.out.mono ?_; rintro e w' ⟨rfl, rfl⟩) | (go_at_call 22; refine HFT.out.mono ?_; rintro e w' ⟨rfl, rfl⟩))
          go_upto_region 22 with (first | (go_at_call 14; refine HDEC.out.mono ?_; rintro e w' ⟨rfl, rfl⟩) | (go_at_call 22; refine HFD.out.mono ?_; rintro e w' ⟨rfl, rfl⟩))
          clear HACC HDEC HFT HFD d1 d2 x4 q2 q5
          go_region_held3 (fun W => Below wr.heap.size wr W ∧ W.cell? ⟨b, off + j * 6 + 2, none⟩ = some (.int .i64 oj.kind) ∧ W.cell? ⟨bx, 4, none⟩ = some (.int .i64 o.d)) (first | exact HKS.out _ (drw _) | exact HKS.out _ (thn (drw _) HBA.out) | exact HKS.out _ (thn (drw _) HBB.out) | exact HKS.out _ (thn (thn (drw _) HBA.out) HBB.out) | exact HKS.out _ (thn (thn (drw _) HBB.out) HBA.out) | exact HKS.out _ (thn (thn (thn (drw _) HBA.out) HBB.out) HBC.out) | exact HKS.out _ (thn (thn (thn (drw _) HBB.out) HBA.out) HBC.out)) ((first | (go_at_call 12; (first | refine (HWHO.out _ (drw _)).mono ?_ | refine (HWHO.out _ (thn (drw _) HBB.out)).mono ?_); rintro e wa ⟨ra, ca, rfl, hla, hba⟩; have HLA := Lib.hid hla; have HBA := Lib.hid hba; clear hla hba) | (go_at_call 24; (first | refine (HDWHO.out _ (drw _)).mono ?_ | refine (HDWHO.out _ (thn (drw _) HBA.out)).mono ?_); rintro e wb ⟨rb, cb, rfl, hlb, hbb⟩; have HLB := Lib.hid hlb; have HBB := Lib.hid hbb; clear hlb hbb) | (go_at_call 23; (first | refine (HSAME.out _ _ _ _ _ (HLA.out.below HBB.out) HLB.out).mono ?_ | refine (HSAME.out _ _ _ _ _ HLA.out (HLB.out.below HBA.out)).mono ?_); rintro e wc ⟨rfl, hbc⟩; have HBC := Lib.hid hbc; clear hbc)))
          all_goals
            go_wp2_with fail
            exact ⟨⟨j + 1, by omega, by simp, by first | exact thn HW.out (thn (thn (thn (drw _) HBA.out) HBB.out) HBC.out) | exact thn HW.out (thn (thn (thn (drw _) HBB.out) HBA.out) HBC.out)⟩, by simp [intOf]; omega⟩
        · have hjk' : (k : Int) < (j : Int) := by omega
          have ld := HPx.out.doc.lt
          obtain ⟨aP, cP, hvP, _⟩ := HPx.out.doc.lP
          have q4 := HPx.out.doc.cells.2.2.2.2.1
          have hrow := HPx.out.doc.P
          rw [hvP] at q4 hrow
          have HPRF : Hid (∀ W, Below wr.heap.size wr W → Calls Try.prog 18 #[.pointer (some ⟨I.b, 0, none⟩)] W (PrfLeft W s1)) := fun W hW => proofs_inv I s1 W (HPx.out.slots.below hW) HPx.out.inv
          have hpl := (inv_short HPx.out.inv).2.2.2
          have HSM : Hid (∀ W base va, W.ownsRow base 44 6 va (proofsL s1).length ((proofsL s1).flatMap prepL) → Below wr.heap.size wr W → Calls Try.prog 20 #[va, .slice aP (proofsL s1).length cP] W fun e w' => e = .returned (.bool true) ∧ Below W.heap.size W w') := fun W base va hva hW =>
            same_any W (proofsL s1) base d va _ hva (row_below hrow hW) (by omega)
          unfold PrfLeft at HPRF
          obtain ⟨L, hL⟩ : ∃ L, L = proofsL s1 := ⟨_, rfl⟩
          rw [← hL] at HPRF HSM q4
          obtain ⟨m, hm⟩ : ∃ m, m = L.length := ⟨_, rfl⟩
          rw [← hm] at HPRF HSM q4
          have HKS : Hid (∀ W, Below wr.heap.size wr W → Below wr.heap.size wr W ∧ W.cell? ⟨d, 4, none⟩ = some (.slice aP m cP)) := fun W hW =>
            ⟨hW, (hW.cell (p := ⟨d, 4, none⟩) ld).trans q4⟩
          clear hrow hvP hpl hL hm
          go_upto_region 24 with fail
          clear q4
          go_region_held3 (fun W => Below wr.heap.size wr W ∧ W.cell? ⟨d, 4, none⟩ = some (.slice aP m cP)) (first | exact HKS.out _ (drw _) | exact HKS.out _ (thn (drw _) HBA.out) | exact HKS.out _ (thn (thn (drw _) HBA.out) HBB.out)) ((first | (go_at_call 18; refine (HPRF.out _ (drw _)).mono ?_; rintro e wa ⟨pv, rfl, hra, hba⟩; have HRA := Lib.hid hra; have HBA := Lib.hid hba; obtain ⟨pa, pc, rfl, _⟩ := row_form hra; clear hra hba) | (go_at_call 20; refine (HSM.out _ _ _ HRA.out (thn (drw _) HBA.out)).mono ?_; rintro e wb ⟨rfl, hbb⟩; have HBB := Lib.hid hbb; clear hbb)))
          go_wp2_with fail
          exact ⟨⟨k + 1, by omega, by simp, s1, v1, HPx.out.keep (thn (thn (drw _) HBA.out) HBB.out)⟩, by simp [intOf]; omega⟩
    · go_wp2_with fail
      go_ret
      exact ⟨rfl, HP.out.below⟩
end Go.Proofs.Ytelmgaaofighpaa
