/- Locks: LocksPlays. -/
import Derived.Test.YtfojgghnkjmjhaaDoorLkSt2
import Derived.Test.YtfojgghnkjmjhaaDoorGenl
import Derived.Deep.RegionWith
import Derived.Deep.RegionHeld3
import Derived.Deep.DeepCutAuto
import Derived.Deep.CutBlock
import Derived.Outline
namespace Go.Proofs.YtfojgghnkjmjhaaDoor.Locks
open Go.RowKit Go.My

theorem bl_trans {A B C : World} (h : Below A.heap.size A B) (k : Below B.heap.size B C) : Below A.heap.size A C := h.trans (k.mono h.size)
theorem bl_alloc (B : World) (o : Obj) : Below B.heap.size B (B.alloc o) := (Below.refl _ B).alloc (Nat.le_refl _) o
theorem bl_drew (B : World) : Below B.heap.size B B.drew := ⟨rfl, rfl, rfl, Nat.le_refl _, fun _ _ => rfl⟩
theorem firstBad_pos {L : LMap} {who : Int} : ∀ (keys : List ByteArray) (n : Nat) {p : Int × Int}, firstBad L who keys n = some p → p.1 ≠ 0
  | [], _, _, h => by cases h
  | x :: r, n, p, h => by
    unfold firstBad at h
    split at h
    · rename_i e hb
      cases h
      unfold badK at hb
      split at hb
      · cases hb; show (1 : Int) ≠ 0; decide
      · split at hb
        · split at hb
          · cases hb
          · cases hb; show (81 : Int) ≠ 0; decide
        · cases hb
    · exact firstBad_pos r (n + 1) h
theorem lockE_pos {L : LMap} {who : Int} {keys : List ByteArray} {n a : Int} (h : lockE L who keys = some (n, a)) : n ≠ 0 := by
  unfold lockE at h
  split at h
  · cases h; decide
  · split at h
    · rename_i p hp
      cases h
      exact firstBad_pos keys 0 hp
    · split at h
      · cases h; decide
      · cases h
set_option maxRecDepth 100000 in
set_option maxHeartbeats 64000000 in
theorem plays_5 (a : Option Addr) (cap : Nat) (l : List LOp) (w : World) (hg : TypeIs w) (ho : OpsAt w a l) (hm : l.length ≤ maxLen) :
    Calls Tryd.prog 3 #[.slice a l.length cap] w fun e w' => e = .returned (.bool true) ∧ Below w.heap.size w w' := by
  have HH := Lib.hid (head_any w)
  have HG := Lib.hid hg
  have HO := Lib.hid ho
  have HGR : Hid (∀ W, Below w.heap.size w W → Calls Tryd.prog 6 #[.slice a l.length cap] W (GreatLeft W l)) := fun W hW => great_any a l cap W w ho hW hm
  obtain ⟨n, hn⟩ : ∃ n, n = l.length := ⟨_, rfl⟩
  have HN := Lib.hid hn
  rw [← hn] at HGR hm ⊢
  unfold maxLen at hm
  clear ho hn hg
  go_enter Tryd.func3, Tryd.ntmps3
  go_wp2_with fail
  refine HH.out.mono ?_
  rintro e w1 ⟨rfl, hb⟩
  have HB1 := Lib.hid hb
  clear hb
  go_wp2_with fail
  refine (new_any _).mono ?_
  intro e w2 he
  obtain ⟨b, m, rfl, hst⟩ := st_new HB1.out he
  obtain ⟨w3, hw3⟩ : ∃ w3, w3 = w2.alloc (.cells #[.slice none 0 0] 29) := ⟨_, rfl⟩
  have P0 : Hid (LkSt w b m [] w3 ∧ (∃ v, DkAt w3 w2.heap.size w2.heap.size v []) ∧ w.heap.size ≤ w2.heap.size ∧ w2.heap.size ≤ w3.heap.size) := by
    have hb1 : Below w2.heap.size w2 w3 := by rw [hw3]; exact (Below.refl _ _).alloc (Nat.le_refl _) _
    exact ⟨hst.keep hb1, ⟨.slice none 0 0, by rw [hw3]; exact heap_alloc_new w2 _, World.ownsRow_nil _ _ _ _, Nat.le_refl _⟩, hst.below.size, hb1.size⟩
  obtain ⟨d, hd⟩ : ∃ d, d = w2.heap.size := ⟨_, rfl⟩
  clear he hst
  go_upto_region 4 with fail
  rw [← hw3, ← hd]
  rw [← hd] at P0
  clear hw3 hd
  go_wp2_with fail
  refine (HGR.out _ P0.out.1.below).mono ?_
  rintro e w3' ⟨gr, rfl, hgr, rfl⟩
  cases gr with
  | true =>
    clear hgr
    go_wp2_with fail
    go_ret
    exact ⟨rfl, P0.out.1.below⟩
  | false =>
    obtain ⟨hl, hsz⟩ := hgr rfl
    have HSZ := Lib.hid hsz
    rw [← HN.out] at hl
    have P1 : Hid (∃ M L, Doc M L ∧ LkSt w b m L w3 ∧ (∃ v, DkAt w3 d d v M) ∧ d ≤ w3.heap.size) := ⟨[], [], doc_nil, P0.out.1, P0.out.2.1, P0.out.2.2.2⟩
    have HWD : Hid (w.heap.size ≤ d) := P0.out.2.2.1
    clear hgr hsz P0
    go_wp2_with fail
    go_loopw [6] (fun i wr => ∃ j : Nat, j ≤ n ∧ i = .int .i64 j ∧ Hid (∃ M L, Doc M L ∧ LkSt w b m L wr ∧ (∃ v, DkAt wr d d v M) ∧ d ≤ wr.heap.size)) (fun i _ => n - (intOf i).toNat)
    case atStart => exact ⟨0, by omega, rfl, P1⟩
    case round => as_aux_lemma =>
      clear P1
      obtain ⟨j, hj, rfl, M, L, hD, hlk, hdk, hdz⟩ := hrel
      have HD := Lib.hid hD
      have HLK := Lib.hid hlk
      have HDK := Lib.hid hdk
      have HDZ := Lib.hid hdz
      clear hD hlk hdk hdz
      by_cases hlt : j < n
      · obtain ⟨x, hx⟩ : ∃ x, l[j]? = some x := ⟨_, List.getElem?_eq_getElem (by rw [← HN.out]; exact hlt)⟩
        obtain ⟨g, o, ka, kc, rfl, hc, hks, _⟩ := HO.out.get hx
        have HKS := Lib.hid hks
        have HKL : Hid (x.keys.length ≤ 5000) := by have := HSZ.out x (List.mem_of_getElem? hx); show _ ≤ _; omega
        obtain ⟨d0, d1, d2⟩ := hc _ HLK.out.below
        have hj0 : (0 : Int) ≤ (j : Int) := by omega
        have hj1 : (j : Int) < (n : Int) := by omega
        have PIN : Hid (PlIn w b m d d wr.heap.size x ka kc M L (wr.alloc (opO x ka kc))) := by
          have hb1 : Below wr.heap.size wr (wr.alloc (opO x ka kc)) := (Below.refl _ _).alloc (Nat.le_refl _) _
          obtain ⟨v, hd⟩ := HDK.out
          exact ⟨HLK.out.keep hb1, ⟨v, hd.below hb1⟩, heap_alloc_new wr _, HWD.out, Nat.le_trans HDZ.out hb1.size⟩
        clear hx hc hks
        obtain ⟨W0, hW0⟩ : ∃ z, z = wr.alloc (opO x ka kc) := ⟨_, rfl⟩
        obtain ⟨xb, hxb⟩ : ∃ z, z = wr.heap.size := ⟨_, rfl⟩
        rw [← hW0, ← hxb] at PIN
        go_upto_region 10 with fail
        rw [show wr.alloc (.cells #[.int .i64 x.what, .int .i64 x.who, .slice ka x.keys.length kc] 33) = W0 from hW0.symm, ← hxb]
        clear hW0 hxb d0 d1 d2
        obtain ⟨c0, c1, c2, cl⟩ := pin_c PIN.out
        go_upto_block 2 with fail
        go_cut [46] (fun _ wx => ∃ M L, Doc M L ∧ PlIn w b m d d xb x ka kc M L wx)
        case first => as_aux_lemma =>
          cases t0 : (bits BinOp.and IntKind.i64 x.what 3 == 0) with
          | true =>
            cases hE : lockE L x.who x.keys with
            | none => as_aux_lemma =>
              have HPL := Lib.hid (pin_lock PIN.out HKS.out HKL.out)
              have HPR : Hid (∀ W, PlIn w b m d d xb x ka kc M (lockL L x.who x.keys) W → Calls Tryd.prog 8 #[.pointer (some ⟨d, 0, none⟩), .int .i64 x.who, .slice ka x.keys.length kc] W fun e W' => e = .returned (.tuple #[.int .i64 0, .agg #[.string ⟨#[]⟩, .int .i64 0]]) ∧ PlIn w b m d d xb x ka kc (lockM M L x.who x.keys) (lockL L x.who x.keys) W') := fun W hW => by
                have := pin_rlock hW HKS.out HKL.out HD.out HLK.out.fine
                rw [hE] at this
                exact this
              rw [hE] at HPL
              simp only [errV] at HPL
              have HDN := Lib.hid (doc_lock HD.out HLK.out.fine x.who x.keys)
              clear hE
              go_wp2_with fail
              refine HPL.out.mono ?_
              rintro e w4 ⟨rfl, hp⟩
              have PIN4 := Lib.hid hp
              clear hp HPL c0 c1 c2 cl
              obtain ⟨c0, c1, c2, cl⟩ := pin_c PIN4.out
              go_wp2_with fail
              refine (HPR.out _ PIN4.out).mono ?_
              rintro e w5 ⟨rfl, hp⟩
              have PIN5 := Lib.hid hp
              clear hp c0 c1 c2 cl
              go_upto_region 15 with fail
              obtain ⟨w6, hw6⟩ : ∃ z, z = w5.alloc (.cells #[.string ⟨#[]⟩, .int .i64 0] 39) := ⟨_, rfl⟩
              have PIN6 : Hid (PlIn w b m d d xb x ka kc (lockM M L x.who x.keys) (lockL L x.who x.keys) w6) := PIN5.out.keep (by rw [hw6]; exact (Below.refl _ _).alloc (Nat.le_refl _) _)
              rw [← hw6]
              clear hw6
              have here := Later.here w6
              refine wp_region_later (by kernel_rfl) (by kernel_rfl) ?_
              iterate 28 (with_reducible refine wpQuiet_step (fun K hK => ?_); go_simp; first | (refine hK _ ?_; clear hK K) | (rw [if_neg (by decide)]; refine hK _ ?_; clear hK K))
              with_reducible refine wpQuiet_nil ?_
              intro X
              go_wp2_with fail
              go_meet
              exact ⟨_, _, HDN.out, PIN6.out.keep X.2⟩
            | some p => as_aux_lemma =>
              obtain ⟨en, ea⟩ := p
              have hen := lockE_pos hE
              have HPL := Lib.hid (pin_lock PIN.out HKS.out HKL.out)
              have HPR : Hid (∀ W, PlIn w b m d d xb x ka kc M (lockL L x.who x.keys) W → Calls Tryd.prog 8 #[.pointer (some ⟨d, 0, none⟩), .int .i64 x.who, .slice ka x.keys.length kc] W fun e W' => e = .returned (.tuple #[.int .i64 en, .agg #[.string lockW, .int .i64 ea]]) ∧ PlIn w b m d d xb x ka kc (lockM M L x.who x.keys) (lockL L x.who x.keys) W') := fun W hW => by
                have := pin_rlock hW HKS.out HKL.out HD.out HLK.out.fine
                rw [hE] at this
                exact this
              rw [hE] at HPL
              simp only [errV, wrap_err] at HPL
              have HDN := Lib.hid (doc_lock HD.out HLK.out.fine x.who x.keys)
              have HCD : Hid (∀ W, Below w.heap.size w W → Calls Tryd.prog 9 #[errOf en [(lockW, ea)]] W fun e w' => e = .returned (.int .i64 en) ∧ Below W.heap.size W w') := fun W hW => code_of en _ W (HG.out.below HG.out.lt hW)
              have HTR : Hid (∀ W, Below w.heap.size w W → Calls Tryd.prog 11 #[errOf en [(lockW, ea)]] W fun e w' => ∃ ra rc, e = .returned (.slice ra 1 rc) ∧ Lies w' ra 2 stepL [(lockW, ea)] ∧ Below W.heap.size W w') := fun W hW => trail1 en _ W (HG.out.below HG.out.lt hW)
              obtain ⟨T, ev, hEV⟩ := errOf_form en [(lockW, ea)]
              rw [hEV] at HPL HCD HTR
              have hen0 : (en == 0) = false := by simpa using hen
              have hen1 : (en != 0) = true := by simpa using hen
              have hen2 : (en != en) = false := by simp
              obtain ⟨lw, hlw⟩ : ∃ z, z = lockW := ⟨_, rfl⟩
              rw [← hlw] at HPR HTR
              have HSM : Hid (∀ (ra rb : Option Addr) (rc : Nat) (W : World), Lies W ra 2 stepL [(lw, ea)] → Lies W rb 2 stepL [(lw, ea)] → Calls Tryd.prog 10 #[.slice ra 1 rc, .slice rb 1 1] W fun e w' => e = .returned (.bool true) ∧ Below W.heap.size W w') := fun ra rb rc W h1 h2 => same_st ra rb 1 rc 1 [(lw, ea)] W h1 h2 rfl (by decide)
              clear hE hEV hen hlw
              go_wp2_with fail
              refine HPL.out.mono ?_
              rintro e w4 ⟨rfl, hp⟩
              have PIN4 := Lib.hid hp
              clear hp HPL c0 c1 c2 cl
              obtain ⟨c0, c1, c2, cl⟩ := pin_c PIN4.out
              go_wp2_with fail
              refine (HPR.out _ PIN4.out).mono ?_
              rintro e w5 ⟨rfl, hp⟩
              have PIN5 := Lib.hid hp
              clear hp c0 c1 c2 cl
              go_upto_region 15 with fail
              obtain ⟨w6, hw6⟩ : ∃ z, z = w5.alloc (.cells #[.string lw, .int .i64 ea] 39) := ⟨_, rfl⟩
              obtain ⟨sb, hsb⟩ : ∃ z, z = w5.heap.size := ⟨_, rfl⟩
              have PIN6 : Hid (PlIn w b m d d xb x ka kc (lockM M L x.who x.keys) (lockL L x.who x.keys) w6) := PIN5.out.keep (by rw [hw6]; exact (Below.refl _ _).alloc (Nat.le_refl _) _)
              have hsb6 : w6.heap[sb]? = some (.cells #[.string lw, .int .i64 ea] 39 (0, 0)) := by rw [hw6, hsb]; exact heap_alloc_new w5 _
              have HSB : Hid (∀ W, Below w6.heap.size w6 W → W.cell? ⟨sb, 0, none⟩ = some (.string lw) ∧ W.cell? ⟨sb, 1, none⟩ = some (.int .i64 ea)) := fun W hW => by
                have h := (hW.block _ (lt_of_heap hsb6)).trans hsb6
                exact ⟨by rw [cell_of_row _ _ _ _ _ _ h]; rfl, by rw [cell_of_row _ _ _ _ _ _ h]; rfl⟩
              rw [← hw6, ← hsb]
              clear hw6 hsb hsb6
              have HDD := Lib.hid (bl_drew w6)
              have HW0 : Hid (Below w.heap.size w w6.drew) := (PIN6.out.keep HDD.out).lk.below
              have k9 := HSB.out _ HDD.out
              have HSL : Hid (∀ W : World, Lies (W.alloc (.cells #[.string lw, .int .i64 ea] 39)) (some ⟨W.heap.size, 0, none⟩) 2 stepL [(lw, ea)]) := fun W => step_lies (heap_alloc_new W _)
              refine wp_region_any (by kernel_rfl) ?_
              change wpAny _ _ _ _ _ _ _ (World.drew _)
              refine wpAny_take (i := 0) (v := ?_) rfl (by kernel_rfl) (by kernel_rfl) (by kernel_rfl) (fun _ _ _ h => h) (Or.inl ⟨by rfl, ?_⟩) ?_
              rotate_left
              focus (intro w; go_simp; try with_reducible rfl)
              try simp only [List.getElem_toArray, List.getElem_cons_zero, Act.put, List.setIfInBounds_toArray, List.set_cons_zero, List.set_cons_succ]
              refine wpAny_take (i := 1) (v := ?_) rfl (by kernel_rfl) (by kernel_rfl) (by kernel_rfl) (fun _ _ _ h => h) (Or.inl ⟨by rfl, ?_⟩) ?_
              rotate_left
              focus (intro w; go_simp; try with_reducible rfl)
              try simp only [List.getElem_toArray, List.getElem_cons_succ, List.getElem_cons_zero, Act.put, List.setIfInBounds_toArray, List.set_cons_zero, List.set_cons_succ]
              refine wpAny_take (i := 2) (v := ?_) rfl (by kernel_rfl) (by kernel_rfl) (by kernel_rfl) (fun _ _ _ h => h) (Or.inl ⟨by rfl, ?_⟩) ?_
              rotate_left
              focus (intro w; go_simp; try with_reducible rfl)
              try simp only [List.getElem_toArray, List.getElem_cons_succ, List.getElem_cons_zero, Act.put, List.setIfInBounds_toArray, List.set_cons_zero, List.set_cons_succ]
              refine wpAny_take (i := 3) (v := undef) rfl (by kernel_rfl) (by kernel_rfl) (by kernel_rfl) (fun _ _ _ h => h) (Or.inr ⟨by rfl, rfl⟩) ?_
              try simp only [List.getElem_toArray, List.getElem_cons_succ, List.getElem_cons_zero, Act.put, List.setIfInBounds_toArray, List.set_cons_zero, List.set_cons_succ]
              refine wpAny_take (i := 4) (v := undef) rfl (by kernel_rfl) (by kernel_rfl) (by kernel_rfl) (fun _ _ _ h => h) (Or.inr ⟨by rfl, rfl⟩) ?_
              try simp only [List.getElem_toArray, List.getElem_cons_succ, List.getElem_cons_zero, Act.put, List.setIfInBounds_toArray, List.set_cons_zero, List.set_cons_succ]
              refine wpAny_take (i := 5) (v := ?_) rfl (by kernel_rfl) (by kernel_rfl) (by kernel_rfl) (fun _ _ _ h => h) (Or.inl ⟨by rfl, ?_⟩) ?_
              rotate_left
              focus (intro w; go_simp; try with_reducible rfl)
              try simp only [List.getElem_toArray, List.getElem_cons_succ, List.getElem_cons_zero, Act.put, List.setIfInBounds_toArray, List.set_cons_zero, List.set_cons_succ]
              refine wpAny_take (i := 6) (v := ?_) rfl (by kernel_rfl) (by kernel_rfl) (by kernel_rfl) (fun _ _ _ h => h) (Or.inl ⟨by rfl, ?_⟩) ?_
              rotate_left
              focus (intro w; go_simp; try with_reducible rfl)
              try simp only [List.getElem_toArray, List.getElem_cons_succ, List.getElem_cons_zero, Act.put, List.setIfInBounds_toArray, List.set_cons_zero, List.set_cons_succ]
              refine wpAny_take (i := 7) (v := ?_) rfl (by kernel_rfl) (by kernel_rfl) (by kernel_rfl) (fun _ _ _ h => h) (Or.inl ⟨by rfl, ?_⟩) ?_
              rotate_left
              focus (intro w; go_simp; try with_reducible rfl)
              try simp only [List.getElem_toArray, List.getElem_cons_succ, List.getElem_cons_zero, Act.put, List.setIfInBounds_toArray, List.set_cons_zero, List.set_cons_succ]
              refine wpAny_take (i := 8) (v := ?_) rfl (by kernel_rfl) (by kernel_rfl) (by kernel_rfl) (fun _ _ _ h => h) (Or.inl ⟨by rfl, ?_⟩) ?_
              rotate_left
              focus (intro w; go_simp; try with_reducible rfl)
              try simp only [List.getElem_toArray, List.getElem_cons_succ, List.getElem_cons_zero, Act.put, List.setIfInBounds_toArray, List.set_cons_zero, List.set_cons_succ]
              refine wpAny_take (i := 9) (v := ?_) rfl (by kernel_rfl) (by kernel_rfl) (by kernel_rfl) (fun _ _ _ h => h) (Or.inl ⟨by rfl, ?_⟩) ?_
              rotate_left
              focus (intro w; go_simp; try with_reducible rfl)
              try simp only [List.getElem_toArray, List.getElem_cons_succ, List.getElem_cons_zero, Act.put, List.setIfInBounds_toArray, List.set_cons_zero, List.set_cons_succ]
              refine wpAny_take (i := 10) (v := ?_) rfl (by kernel_rfl) (by kernel_rfl) (by kernel_rfl) (fun _ _ _ h => h) (Or.inl ⟨by rfl, ?_⟩) ?_
              rotate_left
              focus (intro w; go_simp; try with_reducible rfl)
              try simp only [List.getElem_toArray, List.getElem_cons_succ, List.getElem_cons_zero, Act.put, List.setIfInBounds_toArray, List.set_cons_zero, List.set_cons_succ]
              refine wpAny_take (i := 11) (v := ?_) rfl (by kernel_rfl) (by kernel_rfl) (by kernel_rfl) (fun _ _ _ h => h) (Or.inl ⟨by rfl, ?_⟩) ?_
              rotate_left
              focus (intro w; go_simp; try with_reducible rfl)
              try simp only [List.getElem_toArray, List.getElem_cons_succ, List.getElem_cons_zero, Act.put, List.setIfInBounds_toArray, List.set_cons_zero, List.set_cons_succ]
              refine wpAny_take (i := 12) (v := ?_) rfl (by kernel_rfl) (by kernel_rfl) (by kernel_rfl) (fun _ _ _ h => h) (Or.inl ⟨by rfl, ?_⟩) ?_
              rotate_left
              focus (intro w; go_simp; try with_reducible rfl)
              try simp only [List.getElem_toArray, List.getElem_cons_succ, List.getElem_cons_zero, Act.put, List.setIfInBounds_toArray, List.set_cons_zero, List.set_cons_succ]
              refine wpAny_take (i := 13) (v := ?_) rfl (by kernel_rfl) (by kernel_rfl) (by kernel_rfl) (fun _ _ _ h => h) (Or.inl ⟨by rfl, ?_⟩) ?_
              rotate_left
              focus (intro w; go_simp; try with_reducible rfl)
              try simp only [List.getElem_toArray, List.getElem_cons_succ, List.getElem_cons_zero, Act.put, List.setIfInBounds_toArray, List.set_cons_zero, List.set_cons_succ]
              refine wpAny_take (i := 15) (v := ?_) rfl (by kernel_rfl) (by kernel_rfl) (by kernel_rfl) (fun _ _ _ h => h) (Or.inl ⟨by rfl, ?_⟩) ?_
              rotate_left
              focus (intro w; go_simp; try with_reducible rfl)
              try simp only [List.getElem_toArray, List.getElem_cons_succ, List.getElem_cons_zero, Act.put, List.setIfInBounds_toArray, List.set_cons_zero, List.set_cons_succ]
              refine wpAny_ready (rs := [14]) (by kernel_rfl) (by simp) (AllReady.cons rfl (fun K hK => ?_) AllReady.nil)
              go_simp
              go_wp2_with (go_at_call 9; refine (HCD.out _ HW0.out).mono ?_; rintro e wa ⟨rfl, hba⟩; have HBA := Lib.hid (bl_trans HDD.out hba); have HWA := Lib.hid (HW0.out.trans (hba.mono HW0.out.size)); have k0 := HSB.out wa HBA.out; clear hba)
              first | (refine hK _ _ ?_; clear hK K) | skip
              try simp only [List.getElem_toArray, List.getElem_cons_succ, List.getElem_cons_zero, Act.put, List.setIfInBounds_toArray, List.set_cons_zero, List.set_cons_succ]
              refine wpAny_take (i := 16) (v := ?_) rfl (by kernel_rfl) (by kernel_rfl) (by kernel_rfl) (fun _ _ _ h => h) (Or.inl ⟨by rfl, ?_⟩) ?_
              rotate_left
              focus (intro w; go_simp; try with_reducible rfl)
              try simp only [List.getElem_toArray, List.getElem_cons_succ, List.getElem_cons_zero, Act.put, List.setIfInBounds_toArray, List.set_cons_zero, List.set_cons_succ]
              refine wpAny_take (i := 17) (v := ?_) rfl (by kernel_rfl) (by kernel_rfl) (by kernel_rfl) (fun _ _ _ h => h) (Or.inl ⟨by rfl, ?_⟩) ?_
              rotate_left
              focus (intro w; go_simp; try with_reducible rfl)
              try simp only [List.getElem_toArray, List.getElem_cons_succ, List.getElem_cons_zero, Act.put, List.setIfInBounds_toArray, List.set_cons_zero, List.set_cons_succ]
              refine wpAny_take (i := 18) (v := ?_) rfl (by kernel_rfl) (by kernel_rfl) (by kernel_rfl) (fun _ _ _ h => h) (Or.inl ⟨by rfl, ?_⟩) ?_
              rotate_left
              focus (intro w; go_simp; try with_reducible rfl)
              try simp only [List.getElem_toArray, List.getElem_cons_succ, List.getElem_cons_zero, Act.put, List.setIfInBounds_toArray, List.set_cons_zero, List.set_cons_succ]
              refine wpAny_take (i := 19) (v := ?_) rfl (by kernel_rfl) (by kernel_rfl) (by kernel_rfl) (fun _ _ _ h => h) (Or.inl ⟨by rfl, ?_⟩) ?_
              rotate_left
              focus (intro w; go_simp; try with_reducible rfl)
              try simp only [List.getElem_toArray, List.getElem_cons_succ, List.getElem_cons_zero, Act.put, List.setIfInBounds_toArray, List.set_cons_zero, List.set_cons_succ]
              refine wpAny_ready (rs := [20, 21]) (by kernel_rfl) (by simp) (AllReady.cons rfl (fun K hK => ?_) (AllReady.cons rfl (fun K hK => ?_) AllReady.nil))
              · go_simp
                go_wp2_with (go_at_call 11; refine (HTR.out _ (HWA.out)).mono ?_; rintro e wb ⟨ra, rc, rfl, hli, hbb⟩; have HLT2 := Lib.hid hli; have HBC := Lib.hid hbb; have HBV : Hid (Below w6.heap.size w6 wb) := bl_trans (HBA.out) HBC.out; have k1 := HSB.out wb HBV.out; clear hli hbb)
                first | (refine hK _ _ ?_; clear hK K) | skip
                try simp only [List.getElem_toArray, List.getElem_cons_succ, List.getElem_cons_zero, Act.put, List.setIfInBounds_toArray, List.set_cons_zero, List.set_cons_succ]
                refine wpAny_ready (rs := [21]) (by kernel_rfl) (by simp) (AllReady.cons rfl (fun K hK => ?_) AllReady.nil)
                go_simp
                first | (refine hK _ _ ?_; clear hK K) | skip
                try simp only [List.getElem_toArray, List.getElem_cons_succ, List.getElem_cons_zero, Act.put, List.setIfInBounds_toArray, List.set_cons_zero, List.set_cons_succ]
                refine wpAny_ready (rs := [22]) (by kernel_rfl) (by simp) (AllReady.cons rfl (fun K hK => ?_) AllReady.nil)
                go_simp
                first | (refine hK _ _ ?_; clear hK K) | skip
                try simp only [List.getElem_toArray, List.getElem_cons_succ, List.getElem_cons_zero, Act.put, List.setIfInBounds_toArray, List.set_cons_zero, List.set_cons_succ]
                refine wpAny_ready (rs := [23]) (by kernel_rfl) (by simp) (AllReady.cons rfl (fun K hK => ?_) AllReady.nil)
                go_simp
                go_wp2_with (go_at_call 10; refine (HSM.out _ _ _ _ (HLT2.out.below (bl_alloc _ _)) (HSL.out _)).mono ?_; rintro e wd ⟨rfl, hbd⟩; have HBZ : Hid (Below w6.heap.size w6 wd) := bl_trans (bl_trans (bl_trans HBA.out HBC.out) (bl_alloc _ _)) hbd; clear hbd)
                first | (refine hK _ _ ?_; clear hK K) | skip
                try simp only [List.getElem_toArray, List.getElem_cons_succ, List.getElem_cons_zero, Act.put, List.setIfInBounds_toArray, List.set_cons_zero, List.set_cons_succ]
                refine wpAny_take (i := 24) (v := ?_) rfl (by kernel_rfl) (by kernel_rfl) (by kernel_rfl) (fun _ _ _ h => h) (Or.inl ⟨by rfl, ?_⟩) ?_
                rotate_left
                focus (intro w; go_simp; try with_reducible rfl)
                try simp only [List.getElem_toArray, List.getElem_cons_succ, List.getElem_cons_zero, Act.put, List.setIfInBounds_toArray, List.set_cons_zero, List.set_cons_succ]
                refine wpAny_take (i := 25) (v := ?_) rfl (by kernel_rfl) (by kernel_rfl) (by kernel_rfl) (fun _ _ _ h => h) (Or.inl ⟨by rfl, ?_⟩) ?_
                rotate_left
                focus (intro w; go_simp; try with_reducible rfl)
                try simp only [List.getElem_toArray, List.getElem_cons_succ, List.getElem_cons_zero, Act.put, List.setIfInBounds_toArray, List.set_cons_zero, List.set_cons_succ]
                refine wpAny_take (i := 26) (v := ?_) rfl (by kernel_rfl) (by kernel_rfl) (by kernel_rfl) (fun _ _ _ h => h) (Or.inl ⟨by rfl, ?_⟩) ?_
                rotate_left
                focus (intro w; go_simp; try with_reducible rfl)
                try simp only [List.getElem_toArray, List.getElem_cons_succ, List.getElem_cons_zero, Act.put, List.setIfInBounds_toArray, List.set_cons_zero, List.set_cons_succ]
                refine wpAny_take (i := 27) (v := ?_) rfl (by kernel_rfl) (by kernel_rfl) (by kernel_rfl) (fun _ _ _ h => h) (Or.inl ⟨by rfl, ?_⟩) ?_
                rotate_left
                focus (intro w; go_simp; try with_reducible rfl)
                try simp only [List.getElem_toArray, List.getElem_cons_succ, List.getElem_cons_zero, Act.put, List.setIfInBounds_toArray, List.set_cons_zero, List.set_cons_succ]
                refine wpAny_done (by kernel_rfl) ?_ _
                go_wp2_with fail
                go_meet
                exact ⟨_, _, HDN.out, PIN6.out.keep HBZ.out⟩
              · go_simp
                first | (refine hK _ _ ?_; clear hK K) | skip
                try simp only [List.getElem_toArray, List.getElem_cons_succ, List.getElem_cons_zero, Act.put, List.setIfInBounds_toArray, List.set_cons_zero, List.set_cons_succ]
                refine wpAny_ready (rs := [20, 22]) (by kernel_rfl) (by simp) (AllReady.cons rfl (fun K hK => ?_) (AllReady.cons rfl (fun K hK => ?_) AllReady.nil))
                · go_simp
                  go_wp2_with (go_at_call 11; refine (HTR.out _ (HWA.out)).mono ?_; rintro e wb ⟨ra, rc, rfl, hli, hbb⟩; have HLT2 := Lib.hid hli; have HBC := Lib.hid hbb; have HBV : Hid (Below w6.heap.size w6 wb) := bl_trans (HBA.out) HBC.out; have k1 := HSB.out wb HBV.out; clear hli hbb)
                  first | (refine hK _ _ ?_; clear hK K) | skip
                  try simp only [List.getElem_toArray, List.getElem_cons_succ, List.getElem_cons_zero, Act.put, List.setIfInBounds_toArray, List.set_cons_zero, List.set_cons_succ]
                  refine wpAny_ready (rs := [22]) (by kernel_rfl) (by simp) (AllReady.cons rfl (fun K hK => ?_) AllReady.nil)
                  go_simp
                  first | (refine hK _ _ ?_; clear hK K) | skip
                  try simp only [List.getElem_toArray, List.getElem_cons_succ, List.getElem_cons_zero, Act.put, List.setIfInBounds_toArray, List.set_cons_zero, List.set_cons_succ]
                  refine wpAny_ready (rs := [23]) (by kernel_rfl) (by simp) (AllReady.cons rfl (fun K hK => ?_) AllReady.nil)
                  go_simp
                  go_wp2_with (go_at_call 10; refine (HSM.out _ _ _ _ (HLT2.out.below (bl_alloc _ _)) (HSL.out _)).mono ?_; rintro e wd ⟨rfl, hbd⟩; have HBZ : Hid (Below w6.heap.size w6 wd) := bl_trans (bl_trans (bl_trans HBA.out HBC.out) (bl_alloc _ _)) hbd; clear hbd)
                  first | (refine hK _ _ ?_; clear hK K) | skip
                  try simp only [List.getElem_toArray, List.getElem_cons_succ, List.getElem_cons_zero, Act.put, List.setIfInBounds_toArray, List.set_cons_zero, List.set_cons_succ]
                  refine wpAny_take (i := 24) (v := ?_) rfl (by kernel_rfl) (by kernel_rfl) (by kernel_rfl) (fun _ _ _ h => h) (Or.inl ⟨by rfl, ?_⟩) ?_
                  rotate_left
                  focus (intro w; go_simp; try with_reducible rfl)
                  try simp only [List.getElem_toArray, List.getElem_cons_succ, List.getElem_cons_zero, Act.put, List.setIfInBounds_toArray, List.set_cons_zero, List.set_cons_succ]
                  refine wpAny_take (i := 25) (v := ?_) rfl (by kernel_rfl) (by kernel_rfl) (by kernel_rfl) (fun _ _ _ h => h) (Or.inl ⟨by rfl, ?_⟩) ?_
                  rotate_left
                  focus (intro w; go_simp; try with_reducible rfl)
                  try simp only [List.getElem_toArray, List.getElem_cons_succ, List.getElem_cons_zero, Act.put, List.setIfInBounds_toArray, List.set_cons_zero, List.set_cons_succ]
                  refine wpAny_take (i := 26) (v := ?_) rfl (by kernel_rfl) (by kernel_rfl) (by kernel_rfl) (fun _ _ _ h => h) (Or.inl ⟨by rfl, ?_⟩) ?_
                  rotate_left
                  focus (intro w; go_simp; try with_reducible rfl)
                  try simp only [List.getElem_toArray, List.getElem_cons_succ, List.getElem_cons_zero, Act.put, List.setIfInBounds_toArray, List.set_cons_zero, List.set_cons_succ]
                  refine wpAny_take (i := 27) (v := ?_) rfl (by kernel_rfl) (by kernel_rfl) (by kernel_rfl) (fun _ _ _ h => h) (Or.inl ⟨by rfl, ?_⟩) ?_
                  rotate_left
                  focus (intro w; go_simp; try with_reducible rfl)
                  try simp only [List.getElem_toArray, List.getElem_cons_succ, List.getElem_cons_zero, Act.put, List.setIfInBounds_toArray, List.set_cons_zero, List.set_cons_succ]
                  refine wpAny_done (by kernel_rfl) ?_ _
                  go_wp2_with fail
                  go_meet
                  exact ⟨_, _, HDN.out, PIN6.out.keep HBZ.out⟩
                · go_simp
                  first | (refine hK _ _ ?_; clear hK K) | skip
                  try simp only [List.getElem_toArray, List.getElem_cons_succ, List.getElem_cons_zero, Act.put, List.setIfInBounds_toArray, List.set_cons_zero, List.set_cons_succ]
                  refine wpAny_ready (rs := [20]) (by kernel_rfl) (by simp) (AllReady.cons rfl (fun K hK => ?_) AllReady.nil)
                  go_simp
                  go_wp2_with (go_at_call 11; refine (HTR.out _ (HWA.out.trans ((bl_alloc _ _).mono HWA.out.size))).mono ?_; rintro e wb ⟨ra, rc, rfl, hli, hbb⟩; have HLT2 := Lib.hid hli; have HBC := Lib.hid hbb; have HBV : Hid (Below w6.heap.size w6 wb) := bl_trans (bl_trans HBA.out (bl_alloc _ _)) HBC.out; have k1 := HSB.out wb HBV.out; clear hli hbb)
                  first | (refine hK _ _ ?_; clear hK K) | skip
                  try simp only [List.getElem_toArray, List.getElem_cons_succ, List.getElem_cons_zero, Act.put, List.setIfInBounds_toArray, List.set_cons_zero, List.set_cons_succ]
                  refine wpAny_ready (rs := [23]) (by kernel_rfl) (by simp) (AllReady.cons rfl (fun K hK => ?_) AllReady.nil)
                  go_simp
                  go_wp2_with (go_at_call 10; refine (HSM.out _ _ _ _ (HLT2.out) ((HSL.out _).below HBC.out)).mono ?_; rintro e wd ⟨rfl, hbd⟩; have HBZ : Hid (Below w6.heap.size w6 wd) := bl_trans (bl_trans (bl_trans HBA.out (bl_alloc _ _)) HBC.out) hbd; clear hbd)
                  first | (refine hK _ _ ?_; clear hK K) | skip
                  try simp only [List.getElem_toArray, List.getElem_cons_succ, List.getElem_cons_zero, Act.put, List.setIfInBounds_toArray, List.set_cons_zero, List.set_cons_succ]
                  refine wpAny_take (i := 24) (v := ?_) rfl (by kernel_rfl) (by kernel_rfl) (by kernel_rfl) (fun _ _ _ h => h) (Or.inl ⟨by rfl, ?_⟩) ?_
                  rotate_left
                  focus (intro w; go_simp; try with_reducible rfl)
                  try simp only [List.getElem_toArray, List.getElem_cons_succ, List.getElem_cons_zero, Act.put, List.setIfInBounds_toArray, List.set_cons_zero, List.set_cons_succ]
                  refine wpAny_take (i := 25) (v := ?_) rfl (by kernel_rfl) (by kernel_rfl) (by kernel_rfl) (fun _ _ _ h => h) (Or.inl ⟨by rfl, ?_⟩) ?_
                  rotate_left
                  focus (intro w; go_simp; try with_reducible rfl)
                  try simp only [List.getElem_toArray, List.getElem_cons_succ, List.getElem_cons_zero, Act.put, List.setIfInBounds_toArray, List.set_cons_zero, List.set_cons_succ]
                  refine wpAny_take (i := 26) (v := ?_) rfl (by kernel_rfl) (by kernel_rfl) (by kernel_rfl) (fun _ _ _ h => h) (Or.inl ⟨by rfl, ?_⟩) ?_
                  rotate_left
                  focus (intro w; go_simp; try with_reducible rfl)
                  try simp only [List.getElem_toArray, List.getElem_cons_succ, List.getElem_cons_zero, Act.put, List.setIfInBounds_toArray, List.set_cons_zero, List.set_cons_succ]
                  refine wpAny_take (i := 27) (v := ?_) rfl (by kernel_rfl) (by kernel_rfl) (by kernel_rfl) (fun _ _ _ h => h) (Or.inl ⟨by rfl, ?_⟩) ?_
                  rotate_left
                  focus (intro w; go_simp; try with_reducible rfl)
                  try simp only [List.getElem_toArray, List.getElem_cons_succ, List.getElem_cons_zero, Act.put, List.setIfInBounds_toArray, List.set_cons_zero, List.set_cons_succ]
                  refine wpAny_done (by kernel_rfl) ?_ _
                  go_wp2_with fail
                  go_meet
                  exact ⟨_, _, HDN.out, PIN6.out.keep HBZ.out⟩
          | false =>
            cases t1 : (bits BinOp.and IntKind.i64 x.what 3 == 1) with
            | true =>
              cases hE : lockE L x.who x.keys with
              | none => as_aux_lemma =>
                have HPL := Lib.hid (pin_lock PIN.out HKS.out HKL.out)
                have HPR : Hid (∀ W, PlIn w b m d d xb x ka kc M (lockL L x.who x.keys) W → Calls Tryd.prog 8 #[.pointer (some ⟨d, 0, none⟩), .int .i64 x.who, .slice ka x.keys.length kc] W fun e W' => e = .returned (.tuple #[.int .i64 0, .agg #[.string ⟨#[]⟩, .int .i64 0]]) ∧ PlIn w b m d d xb x ka kc (lockM M L x.who x.keys) (lockL L x.who x.keys) W') := fun W hW => by
                  have := pin_rlock hW HKS.out HKL.out HD.out HLK.out.fine
                  rw [hE] at this
                  exact this
                rw [hE] at HPL
                simp only [errV] at HPL
                have HDN := Lib.hid (doc_lock HD.out HLK.out.fine x.who x.keys)
                clear hE
                go_wp2_with fail
                refine HPL.out.mono ?_
                rintro e w4 ⟨rfl, hp⟩
                have PIN4 := Lib.hid hp
                clear hp HPL c0 c1 c2 cl
                obtain ⟨c0, c1, c2, cl⟩ := pin_c PIN4.out
                go_wp2_with fail
                refine (HPR.out _ PIN4.out).mono ?_
                rintro e w5 ⟨rfl, hp⟩
                have PIN5 := Lib.hid hp
                clear hp c0 c1 c2 cl
                go_upto_region 15 with fail
                obtain ⟨w6, hw6⟩ : ∃ z, z = w5.alloc (.cells #[.string ⟨#[]⟩, .int .i64 0] 39) := ⟨_, rfl⟩
                have PIN6 : Hid (PlIn w b m d d xb x ka kc (lockM M L x.who x.keys) (lockL L x.who x.keys) w6) := PIN5.out.keep (by rw [hw6]; exact (Below.refl _ _).alloc (Nat.le_refl _) _)
                rw [← hw6]
                clear hw6
                have here := Later.here w6
                refine wp_region_later (by kernel_rfl) (by kernel_rfl) ?_
                iterate 28 (with_reducible refine wpQuiet_step (fun K hK => ?_); go_simp; first | (refine hK _ ?_; clear hK K) | (rw [if_neg (by decide)]; refine hK _ ?_; clear hK K))
                with_reducible refine wpQuiet_nil ?_
                intro X
                go_wp2_with fail
                go_meet
                exact ⟨_, _, HDN.out, PIN6.out.keep X.2⟩
              | some p => as_aux_lemma =>
                obtain ⟨en, ea⟩ := p
                have hen := lockE_pos hE
                have HPL := Lib.hid (pin_lock PIN.out HKS.out HKL.out)
                have HPR : Hid (∀ W, PlIn w b m d d xb x ka kc M (lockL L x.who x.keys) W → Calls Tryd.prog 8 #[.pointer (some ⟨d, 0, none⟩), .int .i64 x.who, .slice ka x.keys.length kc] W fun e W' => e = .returned (.tuple #[.int .i64 en, .agg #[.string lockW, .int .i64 ea]]) ∧ PlIn w b m d d xb x ka kc (lockM M L x.who x.keys) (lockL L x.who x.keys) W') := fun W hW => by
                  have := pin_rlock hW HKS.out HKL.out HD.out HLK.out.fine
                  rw [hE] at this
                  exact this
                rw [hE] at HPL
                simp only [errV, wrap_err] at HPL
                have HDN := Lib.hid (doc_lock HD.out HLK.out.fine x.who x.keys)
                have HCD : Hid (∀ W, Below w.heap.size w W → Calls Tryd.prog 9 #[errOf en [(lockW, ea)]] W fun e w' => e = .returned (.int .i64 en) ∧ Below W.heap.size W w') := fun W hW => code_of en _ W (HG.out.below HG.out.lt hW)
                have HTR : Hid (∀ W, Below w.heap.size w W → Calls Tryd.prog 11 #[errOf en [(lockW, ea)]] W fun e w' => ∃ ra rc, e = .returned (.slice ra 1 rc) ∧ Lies w' ra 2 stepL [(lockW, ea)] ∧ Below W.heap.size W w') := fun W hW => trail1 en _ W (HG.out.below HG.out.lt hW)
                obtain ⟨T, ev, hEV⟩ := errOf_form en [(lockW, ea)]
                rw [hEV] at HPL HCD HTR
                have hen0 : (en == 0) = false := by simpa using hen
                have hen1 : (en != 0) = true := by simpa using hen
                have hen2 : (en != en) = false := by simp
                obtain ⟨lw, hlw⟩ : ∃ z, z = lockW := ⟨_, rfl⟩
                rw [← hlw] at HPR HTR
                have HSM : Hid (∀ (ra rb : Option Addr) (rc : Nat) (W : World), Lies W ra 2 stepL [(lw, ea)] → Lies W rb 2 stepL [(lw, ea)] → Calls Tryd.prog 10 #[.slice ra 1 rc, .slice rb 1 1] W fun e w' => e = .returned (.bool true) ∧ Below W.heap.size W w') := fun ra rb rc W h1 h2 => same_st ra rb 1 rc 1 [(lw, ea)] W h1 h2 rfl (by decide)
                clear hE hEV hen hlw
                go_wp2_with fail
                refine HPL.out.mono ?_
                rintro e w4 ⟨rfl, hp⟩
                have PIN4 := Lib.hid hp
                clear hp HPL c0 c1 c2 cl
                obtain ⟨c0, c1, c2, cl⟩ := pin_c PIN4.out
                go_wp2_with fail
                refine (HPR.out _ PIN4.out).mono ?_
                rintro e w5 ⟨rfl, hp⟩
                have PIN5 := Lib.hid hp
                clear hp c0 c1 c2 cl
                go_upto_region 15 with fail
                obtain ⟨w6, hw6⟩ : ∃ z, z = w5.alloc (.cells #[.string lw, .int .i64 ea] 39) := ⟨_, rfl⟩
                obtain ⟨sb, hsb⟩ : ∃ z, z = w5.heap.size := ⟨_, rfl⟩
                have PIN6 : Hid (PlIn w b m d d xb x ka kc (lockM M L x.who x.keys) (lockL L x.who x.keys) w6) := PIN5.out.keep (by rw [hw6]; exact (Below.refl _ _).alloc (Nat.le_refl _) _)
                have hsb6 : w6.heap[sb]? = some (.cells #[.string lw, .int .i64 ea] 39 (0, 0)) := by rw [hw6, hsb]; exact heap_alloc_new w5 _
                have HSB : Hid (∀ W, Below w6.heap.size w6 W → W.cell? ⟨sb, 0, none⟩ = some (.string lw) ∧ W.cell? ⟨sb, 1, none⟩ = some (.int .i64 ea)) := fun W hW => by
                  have h := (hW.block _ (lt_of_heap hsb6)).trans hsb6
                  exact ⟨by rw [cell_of_row _ _ _ _ _ _ h]; rfl, by rw [cell_of_row _ _ _ _ _ _ h]; rfl⟩
                rw [← hw6, ← hsb]
                clear hw6 hsb hsb6
                have HDD := Lib.hid (bl_drew w6)
                have HW0 : Hid (Below w.heap.size w w6.drew) := (PIN6.out.keep HDD.out).lk.below
                have k9 := HSB.out _ HDD.out
                have HSL : Hid (∀ W : World, Lies (W.alloc (.cells #[.string lw, .int .i64 ea] 39)) (some ⟨W.heap.size, 0, none⟩) 2 stepL [(lw, ea)]) := fun W => step_lies (heap_alloc_new W _)
                refine wp_region_any (by kernel_rfl) ?_
                change wpAny _ _ _ _ _ _ _ (World.drew _)
                refine wpAny_take (i := 0) (v := ?_) rfl (by kernel_rfl) (by kernel_rfl) (by kernel_rfl) (fun _ _ _ h => h) (Or.inl ⟨by rfl, ?_⟩) ?_
                rotate_left
                focus (intro w; go_simp; try with_reducible rfl)
                try simp only [List.getElem_toArray, List.getElem_cons_zero, Act.put, List.setIfInBounds_toArray, List.set_cons_zero, List.set_cons_succ]
                refine wpAny_take (i := 1) (v := ?_) rfl (by kernel_rfl) (by kernel_rfl) (by kernel_rfl) (fun _ _ _ h => h) (Or.inl ⟨by rfl, ?_⟩) ?_
                rotate_left
                focus (intro w; go_simp; try with_reducible rfl)
                try simp only [List.getElem_toArray, List.getElem_cons_succ, List.getElem_cons_zero, Act.put, List.setIfInBounds_toArray, List.set_cons_zero, List.set_cons_succ]
                refine wpAny_take (i := 2) (v := ?_) rfl (by kernel_rfl) (by kernel_rfl) (by kernel_rfl) (fun _ _ _ h => h) (Or.inl ⟨by rfl, ?_⟩) ?_
                rotate_left
                focus (intro w; go_simp; try with_reducible rfl)
                try simp only [List.getElem_toArray, List.getElem_cons_succ, List.getElem_cons_zero, Act.put, List.setIfInBounds_toArray, List.set_cons_zero, List.set_cons_succ]
                refine wpAny_take (i := 3) (v := undef) rfl (by kernel_rfl) (by kernel_rfl) (by kernel_rfl) (fun _ _ _ h => h) (Or.inr ⟨by rfl, rfl⟩) ?_
                try simp only [List.getElem_toArray, List.getElem_cons_succ, List.getElem_cons_zero, Act.put, List.setIfInBounds_toArray, List.set_cons_zero, List.set_cons_succ]
                refine wpAny_take (i := 4) (v := undef) rfl (by kernel_rfl) (by kernel_rfl) (by kernel_rfl) (fun _ _ _ h => h) (Or.inr ⟨by rfl, rfl⟩) ?_
                try simp only [List.getElem_toArray, List.getElem_cons_succ, List.getElem_cons_zero, Act.put, List.setIfInBounds_toArray, List.set_cons_zero, List.set_cons_succ]
                refine wpAny_take (i := 5) (v := ?_) rfl (by kernel_rfl) (by kernel_rfl) (by kernel_rfl) (fun _ _ _ h => h) (Or.inl ⟨by rfl, ?_⟩) ?_
                rotate_left
                focus (intro w; go_simp; try with_reducible rfl)
                try simp only [List.getElem_toArray, List.getElem_cons_succ, List.getElem_cons_zero, Act.put, List.setIfInBounds_toArray, List.set_cons_zero, List.set_cons_succ]
                refine wpAny_take (i := 6) (v := ?_) rfl (by kernel_rfl) (by kernel_rfl) (by kernel_rfl) (fun _ _ _ h => h) (Or.inl ⟨by rfl, ?_⟩) ?_
                rotate_left
                focus (intro w; go_simp; try with_reducible rfl)
                try simp only [List.getElem_toArray, List.getElem_cons_succ, List.getElem_cons_zero, Act.put, List.setIfInBounds_toArray, List.set_cons_zero, List.set_cons_succ]
                refine wpAny_take (i := 7) (v := ?_) rfl (by kernel_rfl) (by kernel_rfl) (by kernel_rfl) (fun _ _ _ h => h) (Or.inl ⟨by rfl, ?_⟩) ?_
                rotate_left
                focus (intro w; go_simp; try with_reducible rfl)
                try simp only [List.getElem_toArray, List.getElem_cons_succ, List.getElem_cons_zero, Act.put, List.setIfInBounds_toArray, List.set_cons_zero, List.set_cons_succ]
                refine wpAny_take (i := 8) (v := ?_) rfl (by kernel_rfl) (by kernel_rfl) (by kernel_rfl) (fun _ _ _ h => h) (Or.inl ⟨by rfl, ?_⟩) ?_
                rotate_left
                focus (intro w; go_simp; try with_reducible rfl)
                try simp only [List.getElem_toArray, List.getElem_cons_succ, List.getElem_cons_zero, Act.put, List.setIfInBounds_toArray, List.set_cons_zero, List.set_cons_succ]
                refine wpAny_take (i := 9) (v := ?_) rfl (by kernel_rfl) (by kernel_rfl) (by kernel_rfl) (fun _ _ _ h => h) (Or.inl ⟨by rfl, ?_⟩) ?_
                rotate_left
                focus (intro w; go_simp; try with_reducible rfl)
                try simp only [List.getElem_toArray, List.getElem_cons_succ, List.getElem_cons_zero, Act.put, List.setIfInBounds_toArray, List.set_cons_zero, List.set_cons_succ]
                refine wpAny_take (i := 10) (v := ?_) rfl (by kernel_rfl) (by kernel_rfl) (by kernel_rfl) (fun _ _ _ h => h) (Or.inl ⟨by rfl, ?_⟩) ?_
                rotate_left
                focus (intro w; go_simp; try with_reducible rfl)
                try simp only [List.getElem_toArray, List.getElem_cons_succ, List.getElem_cons_zero, Act.put, List.setIfInBounds_toArray, List.set_cons_zero, List.set_cons_succ]
                refine wpAny_take (i := 11) (v := ?_) rfl (by kernel_rfl) (by kernel_rfl) (by kernel_rfl) (fun _ _ _ h => h) (Or.inl ⟨by rfl, ?_⟩) ?_
                rotate_left
                focus (intro w; go_simp; try with_reducible rfl)
                try simp only [List.getElem_toArray, List.getElem_cons_succ, List.getElem_cons_zero, Act.put, List.setIfInBounds_toArray, List.set_cons_zero, List.set_cons_succ]
                refine wpAny_take (i := 12) (v := ?_) rfl (by kernel_rfl) (by kernel_rfl) (by kernel_rfl) (fun _ _ _ h => h) (Or.inl ⟨by rfl, ?_⟩) ?_
                rotate_left
                focus (intro w; go_simp; try with_reducible rfl)
                try simp only [List.getElem_toArray, List.getElem_cons_succ, List.getElem_cons_zero, Act.put, List.setIfInBounds_toArray, List.set_cons_zero, List.set_cons_succ]
                refine wpAny_take (i := 13) (v := ?_) rfl (by kernel_rfl) (by kernel_rfl) (by kernel_rfl) (fun _ _ _ h => h) (Or.inl ⟨by rfl, ?_⟩) ?_
                rotate_left
                focus (intro w; go_simp; try with_reducible rfl)
                try simp only [List.getElem_toArray, List.getElem_cons_succ, List.getElem_cons_zero, Act.put, List.setIfInBounds_toArray, List.set_cons_zero, List.set_cons_succ]
                refine wpAny_take (i := 15) (v := ?_) rfl (by kernel_rfl) (by kernel_rfl) (by kernel_rfl) (fun _ _ _ h => h) (Or.inl ⟨by rfl, ?_⟩) ?_
                rotate_left
                focus (intro w; go_simp; try with_reducible rfl)
                try simp only [List.getElem_toArray, List.getElem_cons_succ, List.getElem_cons_zero, Act.put, List.setIfInBounds_toArray, List.set_cons_zero, List.set_cons_succ]
                refine wpAny_ready (rs := [14]) (by kernel_rfl) (by simp) (AllReady.cons rfl (fun K hK => ?_) AllReady.nil)
                go_simp
                go_wp2_with (go_at_call 9; refine (HCD.out _ HW0.out).mono ?_; rintro e wa ⟨rfl, hba⟩; have HBA := Lib.hid (bl_trans HDD.out hba); have HWA := Lib.hid (HW0.out.trans (hba.mono HW0.out.size)); have k0 := HSB.out wa HBA.out; clear hba)
                first | (refine hK _ _ ?_; clear hK K) | skip
                try simp only [List.getElem_toArray, List.getElem_cons_succ, List.getElem_cons_zero, Act.put, List.setIfInBounds_toArray, List.set_cons_zero, List.set_cons_succ]
                refine wpAny_take (i := 16) (v := ?_) rfl (by kernel_rfl) (by kernel_rfl) (by kernel_rfl) (fun _ _ _ h => h) (Or.inl ⟨by rfl, ?_⟩) ?_
                rotate_left
                focus (intro w; go_simp; try with_reducible rfl)
                try simp only [List.getElem_toArray, List.getElem_cons_succ, List.getElem_cons_zero, Act.put, List.setIfInBounds_toArray, List.set_cons_zero, List.set_cons_succ]
                refine wpAny_take (i := 17) (v := ?_) rfl (by kernel_rfl) (by kernel_rfl) (by kernel_rfl) (fun _ _ _ h => h) (Or.inl ⟨by rfl, ?_⟩) ?_
                rotate_left
                focus (intro w; go_simp; try with_reducible rfl)
                try simp only [List.getElem_toArray, List.getElem_cons_succ, List.getElem_cons_zero, Act.put, List.setIfInBounds_toArray, List.set_cons_zero, List.set_cons_succ]
                refine wpAny_take (i := 18) (v := ?_) rfl (by kernel_rfl) (by kernel_rfl) (by kernel_rfl) (fun _ _ _ h => h) (Or.inl ⟨by rfl, ?_⟩) ?_
                rotate_left
                focus (intro w; go_simp; try with_reducible rfl)
                try simp only [List.getElem_toArray, List.getElem_cons_succ, List.getElem_cons_zero, Act.put, List.setIfInBounds_toArray, List.set_cons_zero, List.set_cons_succ]
                refine wpAny_take (i := 19) (v := ?_) rfl (by kernel_rfl) (by kernel_rfl) (by kernel_rfl) (fun _ _ _ h => h) (Or.inl ⟨by rfl, ?_⟩) ?_
                rotate_left
                focus (intro w; go_simp; try with_reducible rfl)
                try simp only [List.getElem_toArray, List.getElem_cons_succ, List.getElem_cons_zero, Act.put, List.setIfInBounds_toArray, List.set_cons_zero, List.set_cons_succ]
                refine wpAny_ready (rs := [20, 21]) (by kernel_rfl) (by simp) (AllReady.cons rfl (fun K hK => ?_) (AllReady.cons rfl (fun K hK => ?_) AllReady.nil))
                · go_simp
                  go_wp2_with (go_at_call 11; refine (HTR.out _ (HWA.out)).mono ?_; rintro e wb ⟨ra, rc, rfl, hli, hbb⟩; have HLT2 := Lib.hid hli; have HBC := Lib.hid hbb; have HBV : Hid (Below w6.heap.size w6 wb) := bl_trans (HBA.out) HBC.out; have k1 := HSB.out wb HBV.out; clear hli hbb)
                  first | (refine hK _ _ ?_; clear hK K) | skip
                  try simp only [List.getElem_toArray, List.getElem_cons_succ, List.getElem_cons_zero, Act.put, List.setIfInBounds_toArray, List.set_cons_zero, List.set_cons_succ]
                  refine wpAny_ready (rs := [21]) (by kernel_rfl) (by simp) (AllReady.cons rfl (fun K hK => ?_) AllReady.nil)
                  go_simp
                  first | (refine hK _ _ ?_; clear hK K) | skip
                  try simp only [List.getElem_toArray, List.getElem_cons_succ, List.getElem_cons_zero, Act.put, List.setIfInBounds_toArray, List.set_cons_zero, List.set_cons_succ]
                  refine wpAny_ready (rs := [22]) (by kernel_rfl) (by simp) (AllReady.cons rfl (fun K hK => ?_) AllReady.nil)
                  go_simp
                  first | (refine hK _ _ ?_; clear hK K) | skip
                  try simp only [List.getElem_toArray, List.getElem_cons_succ, List.getElem_cons_zero, Act.put, List.setIfInBounds_toArray, List.set_cons_zero, List.set_cons_succ]
                  refine wpAny_ready (rs := [23]) (by kernel_rfl) (by simp) (AllReady.cons rfl (fun K hK => ?_) AllReady.nil)
                  go_simp
                  go_wp2_with (go_at_call 10; refine (HSM.out _ _ _ _ (HLT2.out.below (bl_alloc _ _)) (HSL.out _)).mono ?_; rintro e wd ⟨rfl, hbd⟩; have HBZ : Hid (Below w6.heap.size w6 wd) := bl_trans (bl_trans (bl_trans HBA.out HBC.out) (bl_alloc _ _)) hbd; clear hbd)
                  first | (refine hK _ _ ?_; clear hK K) | skip
                  try simp only [List.getElem_toArray, List.getElem_cons_succ, List.getElem_cons_zero, Act.put, List.setIfInBounds_toArray, List.set_cons_zero, List.set_cons_succ]
                  refine wpAny_take (i := 24) (v := ?_) rfl (by kernel_rfl) (by kernel_rfl) (by kernel_rfl) (fun _ _ _ h => h) (Or.inl ⟨by rfl, ?_⟩) ?_
                  rotate_left
                  focus (intro w; go_simp; try with_reducible rfl)
                  try simp only [List.getElem_toArray, List.getElem_cons_succ, List.getElem_cons_zero, Act.put, List.setIfInBounds_toArray, List.set_cons_zero, List.set_cons_succ]
                  refine wpAny_take (i := 25) (v := ?_) rfl (by kernel_rfl) (by kernel_rfl) (by kernel_rfl) (fun _ _ _ h => h) (Or.inl ⟨by rfl, ?_⟩) ?_
                  rotate_left
                  focus (intro w; go_simp; try with_reducible rfl)
                  try simp only [List.getElem_toArray, List.getElem_cons_succ, List.getElem_cons_zero, Act.put, List.setIfInBounds_toArray, List.set_cons_zero, List.set_cons_succ]
                  refine wpAny_take (i := 26) (v := ?_) rfl (by kernel_rfl) (by kernel_rfl) (by kernel_rfl) (fun _ _ _ h => h) (Or.inl ⟨by rfl, ?_⟩) ?_
                  rotate_left
                  focus (intro w; go_simp; try with_reducible rfl)
                  try simp only [List.getElem_toArray, List.getElem_cons_succ, List.getElem_cons_zero, Act.put, List.setIfInBounds_toArray, List.set_cons_zero, List.set_cons_succ]
                  refine wpAny_take (i := 27) (v := ?_) rfl (by kernel_rfl) (by kernel_rfl) (by kernel_rfl) (fun _ _ _ h => h) (Or.inl ⟨by rfl, ?_⟩) ?_
                  rotate_left
                  focus (intro w; go_simp; try with_reducible rfl)
                  try simp only [List.getElem_toArray, List.getElem_cons_succ, List.getElem_cons_zero, Act.put, List.setIfInBounds_toArray, List.set_cons_zero, List.set_cons_succ]
                  refine wpAny_done (by kernel_rfl) ?_ _
                  go_wp2_with fail
                  go_meet
                  exact ⟨_, _, HDN.out, PIN6.out.keep HBZ.out⟩
                · go_simp
                  first | (refine hK _ _ ?_; clear hK K) | skip
                  try simp only [List.getElem_toArray, List.getElem_cons_succ, List.getElem_cons_zero, Act.put, List.setIfInBounds_toArray, List.set_cons_zero, List.set_cons_succ]
                  refine wpAny_ready (rs := [20, 22]) (by kernel_rfl) (by simp) (AllReady.cons rfl (fun K hK => ?_) (AllReady.cons rfl (fun K hK => ?_) AllReady.nil))
                  · go_simp
                    go_wp2_with (go_at_call 11; refine (HTR.out _ (HWA.out)).mono ?_; rintro e wb ⟨ra, rc, rfl, hli, hbb⟩; have HLT2 := Lib.hid hli; have HBC := Lib.hid hbb; have HBV : Hid (Below w6.heap.size w6 wb) := bl_trans (HBA.out) HBC.out; have k1 := HSB.out wb HBV.out; clear hli hbb)
                    first | (refine hK _ _ ?_; clear hK K) | skip
                    try simp only [List.getElem_toArray, List.getElem_cons_succ, List.getElem_cons_zero, Act.put, List.setIfInBounds_toArray, List.set_cons_zero, List.set_cons_succ]
                    refine wpAny_ready (rs := [22]) (by kernel_rfl) (by simp) (AllReady.cons rfl (fun K hK => ?_) AllReady.nil)
                    go_simp
                    first | (refine hK _ _ ?_; clear hK K) | skip
                    try simp only [List.getElem_toArray, List.getElem_cons_succ, List.getElem_cons_zero, Act.put, List.setIfInBounds_toArray, List.set_cons_zero, List.set_cons_succ]
                    refine wpAny_ready (rs := [23]) (by kernel_rfl) (by simp) (AllReady.cons rfl (fun K hK => ?_) AllReady.nil)
                    go_simp
                    go_wp2_with (go_at_call 10; refine (HSM.out _ _ _ _ (HLT2.out.below (bl_alloc _ _)) (HSL.out _)).mono ?_; rintro e wd ⟨rfl, hbd⟩; have HBZ : Hid (Below w6.heap.size w6 wd) := bl_trans (bl_trans (bl_trans HBA.out HBC.out) (bl_alloc _ _)) hbd; clear hbd)
                    first | (refine hK _ _ ?_; clear hK K) | skip
                    try simp only [List.getElem_toArray, List.getElem_cons_succ, List.getElem_cons_zero, Act.put, List.setIfInBounds_toArray, List.set_cons_zero, List.set_cons_succ]
                    refine wpAny_take (i := 24) (v := ?_) rfl (by kernel_rfl) (by kernel_rfl) (by kernel_rfl) (fun _ _ _ h => h) (Or.inl ⟨by rfl, ?_⟩) ?_
                    rotate_left
                    focus (intro w; go_simp; try with_reducible rfl)
                    try simp only [List.getElem_toArray, List.getElem_cons_succ, List.getElem_cons_zero, Act.put, List.setIfInBounds_toArray, List.set_cons_zero, List.set_cons_succ]
                    refine wpAny_take (i := 25) (v := ?_) rfl (by kernel_rfl) (by kernel_rfl) (by kernel_rfl) (fun _ _ _ h => h) (Or.inl ⟨by rfl, ?_⟩) ?_
                    rotate_left
                    focus (intro w; go_simp; try with_reducible rfl)
                    try simp only [List.getElem_toArray, List.getElem_cons_succ, List.getElem_cons_zero, Act.put, List.setIfInBounds_toArray, List.set_cons_zero, List.set_cons_succ]
                    refine wpAny_take (i := 26) (v := ?_) rfl (by kernel_rfl) (by kernel_rfl) (by kernel_rfl) (fun _ _ _ h => h) (Or.inl ⟨by rfl, ?_⟩) ?_
                    rotate_left
                    focus (intro w; go_simp; try with_reducible rfl)
                    try simp only [List.getElem_toArray, List.getElem_cons_succ, List.getElem_cons_zero, Act.put, List.setIfInBounds_toArray, List.set_cons_zero, List.set_cons_succ]
                    refine wpAny_take (i := 27) (v := ?_) rfl (by kernel_rfl) (by kernel_rfl) (by kernel_rfl) (fun _ _ _ h => h) (Or.inl ⟨by rfl, ?_⟩) ?_
                    rotate_left
                    focus (intro w; go_simp; try with_reducible rfl)
                    try simp only [List.getElem_toArray, List.getElem_cons_succ, List.getElem_cons_zero, Act.put, List.setIfInBounds_toArray, List.set_cons_zero, List.set_cons_succ]
                    refine wpAny_done (by kernel_rfl) ?_ _
                    go_wp2_with fail
                    go_meet
                    exact ⟨_, _, HDN.out, PIN6.out.keep HBZ.out⟩
                  · go_simp
                    first | (refine hK _ _ ?_; clear hK K) | skip
                    try simp only [List.getElem_toArray, List.getElem_cons_succ, List.getElem_cons_zero, Act.put, List.setIfInBounds_toArray, List.set_cons_zero, List.set_cons_succ]
                    refine wpAny_ready (rs := [20]) (by kernel_rfl) (by simp) (AllReady.cons rfl (fun K hK => ?_) AllReady.nil)
                    go_simp
                    go_wp2_with (go_at_call 11; refine (HTR.out _ (HWA.out.trans ((bl_alloc _ _).mono HWA.out.size))).mono ?_; rintro e wb ⟨ra, rc, rfl, hli, hbb⟩; have HLT2 := Lib.hid hli; have HBC := Lib.hid hbb; have HBV : Hid (Below w6.heap.size w6 wb) := bl_trans (bl_trans HBA.out (bl_alloc _ _)) HBC.out; have k1 := HSB.out wb HBV.out; clear hli hbb)
                    first | (refine hK _ _ ?_; clear hK K) | skip
                    try simp only [List.getElem_toArray, List.getElem_cons_succ, List.getElem_cons_zero, Act.put, List.setIfInBounds_toArray, List.set_cons_zero, List.set_cons_succ]
                    refine wpAny_ready (rs := [23]) (by kernel_rfl) (by simp) (AllReady.cons rfl (fun K hK => ?_) AllReady.nil)
                    go_simp
                    go_wp2_with (go_at_call 10; refine (HSM.out _ _ _ _ (HLT2.out) ((HSL.out _).below HBC.out)).mono ?_; rintro e wd ⟨rfl, hbd⟩; have HBZ : Hid (Below w6.heap.size w6 wd) := bl_trans (bl_trans (bl_trans HBA.out (bl_alloc _ _)) HBC.out) hbd; clear hbd)
                    first | (refine hK _ _ ?_; clear hK K) | skip
                    try simp only [List.getElem_toArray, List.getElem_cons_succ, List.getElem_cons_zero, Act.put, List.setIfInBounds_toArray, List.set_cons_zero, List.set_cons_succ]
                    refine wpAny_take (i := 24) (v := ?_) rfl (by kernel_rfl) (by kernel_rfl) (by kernel_rfl) (fun _ _ _ h => h) (Or.inl ⟨by rfl, ?_⟩) ?_
                    rotate_left
                    focus (intro w; go_simp; try with_reducible rfl)
                    try simp only [List.getElem_toArray, List.getElem_cons_succ, List.getElem_cons_zero, Act.put, List.setIfInBounds_toArray, List.set_cons_zero, List.set_cons_succ]
                    refine wpAny_take (i := 25) (v := ?_) rfl (by kernel_rfl) (by kernel_rfl) (by kernel_rfl) (fun _ _ _ h => h) (Or.inl ⟨by rfl, ?_⟩) ?_
                    rotate_left
                    focus (intro w; go_simp; try with_reducible rfl)
                    try simp only [List.getElem_toArray, List.getElem_cons_succ, List.getElem_cons_zero, Act.put, List.setIfInBounds_toArray, List.set_cons_zero, List.set_cons_succ]
                    refine wpAny_take (i := 26) (v := ?_) rfl (by kernel_rfl) (by kernel_rfl) (by kernel_rfl) (fun _ _ _ h => h) (Or.inl ⟨by rfl, ?_⟩) ?_
                    rotate_left
                    focus (intro w; go_simp; try with_reducible rfl)
                    try simp only [List.getElem_toArray, List.getElem_cons_succ, List.getElem_cons_zero, Act.put, List.setIfInBounds_toArray, List.set_cons_zero, List.set_cons_succ]
                    refine wpAny_take (i := 27) (v := ?_) rfl (by kernel_rfl) (by kernel_rfl) (by kernel_rfl) (fun _ _ _ h => h) (Or.inl ⟨by rfl, ?_⟩) ?_
                    rotate_left
                    focus (intro w; go_simp; try with_reducible rfl)
                    try simp only [List.getElem_toArray, List.getElem_cons_succ, List.getElem_cons_zero, Act.put, List.setIfInBounds_toArray, List.set_cons_zero, List.set_cons_succ]
                    refine wpAny_done (by kernel_rfl) ?_ _
                    go_wp2_with fail
                    go_meet
                    exact ⟨_, _, HDN.out, PIN6.out.keep HBZ.out⟩
            | false =>
              cases t2 : (bits BinOp.and IntKind.i64 x.what 3 == 2) with
              | true =>
                have HPL := Lib.hid (pin_unlock PIN.out)
                have HDN := Lib.hid (doc_unlock HD.out x.who)
                have HML : Hid (M.length ≤ 10000) := by have := HD.out.len; have := HLK.out.fine.small; show _ ≤ _; omega
                go_wp2_with fail
                refine HPL.out.mono ?_
                rintro e w4 ⟨rfl, hp⟩
                have PIN4 := Lib.hid hp
                clear hp HPL c0 c1 c2 cl
                obtain ⟨c0, c1, c2, cl⟩ := pin_c PIN4.out
                go_wp2_with fail
                refine (pin_runlock PIN4.out HML.out).mono ?_
                rintro e w5 ⟨rfl, hp⟩
                have PIN5 := Lib.hid hp
                clear hp c0 c1 c2 cl
                go_wp2_with fail
                go_meet
                exact ⟨_, _, HDN.out, PIN5.out⟩
              | false =>
                cases t3 : (bits BinOp.and IntKind.i64 x.what 3 == 3) with
                | true =>
                  obtain ⟨kn, hkn⟩ : ∃ z, z = x.keys.length := ⟨_, rfl⟩
                  have HKN := Lib.hid hkn
                  have HC : Hid (∀ X : Later W0, X.1.cell? ⟨xb, 2, none⟩ = some (.slice ka kn kc)) := fun X => by rw [hkn]; exact (pin_c (PIN.out.keep X.2)).2.2.1
                  have c9 : ∀ X : Later W0, X.1.cell? ⟨xb, 2, none⟩ = some (.slice ka kn kc) := HC.out
                  clear c2 hkn
                  have here := Later.here W0
                  by_cases hk1 : 1 < kn
                  · obtain ⟨k0, hk0⟩ : ∃ k, x.keys[0]? = some k := ⟨_, List.getElem?_eq_getElem (by rw [← HKN.out]; omega)⟩
                    obtain ⟨k1, hk1'⟩ : ∃ k, x.keys[1]? = some k := ⟨_, List.getElem?_eq_getElem (by rw [← HKN.out]; omega)⟩
                    obtain ⟨gk, ok, rfl, lk0, e0⟩ := StrsAt.cell HKS.out hk0
                    obtain ⟨gk', ok', e2, lk1, e1⟩ := StrsAt.cell HKS.out hk1'
                    cases e2
                    have f0 : ∀ X : Later W0, X.1.cell? ⟨gk, ok, none⟩ = some (.string k0) := fun X => ((PIN.out.keep X.2).lk.below.cell (p := ⟨gk, _, none⟩) lk0).trans e0
                    have f1 : ∀ X : Later W0, X.1.cell? ⟨gk, ok + 1, none⟩ = some (.string k1) := fun X => ((PIN.out.keep X.2).lk.below.cell (p := ⟨gk, _, none⟩) lk1).trans e1
                    have HML : Hid (M.length ≤ 10000) := by have := HD.out.len; have := HLK.out.fine.small; show _ ≤ _; omega
                    obtain ⟨q, hq⟩ : ∃ q, q = anyK L k0 k1 := ⟨_, rfl⟩
                    have HQA : Hid (∀ X : Later W0, Calls Tryd.prog 14 #[.pointer (some ⟨b, 0, none⟩), .string k0, .string k1] X.1 fun e w' => e = .returned (.bool q) ∧ ∃ Y : Later W0, w' = Y.1) := fun X => later_call (by rw [hq]; exact pin_any (PIN.out.keep X.2) k0 k1)
                    have HQR : Hid (∀ X : Later W0, Calls Tryd.prog 15 #[.pointer (some ⟨d, 0, none⟩), .string k0, .string k1] X.1 fun e w' => e = .returned (.bool q) ∧ ∃ Y : Later W0, w' = Y.1) := fun X => later_same (by rw [hq, ← anyK_perm HD.out.perm]; exact pin_rany (PIN.out.keep X.2) HML.out k0 k1)
                    have hqq : (q != q) = false := by simp
                    have hk1i : (1 : Int) < (kn : Int) := by omega
                    have hk0i : (0 : Int) < (kn : Int) := by omega
                    have hk0n : 0 < kn := by omega
                    clear hk0 hk1' e0 e1 lk0 lk1 hq
                    go_upto_region 21 with fail
                    refine wp_region_later (by kernel_rfl) (by kernel_rfl) ?_
                    iterate 27 (with_reducible refine wpQuiet_step (fun K hK => ?_); go_simp; first | (refine hK _ ?_; clear hK K) | (apply Exists.intro; refine ⟨fun _ => ?_, hK _ ?_⟩; (first | (go_at_call 14; with_reducible exact HQA.out _) | (go_at_call 15; with_reducible exact HQR.out _)); clear hK K))
                    with_reducible refine wpQuiet_nil ?_
                    intro X
                    go_wp2_with fail
                    go_meet
                    exact ⟨_, _, HD.out, PIN.out.keep X.2⟩
                  · have hk1i : decide (1 < kn) = false := by simpa using hk1
                    have hk2i : decide ((1 : Int) < (kn : Int)) = false := by simp; omega
                    clear hk1
                    go_upto_region 21 with fail
                    refine wp_region_later (by kernel_rfl) (by kernel_rfl) ?_
                    iterate 27 (with_reducible refine wpQuiet_step (fun K hK => ?_); go_simp; first | (refine hK _ ?_; clear hK K) | (rw [if_neg (by decide)]; refine hK _ ?_; clear hK K))
                    with_reducible refine wpQuiet_nil ?_
                    intro X
                    go_wp2_with fail
                    go_meet
                    exact ⟨_, _, HD.out, PIN.out.keep X.2⟩
                | false =>
                  go_wp2_with fail
                  go_meet
                  exact ⟨_, _, HD.out, PIN.out⟩
        case rest => as_aux_lemma =>
          obtain ⟨M1, L1, hD1, hp1⟩ := hcut
          have HD1 := Lib.hid hD1
          have PN := Lib.hid hp1
          clear hD1 hp1 c0 c1 c2 cl PIN HD HLK HDK HDZ
          obtain ⟨wz, hwz⟩ : ∃ z, z = wc := ⟨_, rfl⟩
          rw [← hwz] at PN ⊢
          clear hwz
          obtain ⟨c0, c1, c2, cl⟩ := pin_c PN.out
          obtain ⟨lk, hlk⟩ : ∃ z, z = (keysOf L1 x.who).length := ⟨_, rfl⟩
          have HLKN := Lib.hid hlk
          have HLE : Hid ((lk : Int) ≤ 10000) := by have := keysOf_le PN.out.lk x.who; show _ ≤ _; omega
          have HK1 := Lib.hid (pin_keys PN.out x.who)
          rw [← hlk] at HK1
          have HK2 : Hid (∀ W, PlIn w b m d d xb x ka kc M1 L1 W → Calls Tryd.prog 17 #[.pointer (some ⟨d, 0, none⟩), .int .i64 x.who] W fun e W' => ∃ a cap, e = .returned (.slice a lk cap) ∧ StrsAt W' a (keysOf L1 x.who) ∧ Below W.heap.size W W') := fun W hW => by
            have := pin_rkeys hW HD1.out x.who
            rw [← hlk] at this
            exact this
          clear hlk
          go_wp2_with fail
          refine HK1.out.mono ?_
          rintro e w7 ⟨ax, cx, rfl, hsx, hb⟩
          have PN7 := Lib.hid (PN.out.keep hb)
          have HSX := Lib.hid hsx
          clear hsx hb HK1 c0 c1 c2 cl
          obtain ⟨c0, c1, c2, cl⟩ := pin_c PN7.out
          go_wp2_with fail
          refine (HK2.out _ PN7.out).mono ?_
          rintro e w8 ⟨ay, cy, rfl, hsy, hb⟩
          have PN8 := Lib.hid (PN7.out.keep hb)
          have HSX8 := Lib.hid (LiesAt.below HSX.out hb)
          have HSY8 := Lib.hid hsy
          clear hsy hb c0 c1 c2 cl HK2
          obtain ⟨da, dc, hd0, hdl⟩ := pin_dc PN8.out
          obtain ⟨q, hq⟩ : ∃ z, z = L1.length := ⟨_, rfl⟩
          have hML : M1.length = q := by rw [hq]; exact HD1.out.len
          rw [hML] at hd0
          have HC0 : ∀ X : Later w8, X.1.cell? ⟨d, 0, none⟩ = some (.slice da q dc) := fun X => (X.2.cell (p := ⟨d, 0, none⟩) hdl).trans hd0
          have HMY : Hid (∀ X : Later w8, Calls Tryd.prog 18 #[.pointer (some ⟨b, 0, none⟩)] X.1 fun e w' => e = .returned (.int .i64 (q : Int)) ∧ ∃ Y : Later w8, w' = Y.1) := fun X => later_same (by rw [hq]; exact many_any b m L1 X.1 (PN8.out.keep X.2).lk.at_)
          have HSM : Hid (∀ X : Later w8, Calls Tryd.prog 19 #[.slice ax lk cx, .slice ay lk cy] X.1 fun e w' => e = .returned (.bool true) ∧ ∃ Y : Later w8, w' = Y.1) := fun X => later_call (samekeys_any ax ay lk cx cy (keysOf L1 x.who) X.1 (LiesAt.below HSX8.out X.2) (LiesAt.below HSY8.out X.2) HLKN.out HLE.out)
          have here := Later.here w8
          clear hML hq hd0 hdl
          go_upto_region 25 with fail
          refine wp_region_later (by kernel_rfl) (by kernel_rfl) ?_
          iterate 14 (with_reducible refine wpQuiet_step (fun K hK => ?_); go_simp; first | (refine hK _ ?_; clear hK K) | (apply Exists.intro; refine ⟨fun _ => ?_, hK _ ?_⟩; (first | (go_at_call 18; with_reducible exact HMY.out _) | (go_at_call 19; with_reducible exact HSM.out _)); clear hK K))
          with_reducible refine wpQuiet_nil ?_
          intro X
          have PX := Lib.hid (PN8.out.keep X.2)
          clear HC0 HMY HSM here
          obtain ⟨w9, hw9⟩ : ∃ z, z = X.1 := ⟨_, rfl⟩
          rw [← hw9] at PX ⊢
          clear hw9
          obtain ⟨c0, c1, c2, cl⟩ := pin_c PX.out
          obtain ⟨kn, hkn⟩ : ∃ z, z = x.keys.length := ⟨_, rfl⟩
          have HKN := Lib.hid hkn
          rw [← hkn] at c2
          have hkl : (kn : Int) ≤ 5000 := by have := HKL.out; omega
          have HNX : Hid (∃ M L, Doc M L ∧ LkSt w b m L w9 ∧ (∃ v, DkAt w9 d d v M) ∧ d ≤ w9.heap.size) := ⟨M1, L1, HD1.out, PX.out.lk, PX.out.doc, PX.out.size⟩
          clear hkn
          go_wp2_with fail
          go_loop [13] (fun i => ∃ q : Nat, q ≤ kn ∧ i = .int .i64 q) (fun i => kn - (intOf i).toNat)
          case atStart => exact ⟨0, by omega, rfl⟩
          case round => as_aux_lemma =>
            obtain ⟨r, hr, rfl⟩ := hrel
            by_cases hlr : r < kn
            · obtain ⟨k, hk⟩ : ∃ k, x.keys[r]? = some k := ⟨_, List.getElem?_eq_getElem (by rw [← HKN.out]; exact hlr)⟩
              obtain ⟨gk, ok, rfl, lk0, e0⟩ := StrsAt.cell (LiesAt.below HKS.out PX.out.lk.below) hk
              have HA := Lib.hid (pin_holder PX.out k)
              have HB := Lib.hid (pin_rholder PX.out HD1.out k)
              have hr0 : (0 : Int) ≤ (r : Int) := by omega
              have hr1 : (r : Int) < (kn : Int) := by omega
              obtain ⟨hi, hhi⟩ : ∃ z, z = heldI L1 k := ⟨_, rfl⟩
              obtain ⟨hbb, hhb⟩ : ∃ z, z = heldB L1 k := ⟨_, rfl⟩
              rw [← hhi, ← hhb] at HA HB
              have t1 : (hi != hi) = false := by simp
              have t2 : (hbb != hbb) = false := by simp
              clear hk lk0 hhi hhb
              go_wp2_with fail
              refine HA.out.mono ?_
              rintro e w9' ⟨rfl, rfl⟩
              go_wp2_with fail
              refine HB.out.mono ?_
              rintro e w9' ⟨rfl, rfl⟩
              go_wp2_with fail
              exact ⟨⟨r + 1, by omega, by simp⟩, by simp [intOf]; omega⟩
            · obtain rfl : r = kn := by omega
              go_wp2_with fail
              exact ⟨⟨j + 1, by omega, by simp, HNX⟩, by simp [intOf]; omega⟩
      · obtain rfl : n = j := by omega
        have HB := Lib.hid HLK.out.below
        clear HLK HDK
        go_wp2_with fail
        go_ret
        exact ⟨rfl, HB.out⟩
end Go.Proofs.YtfojgghnkjmjhaaDoor.Locks
