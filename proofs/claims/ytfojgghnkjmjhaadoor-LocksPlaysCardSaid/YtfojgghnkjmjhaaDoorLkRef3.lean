/- Locks: the document's Lock, in memory. -/
import Derived.Test.YtfojgghnkjmjhaaDoorLkRef2
namespace Go.Proofs.YtfojgghnkjmjhaaDoor.Locks
open Go.RowKit Go.My

def stepV : Option (Int × Int) → Value
  | none => .tuple #[.int .i64 0, .agg #[.string ⟨#[]⟩, .int .i64 0]]
  | some (n, a) => .tuple #[.int .i64 n, .agg #[.string ⟨#[108, 111, 99, 107]⟩, .int .i64 a]]
def DkLock (w : World) (base d : Nat) (M L : LMap) (who : Int) (keys : List ByteArray) (e : Ending) (w' : World) : Prop :=
  e = .returned (stepV (lockE L who keys)) ∧ (∃ v', DkAt w' base d v' (lockM M L who keys)) ∧ Wrote [d] w w'
theorem len_putM (x : ByteArray × Int) : ∀ M : LMap, (putM M x).length ≤ M.length + 1
  | [] => by simp [putM]
  | p :: r => by
    unfold putM
    have := len_putM x r
    split
    · simp only [List.length_cons]; omega
    · split <;> simp only [List.length_cons] <;> omega
theorem len_putsM (M : LMap) (who : Int) (f : List ByteArray) : (putsM M f who).length ≤ M.length + f.length := by
  induction f using snoc_ind with
  | nil => exact Nat.le_refl _
  | snoc f x ih =>
    rw [putsM_snoc, List.length_append]
    have := len_putM (x, who) (putsM M f who)
    simp only [List.length_cons, List.length_nil]
    omega
structure DlRel (w : World) (base d tb : Nat) (M L : LMap) (who : Int) (keys : List ByteArray) (v : Value) (j : Nat) (wr : World) : Prop where
  t : ∃ vt, DkAt wr base tb vt (putsM M (keys.take j) who)
  dk : DkAt wr base d v M
  step : wr.heap[w.heap.size]? = some (.cells #[.string ⟨#[]⟩, .int .i64 0] 39 (0, 0))
  below : Below w.heap.size w wr
  good : ∀ q, q < j → ∀ x, keys[q]? = some x → badK L who x = none
  tw : w.heap.size < tb
section
variable {w wr w1 : World} {base d tb j : Nat} {M L : LMap} {who n at_ : Int} {keys : List ByteArray} {v v1 : Value} {x : ByteArray}
theorem DlRel.keep (h : DlRel w base d tb M L who keys v j wr) (hb : Below wr.heap.size wr w1) : DlRel w base d tb M L who keys v j w1 := by
  obtain ⟨vt, ht⟩ := h.t
  exact ⟨⟨vt, ht.below hb⟩, h.dk.below hb, (hb.block _ (lt_of_heap h.step)).trans h.step, h.below.trans (hb.mono h.below.size), h.good, h.tw⟩
theorem DlRel.next (h : DlRel w base d tb M L who keys v j wr) (hd : d < w.heap.size) (hx : keys[j]? = some x) (hb : badK L who x = none) (ht : ∃ v1, DkAt w1 base tb v1 (putM (putsM M (keys.take j) who) (x, who))) (hw : Wrote [tb] wr w1) : DlRel w base d tb M L who keys v (j + 1) w1 := by
  obtain ⟨vt, ht0⟩ := h.t
  have htw := h.tw
  refine ⟨?_, h.dk.other hw (by simp; omega) fun g hg hm => ?_, hw.heap h.step (by simp; omega), h.below.trans (hw.below h.below.size fun k hk => by simp at hk; omega), fun q hq y hy => ?_, h.tw⟩
  · obtain ⟨v1, h1⟩ := ht
    refine ⟨v1, ?_⟩
    rw [take_snoc' hx, putsM_snoc]
    exact h1
  · have e : g = tb := by simpa using hm
    subst e
    obtain ⟨_, cur, hc⟩ := row_block h.dk.row hg
    rw [ht0.blk] at hc
    cases hc
  · by_cases e : q = j
    · subst e
      rw [hx] at hy
      cases hy
      exact hb
    · exact h.good q (by omega) y hy
theorem dl_err (h : DkAt w base d v M) (hb : Below w.heap.size w wr) (he : lockE L who keys = some (n, at_)) (s1 : Addr) (u1 : Value) (s2 : Addr) (u2 : Value) (h1 : w.heap.size ≤ s1.block) (h2 : w.heap.size ≤ s2.block) :
    DkLock w base d M L who keys (.returned (.tuple #[.int .i64 n, .agg #[.string ⟨#[108, 111, 99, 107]⟩, .int .i64 at_]])) ((wr.setCell s1 u1).setCell s2 u2) := by
  have hb2 : Below w.heap.size w ((wr.setCell s1 u1).setCell s2 u2) := (hb.setCell h1 u1).setCell h2 u2
  refine ⟨by rw [he]; rfl, ⟨v, ?_⟩, Wrote.of_below hb2⟩
  unfold lockM
  rw [if_neg (by rw [he]; simp)]
  exact h.below hb2
theorem dl_bad (h : DlRel w base d tb M L who keys v j wr) (h0 : 0 ≤ who) (hx : keys[j]? = some x) (hb : badK L who x = some n) : lockE L who keys = some (n, (j : Int)) := by
  unfold lockE
  rw [if_neg (by omega), firstBad_at keys 0 j x n h.good hx hb]
  simp
theorem dl_ok {v2 : Value} {T : LMap} (h : DlRel w base d tb M L who keys v j wr) (hd : d < w.heap.size) (hbd : base ≤ d) (ht : DkAt wr base tb v2 T) (s1 : Addr) (u1 : Value) (s2 : Addr) (u2 : Value) (h1 : s1.block = w.heap.size) (h2 : s2.block = w.heap.size) :
    DkAt (((wr.setCell ⟨d, 0, none⟩ v2).setCell s1 u1).setCell s2 u2) base d v2 T ∧ Wrote [d] w (((wr.setCell ⟨d, 0, none⟩ v2).setCell s1 u1).setCell s2 u2) := by
  have hw2 : Wrote [w.heap.size] (wr.setCell ⟨d, 0, none⟩ v2) (((wr.setCell ⟨d, 0, none⟩ v2).setCell s1 u1).setCell s2 u2) :=
    ((Wrote.refl _ _).setCell (.inl (by simp [h1])) u1).setCell (.inl (by simp [h2])) u2
  have hw1 : Wrote [d] wr (wr.setCell ⟨d, 0, none⟩ v2) := (Wrote.refl [d] wr).setCell (.inl (List.mem_singleton.2 rfl)) _
  have hb := heap_setCell_same wr d 0 _ _ v2 h.dk.blk
  refine ⟨⟨hw2.heap hb (by simp; omega), ?_, hbd⟩, ?_⟩
  · refine row_wrote (row_wrote ht.row hw1 fun g hg hm => ?_) hw2 fun g hg hm => ?_
    · obtain rfl : g = d := by simpa using hm
      obtain ⟨_, cur, hc⟩ := row_block ht.row hg
      rw [h.dk.blk] at hc
      cases hc
    · have e : g = w.heap.size := by simpa using hm
      subst e
      obtain ⟨_, cur, hc⟩ := row_block ht.row hg
      rw [h.step] at hc
      cases hc
  · have hA : Wrote [d] w (wr.setCell ⟨d, 0, none⟩ v2) := (Wrote.of_below h.below).trans hw1
    refine ((hA.mono (T := [d, w.heap.size]) fun k hk => by simp at hk; simp [hk]).trans (hw2.mono fun k hk => by simp at hk; simp [hk])).of_new fun k hk => ?_
    simp only [List.mem_cons, List.not_mem_nil, or_false] at hk
    rcases hk with rfl | rfl
    · exact .inl (by simp)
    · exact .inr (Nat.le_refl _)
end
set_option maxRecDepth 100000 in
set_option maxHeartbeats 12800000 in
theorem rlock_any (base d : Nat) (v : Value) (M L : LMap) (who : Int) (a : Option Addr) (cap : Nat) (keys : List ByteArray) (w : World) (h : DkAt w base d v M) (hD : Doc M L) (hF : Fine L) (hk : StrsAt w a keys) (hl : keys.length ≤ 5000) (hbase : base ≤ w.heap.size) :
    Calls Tryd.prog 8 #[.pointer (some ⟨d, 0, none⟩), .int .i64 who, .slice a keys.length cap] w (DkLock w base d M L who keys) := by
  obtain ⟨va, vcap, rfl, _⟩ := h.lies
  obtain ⟨vn, hvn⟩ : ∃ vn, vn = M.length := ⟨_, rfl⟩
  have HVN : Hid (vn = L.length) := by show _ = _; rw [hvn, hD.len]
  rw [← hvn] at h
  obtain ⟨v, hv⟩ : ∃ v, v = Value.slice va vn vcap := ⟨_, rfl⟩
  have HV := Lib.hid hv
  rw [← hv] at h
  clear hvn
  have H := Lib.hid h
  have HD := Lib.hid hD
  have HF := Lib.hid hF
  have HK := Lib.hid hk
  have HBASE := Lib.hid hbase
  have hdl : Hid (d < w.heap.size) := lt_of_heap h.blk
  obtain ⟨n, hn⟩ : ∃ n, n = keys.length := ⟨_, rfl⟩
  have HN := Lib.hid hn
  rw [← hn] at hl ⊢
  obtain ⟨W0, hW0⟩ : ∃ W0, W0 = w.alloc (.cells #[.string ⟨#[]⟩, .int .i64 0] 39) := ⟨_, rfl⟩
  have hr0 : W0.heap[w.heap.size]? = some (.cells #[.string ⟨#[]⟩, .int .i64 0] 39 (0, 0)) := by rw [hW0]; exact heap_alloc_new w _
  have hb0 : Below w.heap.size w W0 := by rw [hW0]; exact (Below.refl _ w).alloc (Nat.le_refl _) _
  have hs0 : W0.heap.size = w.heap.size + 1 := by rw [hW0]; simp
  have HST : Hid (∀ W : World, Below W0.heap.size W0 W → W.heap[w.heap.size]? = some (.cells #[.string ⟨#[]⟩, .int .i64 0] 39 (0, 0))) := fun W hW => (hW.block _ (lt_of_heap hr0)).trans hr0
  have HB0 := Lib.hid hb0
  have HS0 := Lib.hid hs0
  have HR0 := Lib.hid hr0
  obtain ⟨rb, hrb⟩ : ∃ rb, rb = w.heap.size := ⟨_, rfl⟩
  have HRB := Lib.hid hrb
  have HCL : Hid (∀ W : World, W.heap[rb]? = some (.cells #[.string ⟨#[]⟩, .int .i64 0] 39 (0, 0)) → W.cell? ⟨rb, 0, none⟩ = some (.string ⟨#[]⟩) ∧ W.cell? ⟨rb, 1, none⟩ = some (.int .i64 0) ∧ (∀ i, W.frozen? ⟨rb, i, none⟩ = false) ∧ rb < W.heap.size) := fun W hW => ⟨by rw [cell_of_row _ _ _ _ _ _ hW]; rfl, by rw [cell_of_row _ _ _ _ _ _ hW]; rfl, fun i => by simp [World.frozen?, hW], lt_of_heap hW⟩
  clear h hD hF hk hn hbase hr0 hb0 hs0
  by_cases hw : who < 0
  · have HE : Hid (lockE L who keys = some (1, -1)) := lockE_neg hw
    obtain ⟨r0, r1, fz, hlt⟩ := HCL.out W0 (by rw [hrb]; exact HR0.out)
    go_enter Tryd.func8, Tryd.ntmps8
    go_upto_region 1 with fail
    rw [← hW0, ← hrb]
    clear hW0 hrb
    go_wp2_with fail
    refine bodyPost_ret (v := .tuple #[.int .i64 1, .agg #[.string ⟨#[108, 111, 99, 107]⟩, .int .i64 (-1)]]) (by simp [results, Tryd.results8, go_sem, r0, r1]) rfl ?_
    exact dl_err H.out HB0.out HE.out _ _ _ _ (by have := HRB.out; simp; omega) (by have := HRB.out; simp; omega)
  · have HW0 : Hid (0 ≤ who) := by show _ ≤ _; omega
    have c0 : W0.cell? ⟨d, 0, none⟩ = some v := (H.out.below HB0.out).c0
    rw [hv] at c0
    clear hv
    go_enter Tryd.func8, Tryd.ntmps8
    go_upto_region 1 with fail
    rw [← hW0, ← hrb]
    clear hW0 hrb
    go_wp2_with fail
    rw [← HV.out]
    have P0 : Hid (∃ tb, W0.heap.size = tb ∧ DlRel w base d tb M L who keys v 0 (W0.alloc (.cells #[v] 29))) := by
      have hb1 : Below W0.heap.size W0 (W0.alloc (.cells #[v] 29)) := (Below.refl _ _).alloc (Nat.le_refl _) _
      refine ⟨_, rfl, ⟨v, heap_alloc_new W0 _, ?_, ?_⟩, ?_, (hb1.block _ (lt_of_heap HR0.out)).trans HR0.out, HB0.out.trans (hb1.mono HB0.out.size), fun q hq => absurd hq (by omega), by have := HS0.out; omega⟩
      · rw [List.take_zero]
        exact row_below (row_below H.out.row HB0.out) hb1
      · have := HBASE.out; have := HS0.out; omega
      · exact (H.out.below HB0.out).below hb1
    obtain ⟨tb, htb⟩ : ∃ tb, tb = W0.heap.size := ⟨_, rfl⟩
    obtain ⟨W1, hW1⟩ : ∃ W1, W1 = W0.alloc (.cells #[v] 29) := ⟨_, rfl⟩
    have P1 : Hid (DlRel w base d tb M L who keys v 0 W1) := by
      obtain ⟨tb', e, h⟩ := P0.out
      rw [hW1, htb, e]
      exact h
    rw [← htb, ← hW1]
    clear P0 hW1 htb c0
    go_loopw [9] (fun i wr => ∃ j : Nat, j ≤ n ∧ i = .int .i64 j ∧ Hid (DlRel w base d tb M L who keys v j wr)) (fun i _ => n - (intOf i).toNat)
    case atStart => exact ⟨0, by omega, rfl, P1⟩
    case round =>
      clear P1
      obtain ⟨j, hj, rfl, HR⟩ := hrel
      obtain ⟨r0, r1, fz, hrl⟩ := HCL.out wr (by rw [HRB.out]; exact HR.out.step)
      by_cases hlt : j < n
      · obtain ⟨x, hx⟩ : ∃ x, keys[j]? = some x := ⟨_, List.getElem?_eq_getElem (by rw [← HN.out]; exact hlt)⟩
        obtain ⟨g, o, rfl, hg, d0⟩ := HK.out.cell hx
        have c0 : wr.cell? ⟨g, o + j, none⟩ = some (.string x) := (HR.out.below.cell (p := ⟨g, _, none⟩) hg).trans d0
        have HX := Lib.hid hx
        have h0 : (0 : Int) ≤ (j : Int) := by omega
        have h1 : (j : Int) < (n : Int) := by omega
        clear hx hg d0
        by_cases hsz : 16 < x.size
        · have HE := Lib.hid (dl_bad (n := 1) HR.out HW0.out HX.out (by unfold badK; rw [if_pos hsz]))
          have hs1 : (16 : Int) < (x.size : Int) := by omega
          clear hsz
          go_wp2_with fail
          refine bodyPost_ret (v := .tuple #[.int .i64 1, .agg #[.string ⟨#[108, 111, 99, 107]⟩, .int .i64 (j : Int)]]) (by simp [results, Tryd.results8, go_sem, r0, r1]) rfl ?_
          exact dl_err H.out HR.out.below HE.out _ _ _ _ (by have := HRB.out; simp; omega) (by have := HRB.out; simp; omega)
        · have hs1 : ¬ (16 : Int) < (x.size : Int) := by omega
          have HHO := Lib.hid (rholder_any base d v M x wr HR.out.dk (by have := HD.out.len; have := HF.out.small; omega))
          have hh : heldI M x = heldI L x ∧ heldB M x = heldB L x := by unfold heldI heldB; rw [HD.out.aget]; exact ⟨rfl, rfl⟩
          rw [hh.1, hh.2] at HHO
          clear hh
          obtain ⟨vt, ht⟩ := HR.out.t
          have HPT := Lib.hid (rput_any base tb vt _ (x, who) wr ht (rise_putsM HD.out.rise who _) (by have := len_putsM M who (keys.take j); rw [List.length_take] at this; have := HD.out.len; have := HF.out.small; omega) (Nat.le_trans HBASE.out HR.out.below.size))
          clear ht
          have HNXT : Hid (badK L who x = none → ∀ e w1, DkUn wr base tb (putM (putsM M (keys.take j) who) (x, who)) e w1 → e = .returned (.tuple #[]) ∧ DlRel w base d tb M L who keys v (j + 1) w1) := fun hb e w1 ⟨h1, h2, h3⟩ => ⟨h1, HR.out.next hdl.out HX.out hb h2 h3⟩
          cases hg : aget L x with
          | some y =>
            have hh : heldI L x = y ∧ heldB L x = true := by unfold heldI heldB; rw [hg]; exact ⟨rfl, rfl⟩
            rw [hh.1, hh.2] at HHO
            by_cases hy : y = who
            · have HBD : Hid (badK L who x = none) := by show _ = _; unfold badK; rw [if_neg hsz, hg]; simp [hy]
              have hyb : (y != who) = false := by simp [hy]
              clear hg hy hsz hh
              go_wp2_with fail
              refine HHO.out.mono ?_
              rintro e w' ⟨rfl, rfl⟩
              go_wp2_with fail
              refine HPT.out.mono ?_
              intro e w3 he
              obtain ⟨rfl, hnx⟩ := HNXT.out HBD.out e w3 he
              have HNX := Lib.hid hnx
              clear he hnx
              go_wp2_with fail
              exact ⟨⟨j + 1, by omega, by simp, HNX⟩, by simp [intOf]; omega⟩
            · have HE := Lib.hid (dl_bad (n := 81) HR.out HW0.out HX.out (by unfold badK; rw [if_neg hsz, hg]; simp [hy]))
              have hyb : (y != who) = true := by simp [hy]
              clear hg hy hsz hh
              go_wp2_with fail
              refine HHO.out.mono ?_
              rintro e w' ⟨rfl, rfl⟩
              go_wp2_with fail
              refine bodyPost_ret (v := .tuple #[.int .i64 81, .agg #[.string ⟨#[108, 111, 99, 107]⟩, .int .i64 (j : Int)]]) (by simp [results, Tryd.results8, go_sem, r0, r1]) rfl ?_
              exact dl_err H.out HR.out.below HE.out _ _ _ _ (by have := HRB.out; simp; omega) (by have := HRB.out; simp; omega)
          | none =>
            have hh : heldI L x = -1 ∧ heldB L x = false := by unfold heldI heldB; rw [hg]; exact ⟨rfl, rfl⟩
            rw [hh.1, hh.2] at HHO
            have HBD : Hid (badK L who x = none) := by show _ = _; unfold badK; rw [if_neg hsz, hg]
            clear hg hsz hh
            go_wp2_with fail
            refine HHO.out.mono ?_
            rintro e w' ⟨rfl, rfl⟩
            go_wp2_with fail
            refine HPT.out.mono ?_
            intro e w3 he
            obtain ⟨rfl, hnx⟩ := HNXT.out HBD.out e w3 he
            have HNX := Lib.hid hnx
            clear he hnx
            go_wp2_with fail
            exact ⟨⟨j + 1, by omega, by simp, HNX⟩, by simp [intOf]; omega⟩
      · obtain rfl : n = j := by omega
        have HALL : Hid (∀ x ∈ keys, badK L who x = none) := fun x hx => by
          obtain ⟨q, hq⟩ := List.getElem?_of_mem hx
          exact HR.out.good q (by have := (List.getElem?_eq_some_iff.1 hq).1; have := HN.out; omega) x hq
        obtain ⟨vt, ht⟩ := HR.out.t
        rw [List.take_of_length_le (by have := HN.out; omega)] at ht
        obtain ⟨ta, tcap, rfl, _⟩ := ht.lies
        have HLEN : Hid ((putsM M keys who).length = L.length + (freshK L keys).length) := puts_len HD.out HF.out HALL.out
        have HLE : Hid (lockE L who keys = if 128 < L.length + (freshK L keys).length then some (71, (L.length : Int)) else none) := by
          show _ = _
          have := HW0.out
          conv => lhs; unfold lockE
          rw [if_neg (by omega), firstBad_none keys 0 HALL.out]
        have c0 := ht.c0
        have HT := Lib.hid ht
        obtain ⟨tn, htn⟩ : ∃ tn, tn = (putsM M keys who).length := ⟨_, rfl⟩
        rw [← htn] at HLEN c0
        have HTN := Lib.hid htn
        obtain ⟨fr, hfr⟩ : ∃ fr, fr = (freshK L keys).length := ⟨_, rfl⟩
        rw [← hfr] at HLEN HLE
        have hfr9 : fr ≤ 5000 := by rw [hfr]; have := (freshK_spec L keys).2.1; have := HN.out; omega
        have hll : L.length ≤ 128 := HF.out.small
        have htn9 : (tn : Int) ≤ 10000 := by have := HLEN.out; omega
        clear ht htn hfr
        by_cases hfull : 128 < L.length + fr
        · have HE : Hid (lockE L who keys = some (71, (L.length : Int))) := by show _ = _; rw [HLE.out, if_pos hfull]
          have hft : (128 : Int) < (tn : Int) := by have := HLEN.out; omega
          have k0 := HR.out.dk.c0
          rw [HV.out] at k0
          clear hfull
          have HD1 : Hid (Below w.heap.size w wr.drew) := HR.out.below.drew
          go_wp2_with fail
          refine wp_region_tail 7 (by kernel_rfl) (by kernel_rfl) ?_
          simp only [List.take_succ_cons, List.take_zero, List.drop_succ_cons, List.drop_zero]
          iterate 7 (with_reducible refine wpStill_step (fun K hK => ?_); go_simp; refine hK _ ?_; clear hK K)
          refine wpStill_nil ?_
          rw [HVN.out]
          go_wp2_with fail
          refine bodyPost_ret (v := .tuple #[.int .i64 71, .agg #[.string ⟨#[108, 111, 99, 107]⟩, .int .i64 (L.length : Int)]]) (by simp [results, Tryd.results8, go_sem, r0, r1]) rfl ?_
          exact dl_err H.out HD1.out HE.out _ _ _ _ (by have := HRB.out; simp; omega) (by have := HRB.out; simp; omega)
        · have hft : ¬ (128 : Int) < (tn : Int) := by have := HLEN.out; omega
          have HE : Hid (lockE L who keys = none) := by show _ = _; rw [HLE.out, if_neg hfull]
          have HOK : Hid (∀ u1 u2, DkLock w base d M L who keys (.returned (.tuple #[.int .i64 0, .agg #[.string ⟨#[]⟩, .int .i64 0]])) (((wr.setCell ⟨d, 0, none⟩ (.slice ta tn tcap)).setCell ⟨rb, 0, none⟩ u1).setCell ⟨rb, 1, none⟩ u2)) := fun u1 u2 => by
            have ht := HT.out
            rw [← HTN.out] at ht
            obtain ⟨h1, h2⟩ := dl_ok HR.out hdl.out H.out.bd ht ⟨rb, 0, none⟩ u1 ⟨rb, 1, none⟩ u2 HRB.out HRB.out
            refine ⟨by rw [HE.out]; rfl, ⟨.slice ta tn tcap, ?_⟩, h2⟩
            unfold lockM
            rw [if_pos HE.out]
            exact h1
          have k0 := HR.out.dk.c0
          rw [HV.out] at k0
          have kz : wr.frozen? ⟨d, 0, none⟩ = false := by simp [World.frozen?, HR.out.dk.blk]
          have kl := lt_of_heap HR.out.dk.blk
          have hne : ¬ d = rb := by have := hdl.out; have := HRB.out; omega
          have hne2 : ¬ rb = d := by have := hdl.out; have := HRB.out; omega
          clear hfull
          go_wp2_with fail
          refine bodyPost_ret (v := .tuple #[.int .i64 0, .agg #[.string ⟨#[]⟩, .int .i64 0]]) (by simp [results, Tryd.results8, go_sem, r0, r1]) rfl ?_
          exact HOK.out _ _
end Go.Proofs.YtfojgghnkjmjhaaDoor.Locks
