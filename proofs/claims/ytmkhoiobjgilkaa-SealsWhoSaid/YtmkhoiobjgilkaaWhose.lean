/- Seals: the law of Who, walked. -/
import Derived.Test.YtmkhoiobjgilkaaLaws
import Derived.Test.YtmkhoiobjgilkaaNames
namespace Go.Proofs.Ytmkhoiobjgilkaa
open Go.RowKit Go.My

theorem sign_new {l : Seals} {who d : Int} (h1 : okB who d = true) (h2 : signedB l who d = false) : (signS l who d).length = l.length + 1 := by
  unfold signS
  rw [if_pos h1]
  have : aget l (who, d) = none := by unfold signedB at h2; cases h : aget l (who, d) with | none => rfl | some x => rw [h] at h2; simp at h2
  exact length_aput_none _ this
theorem sign_old {l : Seals} {who d : Int} (h2 : okB who d = false ∨ signedB l who d = true) : (signS l who d).length = l.length := by
  unfold signS
  split
  · rename_i h1
    rcases h2 with h | h
    · rw [h] at h1; cases h1
    · refine length_aput_some _ ?_
      unfold signedB at h
      intro hn
      rw [hn] at h
      simp at h
  · rfl
theorem whoL_split (l : Seals) (g d : Int) (k : Nat) : whoL l g d = whoK l g d k ++ (nums.drop k).filter (whoP l g d) := by
  unfold whoL whoK
  rw [← List.filter_append, List.take_append_drop]
theorem whoK_ge {l : Seals} {g d : Int} {k : Nat} (h : 10 ≤ k) : whoK l g d k = whoL l g d := by
  unfold whoK whoL
  rw [List.take_of_length_le (by simpa [nums] using h)]
theorem whoK_skip {l : Seals} {g d : Int} {k : Nat} (hg : whoP l g d k = false) : whoK l g d (k + 1) = whoK l g d k := by
  rcases Nat.lt_or_ge k 10 with h | h
  · exact whoK_no h hg
  · rw [whoK_ge h, whoK_ge (by omega)]
theorem whoK_at {l : Seals} {g d : Int} {k : Nat} (h : k < 10) (hg : whoP l g d k = true) : (whoL l g d)[(whoK l g d k).length]? = some (k : Int) := by
  rw [whoL_split l g d (k + 1), whoK_yes h hg, List.append_assoc]
  simp
theorem mem_ten {g : Int} {k : Nat} (h : 0 ≤ mem g k) : k < 10 := by
  unfold mem at h
  split at h
  · omega
  · simp at h
theorem row_open {w : World} {base : Nat} {e : TypeId} {v : Value} {n : Nat} {xs : List Value} (h : w.ownsRow base e 1 v n xs) :
    ∃ a cap, v = .slice a n cap ∧ ∀ i x, xs[i]? = some x → ∃ g, a = some ⟨g, 0, none⟩ ∧ g < w.heap.size ∧ w.cell? ⟨g, i, none⟩ = some x := by
  obtain ⟨hl, h⟩ := h
  rcases h with ⟨rfl, rfl⟩ | ⟨g, cap, cur, rfl, _, hg, hn, _, hc, ht⟩
  · refine ⟨none, 0, rfl, fun i x hx => ?_⟩
    have : i < xs.length := (List.getElem?_eq_some_iff.1 hx).1
    omega
  · refine ⟨some ⟨g, 0, none⟩, cap, rfl, fun i x hx => ⟨g, rfl, (Array.getElem?_eq_some_iff.1 hg).1, ?_⟩⟩
    have hi : i < xs.length := (List.getElem?_eq_some_iff.1 hx).1
    rw [cell_of_row w g i _ _ _ hg]
    rw [← ht, List.getElem?_take] at hx
    split at hx
    · simpa using hx
    · cases hx

def CntRel (w : World) (b m : Nat) (k : Nat) (n : Value) (wr : World) : Prop :=
  ∃ l : Seals, l.length ≤ k ∧ n = .int .i64 (l.length : Nat) ∧ SealsAt wr b m l ∧ Below w.heap.size w wr
def ManyRel (w : World) (l : Seals) (g d : Int) (k : Nat) (n : Value) (wr : World) : Prop :=
  n = .int .i64 ((whoK l g d k).length : Nat) ∧ Below w.heap.size w wr

set_option maxRecDepth 100000 in
theorem whose_long (a : Option Addr) (len : Nat) (cap : Nat) (g d : Int) (w : World) (hl : 200 < len) :
    Calls Try.prog 5 #[.slice a len cap, .int .i64 g, .int .i64 d] w fun e w' => e = .returned (.bool true) ∧ Below w.heap.size w w' := by
  go_enter Try.func5, Try.ntmps5
  go_wp2_with (go_at_call 7; refine (head_any _).mono ?_; rintro e w1 ⟨rfl, hb1⟩; have B1 := Lib.hid hb1; clear hb1)
  refine (new_any _).mono ?_
  rintro e w2 ⟨b, m, rfl, hs, hb, hI⟩
  have B2 := Lib.hid hb
  clear hs hb hI
  go_wp2_with fail
  go_ret
  exact ⟨rfl, B1.out.trans (B2.out.mono B1.out.size)⟩

set_option maxRecDepth 100000 in
set_option maxHeartbeats 3200000 in
theorem whose_law (a : Option Addr) (ops : List Op3) (cap : Nat) (g d : Int) (w : World) (ha : OpsAt w a ops) (hl : ops.length ≤ 200) :
    Calls Try.prog 5 #[.slice a ops.length cap, .int .i64 g, .int .i64 d] w fun e w' => e = .returned (.bool true) ∧ Below w.heap.size w w' := by
  obtain ⟨len, hlen⟩ : ∃ len, len = ops.length := ⟨_, rfl⟩
  rw [← hlen] at hl ⊢
  have HA := Lib.hid ha
  have HL := Lib.hid hlen
  clear ha hlen
  go_enter Try.func5, Try.ntmps5
  go_wp2_with (go_at_call 7; refine (head_any _).mono ?_; rintro e w1 ⟨rfl, hb1⟩; have B1 := Lib.hid hb1; clear hb1)
  refine (new_any _).mono ?_
  rintro e w2 ⟨b, m, rfl, hs, hb, hI⟩
  have H2 := Lib.hid hs
  have B2 := Lib.hid hb
  have HI := Lib.hid hI
  clear hs hb hI
  go_wp2_with fail
  go_loopw [9, 10] (fun n i wr => ∃ k : Nat, k ≤ len ∧ i = .int .i64 k ∧ CntRel w b m k n wr) (fun _ i _ => len - (intOf i).toNat)
  case atStart => exact ⟨0, by omega, rfl, [], by simp, rfl, H2.out, B1.out.trans (B2.out.mono B1.out.size)⟩
  case round =>
    obtain ⟨k, hk, rfl, l, hll, rfl, hs, hb⟩ := hrel
    have HS := Lib.hid hs
    have HB := Lib.hid hb
    clear hs hb
    by_cases hlt : k < len
    · have hok : ops[k]? = some (ops[k]'(by rw [← HL.out]; exact hlt)) := List.getElem?_eq_getElem _
      obtain ⟨o, ho⟩ : ∃ o, o = ops[k]'(by rw [← HL.out]; exact hlt) := ⟨_, rfl⟩
      rw [← ho] at hok
      obtain ⟨hn, ab, off, rfl, hbl, d0, d1, d2⟩ := HA.out k o hok
      have HN := Lib.hid hn
      have cells : ∀ W : World, Below w.heap.size w W → (W.cell? ⟨ab, off + k * 3 + 1, none⟩ = some (.int .i64 o.who) ∧ W.cell? ⟨ab, off + k * 3 + 2, none⟩ = some (.int .i64 o.d)) := by
        intro W hW
        have ht : ∀ j, W.cell? ⟨ab, j, none⟩ = w.cell? ⟨ab, j, none⟩ := fun j => hW.cell hbl
        rw [ht, ht]
        exact ⟨d1, d2⟩
      have HC := Lib.hid cells
      clear hok ho hn hbl d0 d1 d2 cells
      obtain ⟨c1, c2⟩ := HC.out _ HB.out
      go_wp2_with fail
      refine wp_region_tail 11 (by kernel_rfl) (by kernel_rfl) ?_
      simp only [List.take_succ_cons, List.take_zero, List.drop_succ_cons, List.drop_zero]
      repeat still_step
      refine wpStill_nil ?_
      go_wp2_with fail
      refine (signed_any b m l o.who o.d _ (HS.out.below (Below.refl _ _).drew)).mono ?_
      rintro e w3 ⟨rfl, hb3⟩
      have HB3 := Lib.hid (HB.out.drew.trans (hb3.mono HB.out.drew.size))
      have HS3 := Lib.hid ((HS.out.below (Below.refl _ _).drew).below hb3)
      clear hb3 c1 c2
      obtain ⟨c1, c2⟩ := HC.out _ HB3.out
      go_wp2_with fail
      refine wp_region_tail 11 (by kernel_rfl) (by kernel_rfl) ?_
      simp only [List.take_succ_cons, List.take_zero, List.drop_succ_cons, List.drop_zero]
      repeat still_step
      refine wpStill_nil ?_
      go_wp2_with fail
      refine (sign_any b m l o.who o.d _ (HS3.out.below (Below.refl _ _).drew) HN.out (by omega)).mono ?_
      rintro e w4 ⟨rfl, hs4, ht4⟩
      have HB4 := Lib.hid (wrote_below HB3.out.drew ht4 (Nat.le_trans B1.out.size HI.out))
      have HR : Hid (CntRel w b m (k + 1) (.int .i64 ((signS l o.who o.d).length : Nat)) w4) := ⟨_, by have := length_sign l o.who o.d; omega, rfl, hs4, HB4.out⟩
      clear hs4 ht4 c1 c2
      cases hok : okB o.who o.d with
      | false =>
        have e1 := sign_old (l := l) (.inl hok)
        rw [e1] at HR
        have HE : Hid (errOf o.who false = wrapV ⟨#[115, 101, 97, 108, 115]⟩ o.who 1) := rfl
        rw [HE.out]
        unfold wrapV
        clear e1 hok HE
        generalize Value.agg #[.string ⟨#[115, 101, 97, 108, 115]⟩, .int .i64 o.who, .iface 47 (.int .i64 1)] = z
        go_wp2_with fail
        exact ⟨⟨k + 1, by omega, by simp, HR.out⟩, by simp [intOf]; omega⟩
      | true =>
        have HE : Hid (errOf o.who true = .nilIface) := rfl
        rw [HE.out]
        clear HE
        cases hsx : signedB l o.who o.d with
        | true =>
          have e1 := sign_old (l := l) (who := o.who) (d := o.d) (.inr hsx)
          rw [e1] at HR
          clear e1 hok hsx
          go_wp2_with fail
          exact ⟨⟨k + 1, by omega, by simp, HR.out⟩, by simp [intOf]; omega⟩
        | false =>
          have e1 := sign_new hok hsx
          rw [e1] at HR
          clear e1 hok hsx
          go_wp2_with fail
          exact ⟨⟨k + 1, by omega, by simp, HR.out⟩, by simp [intOf]; omega⟩
    · go_wp2_with fail
      refine (who_any b m l g d _ HS.out).mono ?_
      rintro e w3 ⟨v, rfl, hrow, hb3⟩
      have HS3 := Lib.hid (HS.out.below hb3)
      have HB3 := Lib.hid (HB.out.trans (hb3.mono HB.out.size))
      obtain ⟨va, vc, rfl, hcells⟩ := row_open hrow
      have HV := Lib.hid hcells
      obtain ⟨nn, hnn⟩ : ∃ nn, nn = (whoL l g d).length := ⟨_, rfl⟩
      have HNN := Lib.hid hnn
      have hn10 : nn ≤ 10 := by rw [hnn, ← whoK_ge (Nat.le_refl 10)]; exact whoK_len l g d 10
      rw [← hnn]
      clear hrow hb3 hcells hnn
      go_wp2_with fail
      go_loopw [14, 15] (fun n i wr => ∃ k : Nat, k ≤ 12 ∧ i = .int .i64 k ∧ ManyRel w3 l g d k n wr) (fun _ i _ => 12 - (intOf i).toNat)
      case atStart => exact ⟨0, by omega, rfl, rfl, Below.refl _ _⟩
      case round =>
        obtain ⟨j, hj, rfl, rfl, hb⟩ := hrel
        have HW := Lib.hid hb
        clear hb
        have hlen := whoK_len l g d j
        by_cases hjt : j < 12
        · have HM := Lib.hid (member_any g (j : Int))
          obtain ⟨q, hq⟩ : ∃ q, q = mem g (j : Int) := ⟨_, rfl⟩
          have HP : Hid (whoP l g d j = (decide (0 ≤ q) && signedB l q d)) := by show _ = _; rw [hq]; rfl
          have HT : Hid (0 ≤ q → j < 10) := by show _ → _; rw [hq]; exact mem_ten
          rw [← hq] at HM
          clear hq
          by_cases hq0 : q < 0
          · have HX : Hid (ManyRel w3 l g d (j + 1) (.int .i64 ((whoK l g d j).length : Nat)) wr) := ⟨by rw [whoK_skip (by rw [HP.out]; simp; omega)], HW.out⟩
            go_wp2_with (go_at_call 10; refine (HM.out _).mono ?_; rintro e w' ⟨rfl, rfl⟩)
            exact ⟨⟨j + 1, by omega, by simp, HX.out⟩, by simp [intOf]; omega⟩
          · have hq1 : 0 ≤ q := by omega
            have HSG := Lib.hid (signed_any b m l q d wr (HS3.out.below HW.out))
            cases hs : signedB l q d with
            | false =>
              have HX : Hid (∀ W, Below wr.heap.size wr W → ManyRel w3 l g d (j + 1) (.int .i64 ((whoK l g d j).length : Nat)) W) := fun W hW => ⟨by rw [whoK_skip (by rw [HP.out, hs]; simp)], HW.out.trans (hW.mono HW.out.size)⟩
              rw [hs] at HSG
              clear hs
              go_wp2_with (first | (go_at_call 10; refine (HM.out _).mono ?_; rintro e w' ⟨rfl, rfl⟩) | (go_at_call 16; refine HSG.out.mono ?_; rintro e w1 ⟨rfl, hb⟩; have HBB := Lib.hid hb; clear hb))
              exact ⟨⟨j + 1, by omega, by simp, HX.out _ HBB.out⟩, by simp [intOf]; omega⟩
            | true =>
              have hj10 := HT.out hq1
              have hp : whoP l g d j = true := by rw [HP.out, hs]; simp; omega
              have hat := whoK_at hj10 hp
              have hatv : ((whoL l g d).map i64)[(whoK l g d j).length]? = some (.int .i64 (j : Int)) := by rw [List.getElem?_map, hat]; rfl
              have hqn : (whoK l g d j).length < nn := by rw [HNN.out]; exact (List.getElem?_eq_some_iff.1 hat).1
              obtain ⟨gb, rfl, hgb, hcell⟩ := HV.out _ _ hatv
              have HX : Hid (∀ W, Below wr.heap.size wr W → ManyRel w3 l g d (j + 1) (.int .i64 ((whoK l g d j).length + 1 : Nat)) W) := fun W hW => ⟨by rw [whoK_yes hj10 hp]; simp, HW.out.trans (hW.mono HW.out.size)⟩
              have HCE : Hid (∀ W, Below wr.heap.size wr W → W.cell? ⟨gb, (whoK l g d j).length, none⟩ = some (.int .i64 (j : Int))) := fun W hW => ((HW.out.trans (hW.mono HW.out.size)).cell (p := ⟨gb, _, none⟩) hgb).trans hcell
              rw [hs] at HSG
              clear hs hp hat hatv hcell hgb
              obtain ⟨c, hc⟩ : ∃ c, c = (whoK l g d j).length := ⟨_, rfl⟩
              rw [← hc] at HX HCE hqn hlen ⊢
              clear hc
              go_wp2_with (go_at_call 10; refine (HM.out _).mono ?_; rintro e w' ⟨rfl, rfl⟩)
              refine HSG.out.mono ?_
              rintro e w5 ⟨rfl, hb⟩
              have HBB := Lib.hid hb
              clear hb
              have ce := HCE.out _ HBB.out
              go_wp2_with fail
              exact ⟨⟨j + 1, by omega, by simp, HX.out _ HBB.out⟩, by simp [intOf]; omega⟩
        · have hj12 : j = 12 := by omega
          have hwn : (whoK l g d j).length = nn := by rw [HNN.out, whoK_ge (by omega)]
          rw [hwn] at hlen ⊢
          clear hwn hj12
          go_wp2_with (go_at_call 18; refine (many_any b m l _ (HS3.out.below HW.out)).mono ?_; rintro e w' ⟨rfl, rfl⟩)
          go_ret
          exact ⟨rfl, HB3.out.trans (HW.out.mono HB3.out.size)⟩
end Go.Proofs.Ytmkhoiobjgilkaa
