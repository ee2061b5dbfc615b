/- The model: the versions. -/
import Derived.Test.YtacdnpacpndekaaAsks
import Derived.Test.YtacdnpacpndekaaOrder
import Derived.WalkLawsBesides
import Derived.BigQuiet
namespace Go.Proofs.Ytacdnpacpndekaa
open Go.RowKit Go.My Go.My.Model Go.Deep
/-- the variable 'last' of a law, in the block b -/
structure LastIs (w3 wr : World) (b : Nat) (e : Ent) : Prop where
  row : wr.heap[b]? = some (.cells #[.string e.key, .string e.value, .int .i64 e.ver] 26 (0, 0))
  wrote : Wrote [b] w3 wr
def lastE (ws : List Wri) (L : List Ent) (key : ByteArray) (m : Nat) : Ent := if (L.take m).any (fun e => decide (e.key = key)) then entOf ws key else Model.ent0
theorem lastE_succ {ws : List Wri} {L : List Ent} {key : ByteArray} {m : Nat} {e : Ent} (h : L[m]? = some e) : lastE ws L key (m + 1) = if e.key = key then entOf ws key else lastE ws L key m := by
  unfold lastE
  rw [List.take_add_one, h]
  by_cases hk : e.key = key <;> simp [hk]
theorem Left3.cells {W0 w3 wr : World} {ra : Option Addr} {L : List Ent} {b : Nat} (h : Left3 W0 w3 ra L) (hw : Wrote [b] w3 wr) (hb : b < W0.heap.size) {i : Nat} {e : Ent} (hi : L[i]? = some e) :
    ∃ g, ra = some ⟨g, 0, none⟩ ∧ g ≠ b ∧ g < wr.heap.size ∧ wr.cell? ⟨g, i * 3, none⟩ = some (.string e.key) ∧ wr.cell? ⟨g, i * 3 + 1, none⟩ = some (.string e.value) ∧ wr.cell? ⟨g, i * 3 + 2, none⟩ = some (.int .i64 e.ver) := by
  obtain ⟨g, hg, h1, h2, h3⟩ := h.ent i e hi
  obtain ⟨d0, d1, d2⟩ := h3 w3 (Below.refl _ _)
  have hn : g ∉ [b] := by simp; omega
  have ce : ∀ j, wr.cell? ⟨g, j, none⟩ = w3.cell? ⟨g, j, none⟩ := fun j => hw.cell (p := ⟨g, j, none⟩) h2 hn
  exact ⟨g, hg, by omega, Nat.lt_of_lt_of_le h2 hw.size, (ce _).trans d0, (ce _).trans d1, (ce _).trans d2⟩
theorem LastIs.draw {w3 wr : World} {b : Nat} {e : Ent} (h : LastIs w3 wr b e) (n : Nat) : LastIs w3 (wr.drewN n) b e := ⟨h.row, h.wrote.drewN n⟩
theorem LastIs.put {w3 wr : World} {b : Nat} {e : Ent} (h : LastIs w3 wr b e) (x : Ent) :
    LastIs w3 (((wr.setCell ⟨b, 0, none⟩ (.string x.key)).setCell ⟨b, 1, none⟩ (.string x.value)).setCell ⟨b, 2, none⟩ (.int .i64 x.ver)) b x := by
  have h1 := heap_setCell_same _ b 0 _ _ (.string x.key) h.row
  have h2 := heap_setCell_same _ b 1 _ _ (.string x.value) h1
  have h3 := heap_setCell_same _ b 2 _ _ (.int .i64 x.ver) h2
  exact ⟨h3, ((h.wrote.setCell (.inl (List.mem_singleton.2 rfl)) _).setCell (.inl (List.mem_singleton.2 rfl)) _).setCell (.inl (List.mem_singleton.2 rfl)) _⟩
theorem lastE_end {ws : List Wri} {L : List Ent} {key : ByteArray} {k : Nat} (hk : k = L.length) (hme : ∀ e ∈ L, countK ws e.key ≠ 0 ∧ e = entOf ws e.key) (hmc : countK ws key ≠ 0 → entOf ws key ∈ L) :
    lastE ws L key k = if countK ws key = 0 then Model.ent0 else entOf ws key := by
  unfold lastE
  rw [List.take_of_length_le (by omega)]
  by_cases hc : countK ws key = 0
  · rw [if_pos hc, if_neg]
    simp only [List.any_eq_true, decide_eq_true_eq]
    rintro ⟨e, he, rfl⟩
    exact (hme e he).1 hc
  · rw [if_neg hc, if_pos]
    simp only [List.any_eq_true, decide_eq_true_eq]
    exact ⟨_, hmc hc, rfl⟩
theorem at_case {ws : List Wri} {key lk lv : ByteArray} {c : Nat} (v : Int) (hc : c = countK ws key) (hl : (if countK ws key = 0 then Model.ent0 else entOf ws key) = (⟨lk, lv, (c : Int)⟩ : Ent)) :
    (v < 1 ∧ atOk ws key v = false ∧ atEnt ws key v = Model.ent0) ∨ (1 ≤ v ∧ v < (c : Int) ∧ atOk ws key v = true ∧ ∃ x, atEnt ws key v = ⟨key, x, v⟩) ∨
      (1 ≤ v ∧ v = (c : Int) ∧ atOk ws key v = true ∧ atEnt ws key v = ⟨key, lv, v⟩ ∧ lk = key) ∨ (1 ≤ v ∧ (c : Int) < v ∧ atOk ws key v = false ∧ atEnt ws key v = Model.ent0) := by
  by_cases h1 : v < 1
  · exact .inl ⟨h1, by simp [atOk]; omega, at_none (.inl (by omega))⟩
  · by_cases h2 : v < (c : Int)
    · have ho : atOk ws key v = true := by simp [atOk]; omega
      exact .inr (.inl ⟨by omega, h2, ho, _, by unfold atEnt; rw [if_pos ho]⟩)
    · by_cases h3 : v = (c : Int)
      · have hz : countK ws key ≠ 0 := by omega
        rw [if_neg hz] at hl
        have hk : lk = key := by have := congrArg Ent.key hl; exact this.symm
        have hv : lv = lastV ws key := by have := congrArg Ent.value hl; exact this.symm
        have he : atEnt ws key v = ⟨key, lv, v⟩ := by
          rw [hv, h3, hc, at_last ws key hz]; rfl
        exact .inr (.inr (.inl ⟨by omega, h3, by simp [atOk]; omega, he, hk⟩))
      · exact .inr (.inr (.inr ⟨by omega, by omega, by simp [atOk]; omega, at_none (.inr (by omega))⟩))
set_option maxRecDepth 100000 in
set_option maxHeartbeats 3200000 in
theorem versions_any (a : Option Addr) (n cap : Nat) (T : List Tx) (key : ByteArray) (w : World) (ha : Asks w a n cap T) :
    Calls Try.prog 4 #[.slice a n cap, .string key] w fun e w' => e = .returned (.bool true) ∧ Below w.heap.size w w' := by
  have HA := Lib.hid ha
  clear ha
  go_enter Try.func4, Try.ntmps4
  go_wp2_with fail
  refine (HA.out.head w).mono ?_
  rintro e w1 ⟨rfl, hb1⟩
  have HB1 := Lib.hid hb1
  clear hb1
  go_wp2_with fail
  refine (HA.out.great w1 HB1.out).mono ?_
  rintro e w2 ⟨g, rfl, hg, hb2⟩
  have HB2 : Hid (Below w.heap.size w w2) := HB1.out.trans (hb2.mono HB1.out.size)
  cases g with
  | true =>
    clear hg hb2
    go_wp2_with fail
    go_ret
    exact ⟨rfl, HB2.out⟩
  | false =>
    have HS : Hid (Small T) := hg rfl
    clear hg hb2
    go_wp2_with fail
    refine (HA.out.run _ (HB2.out.alloc HB2.out.size _) HS.out).mono ?_
    rintro e w3 hrun
    obtain ⟨ra, rc, rfl, hl3⟩ := left_open hrun
    have HL := Lib.hid hl3
    have hb3 := hl3.below
    have HB3 : Hid (Below w.heap.size w w3) := (HB2.out.alloc HB2.out.size _).trans (hb3.mono (HB2.out.alloc HB2.out.size _).size)
    have hbl : w3.heap[w2.heap.size]? = some (.cells #[.string Model.ent0.key, .string Model.ent0.value, .int .i64 Model.ent0.ver] 26 (0, 0)) := (hb3.block _ (by simp)).trans (heap_alloc_new w2 _)
    have HBW : Hid (w.heap.size ≤ w2.heap.size ∧ (w2.alloc (.cells #[.string ⟨#[]⟩, .string ⟨#[]⟩, .int .i64 0] 26 (0, 0))).heap.size = w2.heap.size + 1) := ⟨HB2.out.size, by simp⟩
    obtain ⟨ws, hws⟩ : ∃ ws, ws = flat T n := ⟨_, rfl⟩
    have HWS := Lib.hid hws
    have hfw : ws.length ≤ 1600 := by rw [hws]; exact small_flat HS.out _
    have hrl := run_few ws
    rw [← hws] at HL ⊢
    obtain ⟨L, hL⟩ : ∃ L, L = runL (stateOf ws) := ⟨_, rfl⟩
    rw [← hL] at HL hrl ⊢
    obtain ⟨k, hk⟩ : ∃ k, k = L.length := ⟨_, rfl⟩
    rw [← hk] at hrl ⊢
    have HK := Lib.hid hk
    have hk0 : (k : Int) ≤ 1600 := by omega
    have hc0 : countK ws key ≤ 1600 := Nat.le_trans (countK_le _ _) hfw
    have HLT : Hid (∀ (i : Nat) e e', L[i]? = some e → L[i + 1]? = some e' → Op.bytesLess e.key.toList e'.key.toList = true) := by rw [hL]; exact fun i e e' => run_lt
    have HME : Hid (∀ e ∈ L, countK ws e.key ≠ 0 ∧ e = entOf ws e.key) := by rw [hL]; exact fun e he => run_mem.1 he
    have HMC : Hid (countK ws key ≠ 0 → entOf ws key ∈ L) := by rw [hL]; exact fun h => run_mem.2 ⟨h, rfl⟩
    have HAT0 : Hid (Small T) := HS.out
    obtain ⟨b, hb⟩ : ∃ b, b = w2.heap.size := ⟨_, rfl⟩
    rw [← hb] at hbl HBW ⊢
    have HBL := Lib.hid hbl
    clear hk hrl hL hws hfw hrun hl3 hb3 hb hbl
    go_wp2_with fail
    go_loopw [8] (fun i wr => ∃ m : Nat, m ≤ k ∧ i = .int .i64 m ∧ Hid (LastIs w3 wr b (lastE ws L key m))) (fun i _ => k - (intOf i).toNat)
    case atStart => exact ⟨0, by omega, rfl, HBL.out, Wrote.refl _ _⟩
    case round =>
      obtain ⟨m, hm, rfl, HLA⟩ := hrel
      by_cases hlm : m < k
      · obtain ⟨e, he⟩ : ∃ e, L[m]? = some e := ⟨_, List.getElem?_eq_getElem (by rw [← HK.out]; exact hlm)⟩
        obtain ⟨g, rfl, hgb, hgl, d0, d1, d2⟩ := HL.out.cells HLA.out.wrote (by have := HBW.out.2; omega) he
        obtain ⟨hne, hee⟩ := HME.out e (List.mem_of_getElem? he)
        have hm1 : (m : Int) < (k : Int) := by omega
        have HE := Lib.hid he
        have hv1 : 1 ≤ e.ver := by rw [hee]; show (1 : Int) ≤ (countK ws e.key : Int); omega
        have HLE := Lib.hid (lastE_succ (ws := ws) (key := key) he)
        have hbl2 := HLA.out.row
        have hbl3 := lt_of_heap hbl2
        have q0 : wr.cell? ⟨b, 0, none⟩ = some (.string (lastE ws L key m).key) := by rw [cell_of_row _ _ _ _ _ _ hbl2]; rfl
        have q1 : wr.cell? ⟨b, 1, none⟩ = some (.string (lastE ws L key m).value) := by rw [cell_of_row _ _ _ _ _ _ hbl2]; rfl
        have q2 : wr.cell? ⟨b, 2, none⟩ = some (.int .i64 (lastE ws L key m).ver) := by rw [cell_of_row _ _ _ _ _ _ hbl2]; rfl
        have fz : ∀ i, wr.frozen? ⟨b, i, none⟩ = false := fun i => by simp [World.frozen?, hbl2]
        have HEE := Lib.hid hee
        clear he hbl2 hee hne
        rcases Nat.eq_zero_or_pos m with hz | hpos
        · subst hz
          simp only [Nat.zero_mul, Nat.zero_add] at d0 d1 d2
          by_cases hk : e.key = key
          · have hs2 : (e.key.toList == key.toList) = true := by rw [str_eq]; simpa using hk
            have HNX : Hid (∀ nq, LastIs w3 ((((wr.drewN nq).setCell ⟨b, 0, none⟩ (.string e.key)).setCell ⟨b, 1, none⟩ (.string e.value)).setCell ⟨b, 2, none⟩ (.int .i64 e.ver)) b (lastE ws L key (0 + 1))) := fun nq => by
              rw [HLE.out, if_pos hk, ← hk, ← HEE.out]
              exact (HLA.out.draw nq).put e
            clear hk
            go_wp2_with fail
            go_quiet (fail)
            go_wp2_with fail
            exact ⟨⟨0 + 1, by omega, by simp, HNX.out _⟩, by simp [intOf]; omega⟩
          · have hs2 : (e.key.toList == key.toList) = false := by rw [str_eq]; simpa using hk
            have HNX : Hid (∀ nq, LastIs w3 (wr.drewN nq) b (lastE ws L key (0 + 1))) := fun nq => by
              rw [HLE.out, if_neg hk]
              exact HLA.out.draw nq
            clear hk
            go_wp2_with fail
            go_quiet (fail)
            go_wp2_with fail
            exact ⟨⟨0 + 1, by omega, by simp, HNX.out _⟩, by simp [intOf]; omega⟩
        · obtain ⟨p, hp⟩ : ∃ p, p + 1 = m := ⟨m - 1, by omega⟩
          obtain ⟨e0, he0⟩ : ∃ e, L[p]? = some e := ⟨_, List.getElem?_eq_getElem (by rw [← HK.out]; omega)⟩
          obtain ⟨g2, hg2, _, _, f0, _, _⟩ := HL.out.cells HLA.out.wrote (by have := HBW.out.2; omega) he0
          obtain rfl : g = g2 := by simpa using hg2
          have hs := HLT.out p e0 e he0 (by rw [hp]; exact HE.out)
          have hm0 : (0 : Int) < (m : Int) := by omega
          have hm2 : (0 : Int) ≤ (m : Int) := by omega
          have hp1 : (0 : Int) ≤ (p : Int) := by omega
          have hp2 : (p : Int) < (k : Int) := by omega
          have hwp : IntKind.i64.wrap ((m : Int) - 1) = (p : Int) := by rw [IntKind.wrap_i64]; omega
          have HP := Lib.hid hp
          clear he0 hg2 hp
          by_cases hk : e.key = key
          · have hs2 : (e.key.toList == key.toList) = true := by rw [str_eq]; simpa using hk
            have HNX : Hid (∀ nq, LastIs w3 ((((wr.drewN nq).setCell ⟨b, 0, none⟩ (.string e.key)).setCell ⟨b, 1, none⟩ (.string e.value)).setCell ⟨b, 2, none⟩ (.int .i64 e.ver)) b (lastE ws L key (m + 1))) := fun nq => by
              rw [HLE.out, if_pos hk, ← hk, ← HEE.out]
              exact (HLA.out.draw nq).put e
            clear hk
            go_wp2_with fail
            go_quiet (fail)
            go_wp2_with fail
            exact ⟨⟨m + 1, by omega, by simp, HNX.out _⟩, by simp [intOf]; omega⟩
          · have hs2 : (e.key.toList == key.toList) = false := by rw [str_eq]; simpa using hk
            have HNX : Hid (∀ nq, LastIs w3 (wr.drewN nq) b (lastE ws L key (m + 1))) := fun nq => by
              rw [HLE.out, if_neg hk]
              exact HLA.out.draw nq
            clear hk
            go_wp2_with fail
            go_quiet (fail)
            go_wp2_with fail
            exact ⟨⟨m + 1, by omega, by simp, HNX.out _⟩, by simp [intOf]; omega⟩
      · obtain rfl : m = k := by omega
        rw [lastE_end HK.out HME.out HMC.out] at HLA
        obtain ⟨c, hc⟩ : ∃ c, c = countK ws key := ⟨_, rfl⟩
        obtain ⟨lk, lv, hlk⟩ : ∃ lk lv, (if countK ws key = 0 then Model.ent0 else entOf ws key) = (⟨lk, lv, (c : Int)⟩ : Ent) := by
          rw [hc]
          by_cases h0 : countK ws key = 0
          · rw [if_pos h0, h0]; exact ⟨_, _, rfl⟩
          · rw [if_neg h0]; exact ⟨_, _, rfl⟩
        have HLK := Lib.hid hlk
        have HC := Lib.hid hc
        rw [hlk] at HLA
        rw [← hc] at hc0
        have hc9 : (c : Int) ≤ 1600 := by omega
        have hcp : (0 : Int) ≤ (c : Int) := by omega
        have HB4 : Hid (Below w.heap.size w wr) := HB3.out.trans (HLA.out.wrote.below HB3.out.size (by have := HBW.out.1; simp; omega))
        have hbl2 := HLA.out.row
        have hbl3 := lt_of_heap hbl2
        have q0 : wr.cell? ⟨b, 0, none⟩ = some (.string lk) := by rw [cell_of_row _ _ _ _ _ _ hbl2]; rfl
        have q1 : wr.cell? ⟨b, 1, none⟩ = some (.string lv) := by rw [cell_of_row _ _ _ _ _ _ hbl2]; rfl
        have q2 : wr.cell? ⟨b, 2, none⟩ = some (.int .i64 c) := by rw [cell_of_row _ _ _ _ _ _ hbl2]; rfl
        have HQ : Hid (∀ W, Below wr.heap.size wr W → b < W.heap.size ∧ W.cell? ⟨b, 0, none⟩ = some (.string lk) ∧ W.cell? ⟨b, 1, none⟩ = some (.string lv) ∧ W.cell? ⟨b, 2, none⟩ = some (.int .i64 c)) := fun W hb =>
          ⟨Nat.lt_of_lt_of_le hbl3 hb.size, (hb.cell (p := ⟨b, _, none⟩) hbl3).trans q0, (hb.cell (p := ⟨b, _, none⟩) hbl3).trans q1, (hb.cell (p := ⟨b, _, none⟩) hbl3).trans q2⟩
        clear hbl2 q0 q1 q2 hlk hc
        go_wp2_with fail
        go_loopw [9] (fun i W => ∃ v : Int, -1 ≤ v ∧ v ≤ c + 3 ∧ i = .int .i64 v ∧ Hid (Below wr.heap.size wr W)) (fun i _ => (c + 3 - intOf i).toNat)
        case atStart => exact ⟨-1, by omega, by omega, rfl, Below.refl _ _⟩
        case round =>
          obtain ⟨v, hv0, hv1, rfl, HBR⟩ := hrel
          obtain ⟨hbl4, q0, q1, q2⟩ := HQ.out _ HBR.out
          by_cases hlt : v ≤ (c : Int) + 2
          · have hlt2 : v < 2000 := by omega
            go_wp2_with fail
            refine (HA.out.at_ wr key v (HB4.out.trans (HBR.out.mono HB4.out.size)) HS.out).mono ?_
            rintro e w5 ⟨rfl, hb5⟩
            have hfl : flat T T.length = ws := by rw [← HA.out.len, ← HWS.out]
            rw [hfl]
            have hcs := at_case v HC.out HLK.out
            generalize atEnt ws key v = en at hcs
            generalize atOk ws key v = ok at hcs
            have HB5 := Lib.hid (HBR.out.trans (hb5.mono HBR.out.size))
            have HBX := Lib.hid (fun o => HB5.out.alloc HB5.out.size o)
            clear q0 q1 q2 hbl4 hfl hb5
            obtain ⟨hbl4, q0, q1, q2⟩ := HQ.out _ HB5.out
            rcases hcs with ⟨hv1, rfl, rfl⟩ | ⟨hv1, hv2, rfl, x, rfl⟩ | ⟨hv1, hv2, rfl, rfl, hlk⟩ | ⟨hv1, hv2, rfl, rfl⟩
            · have e0 : entV Model.ent0 = .agg #[.string ⟨#[]⟩, .string ⟨#[]⟩, .int .i64 0] := rfl
              rw [e0]
              clear e0
              go_wp2_with fail
              all_goals exact ⟨⟨_, by omega, by omega, rfl, HBX.out _⟩, by simp [intOf]; omega⟩
            · have e0 : entV ⟨key, x, v⟩ = .agg #[.string key, .string x, .int .i64 v] := rfl
              rw [e0]
              have hs : (key.toList == key.toList) = true := by simp
              clear e0
              go_wp2_with fail
              all_goals exact ⟨⟨_, by omega, by omega, rfl, HBX.out _⟩, by simp [intOf]; omega⟩
            · have e0 : entV ⟨key, lv, v⟩ = .agg #[.string key, .string lv, .int .i64 v] := rfl
              rw [e0]
              have hs : (key.toList == key.toList) = true := by simp
              rw [hlk] at q0
              clear e0 hlk
              go_wp2_with fail
              all_goals exact ⟨⟨_, by omega, by omega, rfl, HBX.out _⟩, by simp [intOf]; omega⟩
            · have e0 : entV Model.ent0 = .agg #[.string ⟨#[]⟩, .string ⟨#[]⟩, .int .i64 0] := rfl
              rw [e0]
              clear e0
              go_wp2_with fail
              all_goals exact ⟨⟨_, by omega, by omega, rfl, HBX.out _⟩, by simp [intOf]; omega⟩
          · have HB6 := Lib.hid (HB4.out.trans (HBR.out.mono HB4.out.size))
            go_wp2_with fail
            go_ret
            exact ⟨rfl, HB6.out⟩
end Go.Proofs.Ytacdnpacpndekaa
