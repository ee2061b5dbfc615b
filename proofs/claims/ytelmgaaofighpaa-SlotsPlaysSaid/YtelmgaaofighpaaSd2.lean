/- The document's open numbers: Vote, Who; ints compared. -/
import Derived.Test.YtelmgaaofighpaaSd1
namespace Go.Proofs.Ytelmgaaofighpaa
open Go.RowKit Go.My Go.My.Slots

theorem aget_none_iff {K V : Type} [DecidableEq K] {l : List (K × V)} {k : K} (h : ∀ p ∈ l, p.1 ≠ k) : aget l k = none := by
  induction l with
  | nil => rfl
  | cons p l ih =>
    rw [aget_cons, if_neg (h p (by simp))]
    exact ih fun q hq => h q (by simp [hq])
theorem aget_at {K V : Type} [DecidableEq K] {l : List (K × V)} {p : K × V} (hn : (l.map (·.1)).Nodup) (hp : p ∈ l) : aget l p.1 = some p.2 := by
  induction l with
  | nil => cases hp
  | cons q l ih =>
    rw [List.map_cons, List.nodup_cons] at hn
    rw [aget_cons]
    rcases List.mem_cons.1 hp with rfl | hp
    · rw [if_pos rfl]
    · rw [if_neg, ih hn.2 hp]
      intro e
      exact hn.1 (List.mem_map.2 ⟨p, hp, e.symm⟩)
theorem vo_one (p : (Int × Int × Int) × Int) : ∀ u ∈ voL p, u.oneCell' = true := by
  intro u hu
  simp only [voL, List.mem_cons, List.not_mem_nil, or_false] at hu
  rcases hu with rfl | rfl | rfl | rfl <;> rfl
theorem vo_cells (w : World) (p : (Int × Int × Int) × Int) (t : TypeId) (j : Nat) (u : Value) (h : (voL p)[j]? = some u) : (w.alloc (.cells #[.int .i64 p.1.1, .int .i64 p.1.2.1, .int .i64 p.1.2.2, .int .i64 p.2] t)).cell? ((⟨w.heap.size, 0, none⟩ : Addr).add j) = some u := by
  rw [Addr.add_lit, Nat.zero_add, cell_of_row _ _ _ _ _ _ (heap_alloc_new w _)]
  simpa [voL] using h
theorem vo_info : (Try.prog.info? 76).map (fun i => (i.zero, i.size, i.bytes)) = some (some (.agg #[.int .i64 0, .int .i64 0, .int .i64 0, .int .i64 0]), 4, 32) := by kernel_rfl
theorem voteB_off {s : St} {kind n who dg : Int} (h : ¬ (kind = 1 ∨ kind = 2) ∨ openB s n = false ∨ who < 0 ∨ 9 < who ∨ dg < 0 ∨ (aget s.votes (kind, n, who)).isNone = false) : voteB s kind n who dg = false := by
  cases hb : voteB s kind n who dg with
  | false => rfl
  | true =>
    unfold voteB at hb
    simp only [Bool.and_eq_true, Bool.or_eq_true, decide_eq_true_eq] at hb
    obtain ⟨⟨⟨⟨⟨h1, h2⟩, h3⟩, h4⟩, h5⟩, h6⟩ := hb
    rcases h with h | h | h | h | h | h
    · exact absurd h1 h
    · rw [h] at h3; cases h3
    · omega
    · omega
    · omega
    · rw [h] at h2; cases h2
theorem voteB_on {s : St} {kind n who dg : Int} (h1 : kind = 1 ∨ kind = 2) (h2 : openB s n = true) (h3 : ¬ who < 0) (h4 : ¬ 9 < who) (h5 : ¬ dg < 0) (h6 : aget s.votes (kind, n, who) = none) : voteB s kind n who dg = true := by
  unfold voteB
  simp only [Bool.and_eq_true, Bool.or_eq_true, decide_eq_true_eq]
  exact ⟨⟨⟨⟨⟨h1, by rw [h6]; rfl⟩, h2⟩, by omega⟩, by omega⟩, by omega⟩
set_option maxRecDepth 100000 in
set_option maxHeartbeats 6400000 in
theorem dvote_any (base d : Nat) (v : Dv) (s : St) (kind n who dg : Int) (w : World) (h : DocAt w base d v s) (hi : Inv s) (hl : s.votes.length ≤ 10000) :
    Calls Try.prog 37 #[.pointer (some ⟨d, 0, none⟩), .int .i64 kind, .int .i64 n, .int .i64 who, .int .i64 dg] w (DocL w base d (voteB s kind n who dg) (vote s kind n who dg)) := by
  obtain ⟨i0, hi0, hz0, hz1, hz2⟩ := info_parts vo_info
  have HI := Lib.hid hi0
  have HZ := Lib.hid hz0
  have HS := Lib.hid hz1
  have HY := Lib.hid hz2
  obtain ⟨a, cap, hv, hlies⟩ := h.lV
  have HO := Lib.hid (dopen_any base d v s n w h hi)
  have H := Lib.hid h
  have HL := Lib.hid hl
  have HNODUP := Lib.hid hi.nvotes
  have HLI := Lib.hid hlies
  obtain ⟨m, hm⟩ : ∃ m, m = s.votes.length := ⟨_, rfl⟩
  rw [← hm] at hv
  have hm9 : (m : Int) ≤ 10000 := by omega
  obtain ⟨b, hb⟩ : ∃ b, b = voteB s kind n who dg := ⟨_, rfl⟩
  obtain ⟨s', hs'⟩ : ∃ z, z = vote s kind n who dg := ⟨_, rfl⟩
  have HBS : Hid (b = voteB s kind n who dg ∧ s' = vote s kind n who dg) := ⟨hb, hs'⟩
  obtain ⟨op, hop⟩ : ∃ b, b = openB s n := ⟨_, rfl⟩
  rw [← hop] at HO
  have HOP := Lib.hid hop
  have HMV : Hid (m = s.votes.length ∧ v.V = .slice a m cap) := ⟨hm, hv⟩
  have HC : Hid (∀ X, Below w.heap.size w X → X.cell? ⟨d, 3, none⟩ = some (.slice a m cap) ∧ d < X.heap.size) := fun X hX => by
    obtain ⟨_, _, _, c3, _, _⟩ := (h.below hX).cells
    rw [hv] at c3
    exact ⟨c3, (h.below hX).lt⟩
  have HNO : Hid (voteB s kind n who dg = false → ∀ X, Below w.heap.size w X → DocL w base d b s' (.returned (.bool false)) X) := fun hf X hX => by
    have e2 : s' = s := by
      rw [HBS.out.2]
      unfold vote
      rw [hf]
      rfl
    rw [HBS.out.1, hf, e2]
    exact ⟨rfl, ⟨v, H.out.below hX⟩, Bk.of_below hX (Nat.le_trans H.out.lo (Nat.le_of_lt H.out.lt))⟩
  rw [← hb, ← hs']
  clear h hi hl hv hlies hm hb hs' hop hi0 hz0 hz1 hz2
  go_enter Try.func37, Try.ntmps37
  go_wp2_with fail
  refine HO.out.mono ?_
  rintro e w1 ⟨rfl, rfl⟩
  clear HO
  by_cases hk1 : kind = 1
  · have HK : Hid (kind = 1 ∨ kind = 2) := .inl hk1
    have hka : (kind != 1) = false := by simpa using hk1
    clear hk1
    cases op with
    | false =>
      have HR := Lib.hid (HNO.out (voteB_off (.inr (.inl HOP.out.symm))) _ (Below.refl _ _))
      clear HNO
      go_wp2_with fail
      go_ret
      exact HR.out
    | true =>
      by_cases hw0 : who < 0
      · have HR := Lib.hid (HNO.out (voteB_off (.inr (.inr (.inl hw0)))) _ (Below.refl _ _))
        clear HNO
        go_wp2_with fail
        go_ret
        exact HR.out
      · by_cases hw9 : 9 < who
        · have HR := Lib.hid (HNO.out (voteB_off (.inr (.inr (.inr (.inl hw9))))) _ (Below.refl _ _))
          clear HNO
          go_wp2_with fail
          go_ret
          exact HR.out
        · by_cases hd0 : dg < 0
          · have HR := Lib.hid (HNO.out (voteB_off (.inr (.inr (.inr (.inr (.inl hd0)))))) _ (Below.refl _ _))
            clear HNO
            go_wp2_with fail
            go_ret
            exact HR.out
          · have HON : Hid (aget s.votes (kind, n, who) = none → voteB s kind n who dg = true) := voteB_on HK.out HOP.out.symm hw0 hw9 hd0
            have P12 : Hid (Below w1.heap.size w1 w1 ∧ ∀ p ∈ s.votes.take 0, p.1 ≠ (kind, n, who)) := ⟨Below.refl _ _, by simp⟩
            obtain ⟨c3, ld⟩ := HC.out _ (Below.refl _ _)
            go_wp2_with fail
            clear c3 ld
            go_loopw [12] (fun i W => ∃ j : Nat, j ≤ m ∧ i = .int .i64 j ∧ Hid (Below w1.heap.size w1 W ∧ ∀ p ∈ s.votes.take j, p.1 ≠ (kind, n, who))) (fun i _ => m - (intOf i).toNat)
            case atStart => exact ⟨0, by omega, rfl, P12⟩
            case round =>
              clear P12
              obtain ⟨j, hj, rfl, HJ⟩ := hrel
              obtain ⟨c3, ld⟩ := HC.out _ HJ.out.1
              by_cases hlt : j < m
              · obtain ⟨⟨⟨xk, xn, xw⟩, xd⟩, hx⟩ : ∃ x, s.votes[j]? = some x := ⟨_, List.getElem?_eq_getElem (by rw [← HMV.out.1]; exact hlt)⟩
                obtain ⟨g, o, rfl, lg, hc⟩ := (HLI.out.below HJ.out.1) j _ hx
                have d0 : wr.cell? ⟨g, o + j * 4, none⟩ = some (.int .i64 xk) := hc 0 _ rfl
                have d1 : wr.cell? ⟨g, o + j * 4 + 1, none⟩ = some (.int .i64 xn) := hc 1 _ rfl
                have d2 : wr.cell? ⟨g, o + j * 4 + 2, none⟩ = some (.int .i64 xw) := hc 2 _ rfl
                have d3 : wr.cell? ⟨g, o + j * 4 + 3, none⟩ = some (.int .i64 xd) := hc 3 _ rfl
                have HTK : Hid (s.votes.take (j + 1) = s.votes.take j ++ [((xk, xn, xw), xd)]) := by
                  show _ = _
                  rw [List.take_add_one, hx]
                  rfl
                have HMEM := Lib.hid (List.mem_of_getElem? hx)
                have hj0 : (0 : Int) ≤ (j : Int) := by omega
                have hj1 : (j : Int) < (m : Int) := by omega
                have hjs : j + 1 ≤ m := hlt
                obtain ⟨W1, hW1⟩ : ∃ W, W = wr.alloc (.cells #[.int .i64 xk, .int .i64 xn, .int .i64 xw, .int .i64 xd] 76) := ⟨_, rfl⟩
                obtain ⟨b1, hb1⟩ : ∃ b, b = wr.heap.size := ⟨_, rfl⟩
                have hbb : Below wr.heap.size wr W1 := by rw [hW1]; exact (Below.refl _ wr).alloc (Nat.le_refl _) _
                have hbx : W1.heap[b1]? = some (.cells #[.int .i64 xk, .int .i64 xn, .int .i64 xw, .int .i64 xd] 76 (0, 0)) := by rw [hW1, hb1]; exact heap_alloc_new wr _
                have HW1 : Hid (wr.alloc (.cells #[.int .i64 xk, .int .i64 xn, .int .i64 xw, .int .i64 xd] 76) = W1 ∧ wr.heap.size = b1) := ⟨hW1.symm, hb1.symm⟩
                have HB1 : Hid (Below w1.heap.size w1 W1) := HJ.out.1.trans (hbb.mono HJ.out.1.size)
                have e0 : W1.cell? ⟨b1, 0, none⟩ = some (.int .i64 xk) := by rw [cell_of_row _ _ _ _ _ _ hbx]; rfl
                have e1 : W1.cell? ⟨b1, 1, none⟩ = some (.int .i64 xn) := by rw [cell_of_row _ _ _ _ _ _ hbx]; rfl
                have e2 : W1.cell? ⟨b1, 2, none⟩ = some (.int .i64 xw) := by rw [cell_of_row _ _ _ _ _ _ hbx]; rfl
                have HNX : Hid (¬ (xk, xn, xw) = (kind, n, who) → Hid (Below w1.heap.size w1 W1 ∧ ∀ p ∈ s.votes.take (j + 1), p.1 ≠ (kind, n, who))) := fun hne => ⟨HB1.out, by
                  rw [HTK.out]
                  intro p hp
                  rcases List.mem_append.1 hp with hp | hp
                  · exact HJ.out.2 p hp
                  · rw [List.mem_singleton.1 hp]
                    exact hne⟩
                clear hx hc lg hlt hW1 hb1 hbb hbx
                go_upto_region 8 with fail
                rw [HW1.out.1, HW1.out.2]
                clear d0 d1 d2 d3 c3 ld
                by_cases hk : xk = kind
                · by_cases hn : xn = n
                  · by_cases hw : xw = who
                    · have HR : Hid (DocL w1 base d b s' (.returned (.bool false)) W1) := HNO.out (voteB_off (.inr (.inr (.inr (.inr (.inr (by
                        have := aget_at HNODUP.out HMEM.out
                        rw [hk, hn, hw] at this
                        rw [this]
                        rfl))))))) _ HB1.out
                      have t1 : (xk == kind) = true := by simpa using hk
                      have t2 : (xn == n) = true := by simpa using hn
                      have t3 : (xw == who) = true := by simpa using hw
                      clear hk hn hw HNO HNX
                      go_wp2_with fail
                      go_ret
                      exact HR.out
                    · have HN := HNX.out (fun e => hw (by cases e; rfl))
                      have t1 : (xk == kind) = true := by simpa using hk
                      have t2 : (xn == n) = true := by simpa using hn
                      have t3 : (xw == who) = false := by simpa using hw
                      clear hk hn hw HNO HNX
                      go_wp2_with fail
                      exact ⟨⟨j + 1, hjs, by simp, HN⟩, by simp [intOf]; omega⟩
                  · have HN := HNX.out (fun e => hn (by cases e; rfl))
                    have t1 : (xk == kind) = true := by simpa using hk
                    have t2 : (xn == n) = false := by simpa using hn
                    clear hk hn HNO HNX
                    go_wp2_with fail
                    exact ⟨⟨j + 1, hjs, by simp, HN⟩, by simp [intOf]; omega⟩
                · have HN := HNX.out (fun e => hk (by cases e; rfl))
                  have t1 : (xk == kind) = false := by simpa using hk
                  clear hk HNO HNX
                  go_wp2_with fail
                  exact ⟨⟨j + 1, hjs, by simp, HN⟩, by simp [intOf]; omega⟩
              · obtain rfl : m = j := by omega
                have HG : Hid (aget s.votes (kind, n, who) = none) := by
                  have h := HJ.out.2
                  rw [List.take_of_length_le (by rw [HMV.out.1]; exact Nat.le_refl _)] at h
                  exact aget_none_iff h
                have HES : Hid (b = true ∧ s' = { s with votes := s.votes ++ [((kind, n, who), dg)] }) := by
                  have e1 := HON.out HG.out
                  refine ⟨HBS.out.1.trans e1, ?_⟩
                  rw [HBS.out.2]
                  unfold vote
                  rw [e1, if_pos rfl, keys_aput_none dg HG.out]
                have HDR := Lib.hid (H.out.below HJ.out.1)
                have HROW : Hid (wr.ownsRow base 76 4 (.slice a m cap) m (s.votes.flatMap voL)) := by
                  have := HDR.out.V
                  rw [HMV.out.2, ← HMV.out.1] at this
                  exact this
                have HLO : Hid (base ≤ wr.heap.size) := Nat.le_trans H.out.lo (Nat.le_of_lt HDR.out.lt)
                have HM9 : Hid (m ≤ 10000) := by show _ ≤ _; omega
                clear HNO HON hlt
                go_upto_region 10 with fail
                go_wp2_with (at_builtin; refine wpList_append_own_at _ rfl _ _ 48 rfl base 76 i0 _ 4 32 Try.underlying48 HI.out HZ.out HS.out HY.out rfl (by decide) _ _ _ rfl (HROW.out.alloc _) ⟨wr.heap.size, 0, none⟩ 1 1 (voL ((kind, n, who), dg)) rfl rfl (vo_cells wr ((kind, n, who), dg) 76) (vo_one ((kind, n, who), dg)) (by have := HM9.out; unfold maxLen; omega) (by have := HM9.out; omega) (by have := HLO.out; simp; omega) ?_)
                intro x w3 hown hg _ hat
                obtain ⟨xa, xc, rfl, _⟩ := row_form hown
                have hput := HDR.out.putV (l := s.votes ++ [((kind, n, who), dg)]) (.cells #[.int .i64 kind, .int .i64 n, .int .i64 who, .int .i64 dg] 76) (by rw [List.length_append, List.flatMap_append, ← HMV.out.1]; simpa using hown) (by rw [HMV.out.2]; exact hg) (by rw [HMV.out.2]; exact hat)
                have HPUT : Hid (DocL w1 base d b s' (.returned (.bool true)) (w3.setCell ⟨d, 3, none⟩ (.slice xa (m + 1) xc))) := by
                  refine ⟨by rw [HES.out.1], ⟨{ v with V := .slice xa (m + 1) xc }, ?_⟩, (Bk.of_below HJ.out.1 (Nat.le_trans H.out.lo (Nat.le_of_lt H.out.lt))).trans hput.2⟩
                  rw [HES.out.2]
                  exact hput.1
                have hw : Wrote v.V.ownBlock.toList wr w3 := ((Wrote.refl _ wr).alloc _).trans (Wrote.of_grown (by rw [HMV.out.2]; exact hg))
                have h9 := hw.heap HDR.out.cell (fun hm' => HDR.out.ne HDR.out.V (by decide) d (by simpa using hm') rfl)
                have hfz3 : w3.frozen? ⟨d, 3, none⟩ = false := by simp [World.frozen?, h9]
                have hc3 : w3.cell? ⟨d, 3, none⟩ = some (.slice a m cap) := by
                  rw [cell_of_row _ _ _ _ _ _ h9, ← HMV.out.2]
                  rfl
                have ld3 : d < w3.heap.size := Nat.lt_of_lt_of_le HDR.out.lt hw.size
                clear hown hg hat hput hw h9 c3 ld
                go_wp2_with fail
                go_ret
                exact HPUT.out
  · by_cases hk2 : kind = 2
    · have HK : Hid (kind = 1 ∨ kind = 2) := .inr hk2
      have hka : (kind != 1) = true := by simpa using hk1
      have hkb : (kind != 2) = false := by simpa using hk2
      clear hk1 hk2
      cases op with
      | false =>
        have HR := Lib.hid (HNO.out (voteB_off (.inr (.inl HOP.out.symm))) _ (Below.refl _ _))
        clear HNO
        go_wp2_with fail
        go_ret
        exact HR.out
      | true =>
        by_cases hw0 : who < 0
        · have HR := Lib.hid (HNO.out (voteB_off (.inr (.inr (.inl hw0)))) _ (Below.refl _ _))
          clear HNO
          go_wp2_with fail
          go_ret
          exact HR.out
        · by_cases hw9 : 9 < who
          · have HR := Lib.hid (HNO.out (voteB_off (.inr (.inr (.inr (.inl hw9))))) _ (Below.refl _ _))
            clear HNO
            go_wp2_with fail
            go_ret
            exact HR.out
          · by_cases hd0 : dg < 0
            · have HR := Lib.hid (HNO.out (voteB_off (.inr (.inr (.inr (.inr (.inl hd0)))))) _ (Below.refl _ _))
              clear HNO
              go_wp2_with fail
              go_ret
              exact HR.out
            · have HON : Hid (aget s.votes (kind, n, who) = none → voteB s kind n who dg = true) := voteB_on HK.out HOP.out.symm hw0 hw9 hd0
              have P12 : Hid (Below w1.heap.size w1 w1 ∧ ∀ p ∈ s.votes.take 0, p.1 ≠ (kind, n, who)) := ⟨Below.refl _ _, by simp⟩
              obtain ⟨c3, ld⟩ := HC.out _ (Below.refl _ _)
              go_wp2_with fail
              clear c3 ld
              go_loopw [12] (fun i W => ∃ j : Nat, j ≤ m ∧ i = .int .i64 j ∧ Hid (Below w1.heap.size w1 W ∧ ∀ p ∈ s.votes.take j, p.1 ≠ (kind, n, who))) (fun i _ => m - (intOf i).toNat)
              case atStart => exact ⟨0, by omega, rfl, P12⟩
              case round =>
                clear P12
                obtain ⟨j, hj, rfl, HJ⟩ := hrel
                obtain ⟨c3, ld⟩ := HC.out _ HJ.out.1
                by_cases hlt : j < m
                · obtain ⟨⟨⟨xk, xn, xw⟩, xd⟩, hx⟩ : ∃ x, s.votes[j]? = some x := ⟨_, List.getElem?_eq_getElem (by rw [← HMV.out.1]; exact hlt)⟩
                  obtain ⟨g, o, rfl, lg, hc⟩ := (HLI.out.below HJ.out.1) j _ hx
                  have d0 : wr.cell? ⟨g, o + j * 4, none⟩ = some (.int .i64 xk) := hc 0 _ rfl
                  have d1 : wr.cell? ⟨g, o + j * 4 + 1, none⟩ = some (.int .i64 xn) := hc 1 _ rfl
                  have d2 : wr.cell? ⟨g, o + j * 4 + 2, none⟩ = some (.int .i64 xw) := hc 2 _ rfl
                  have d3 : wr.cell? ⟨g, o + j * 4 + 3, none⟩ = some (.int .i64 xd) := hc 3 _ rfl
                  have HTK : Hid (s.votes.take (j + 1) = s.votes.take j ++ [((xk, xn, xw), xd)]) := by
                    show _ = _
                    rw [List.take_add_one, hx]
                    rfl
                  have HMEM := Lib.hid (List.mem_of_getElem? hx)
                  have hj0 : (0 : Int) ≤ (j : Int) := by omega
                  have hj1 : (j : Int) < (m : Int) := by omega
                  have hjs : j + 1 ≤ m := hlt
                  obtain ⟨W1, hW1⟩ : ∃ W, W = wr.alloc (.cells #[.int .i64 xk, .int .i64 xn, .int .i64 xw, .int .i64 xd] 76) := ⟨_, rfl⟩
                  obtain ⟨b1, hb1⟩ : ∃ b, b = wr.heap.size := ⟨_, rfl⟩
                  have hbb : Below wr.heap.size wr W1 := by rw [hW1]; exact (Below.refl _ wr).alloc (Nat.le_refl _) _
                  have hbx : W1.heap[b1]? = some (.cells #[.int .i64 xk, .int .i64 xn, .int .i64 xw, .int .i64 xd] 76 (0, 0)) := by rw [hW1, hb1]; exact heap_alloc_new wr _
                  have HW1 : Hid (wr.alloc (.cells #[.int .i64 xk, .int .i64 xn, .int .i64 xw, .int .i64 xd] 76) = W1 ∧ wr.heap.size = b1) := ⟨hW1.symm, hb1.symm⟩
                  have HB1 : Hid (Below w1.heap.size w1 W1) := HJ.out.1.trans (hbb.mono HJ.out.1.size)
                  have e0 : W1.cell? ⟨b1, 0, none⟩ = some (.int .i64 xk) := by rw [cell_of_row _ _ _ _ _ _ hbx]; rfl
                  have e1 : W1.cell? ⟨b1, 1, none⟩ = some (.int .i64 xn) := by rw [cell_of_row _ _ _ _ _ _ hbx]; rfl
                  have e2 : W1.cell? ⟨b1, 2, none⟩ = some (.int .i64 xw) := by rw [cell_of_row _ _ _ _ _ _ hbx]; rfl
                  have HNX : Hid (¬ (xk, xn, xw) = (kind, n, who) → Hid (Below w1.heap.size w1 W1 ∧ ∀ p ∈ s.votes.take (j + 1), p.1 ≠ (kind, n, who))) := fun hne => ⟨HB1.out, by
                    rw [HTK.out]
                    intro p hp
                    rcases List.mem_append.1 hp with hp | hp
                    · exact HJ.out.2 p hp
                    · rw [List.mem_singleton.1 hp]
                      exact hne⟩
                  clear hx hc lg hlt hW1 hb1 hbb hbx
                  go_upto_region 8 with fail
                  rw [HW1.out.1, HW1.out.2]
                  clear d0 d1 d2 d3 c3 ld
                  by_cases hk : xk = kind
                  · by_cases hn : xn = n
                    · by_cases hw : xw = who
                      · have HR : Hid (DocL w1 base d b s' (.returned (.bool false)) W1) := HNO.out (voteB_off (.inr (.inr (.inr (.inr (.inr (by
                          have := aget_at HNODUP.out HMEM.out
                          rw [hk, hn, hw] at this
                          rw [this]
                          rfl))))))) _ HB1.out
                        have t1 : (xk == kind) = true := by simpa using hk
                        have t2 : (xn == n) = true := by simpa using hn
                        have t3 : (xw == who) = true := by simpa using hw
                        clear hk hn hw HNO HNX
                        go_wp2_with fail
                        go_ret
                        exact HR.out
                      · have HN := HNX.out (fun e => hw (by cases e; rfl))
                        have t1 : (xk == kind) = true := by simpa using hk
                        have t2 : (xn == n) = true := by simpa using hn
                        have t3 : (xw == who) = false := by simpa using hw
                        clear hk hn hw HNO HNX
                        go_wp2_with fail
                        exact ⟨⟨j + 1, hjs, by simp, HN⟩, by simp [intOf]; omega⟩
                    · have HN := HNX.out (fun e => hn (by cases e; rfl))
                      have t1 : (xk == kind) = true := by simpa using hk
                      have t2 : (xn == n) = false := by simpa using hn
                      clear hk hn HNO HNX
                      go_wp2_with fail
                      exact ⟨⟨j + 1, hjs, by simp, HN⟩, by simp [intOf]; omega⟩
                  · have HN := HNX.out (fun e => hk (by cases e; rfl))
                    have t1 : (xk == kind) = false := by simpa using hk
                    clear hk HNO HNX
                    go_wp2_with fail
                    exact ⟨⟨j + 1, hjs, by simp, HN⟩, by simp [intOf]; omega⟩
                · obtain rfl : m = j := by omega
                  have HG : Hid (aget s.votes (kind, n, who) = none) := by
                    have h := HJ.out.2
                    rw [List.take_of_length_le (by rw [HMV.out.1]; exact Nat.le_refl _)] at h
                    exact aget_none_iff h
                  have HES : Hid (b = true ∧ s' = { s with votes := s.votes ++ [((kind, n, who), dg)] }) := by
                    have e1 := HON.out HG.out
                    refine ⟨HBS.out.1.trans e1, ?_⟩
                    rw [HBS.out.2]
                    unfold vote
                    rw [e1, if_pos rfl, keys_aput_none dg HG.out]
                  have HDR := Lib.hid (H.out.below HJ.out.1)
                  have HROW : Hid (wr.ownsRow base 76 4 (.slice a m cap) m (s.votes.flatMap voL)) := by
                    have := HDR.out.V
                    rw [HMV.out.2, ← HMV.out.1] at this
                    exact this
                  have HLO : Hid (base ≤ wr.heap.size) := Nat.le_trans H.out.lo (Nat.le_of_lt HDR.out.lt)
                  have HM9 : Hid (m ≤ 10000) := by show _ ≤ _; omega
                  clear HNO HON hlt
                  go_upto_region 10 with fail
                  go_wp2_with (at_builtin; refine wpList_append_own_at _ rfl _ _ 48 rfl base 76 i0 _ 4 32 Try.underlying48 HI.out HZ.out HS.out HY.out rfl (by decide) _ _ _ rfl (HROW.out.alloc _) ⟨wr.heap.size, 0, none⟩ 1 1 (voL ((kind, n, who), dg)) rfl rfl (vo_cells wr ((kind, n, who), dg) 76) (vo_one ((kind, n, who), dg)) (by have := HM9.out; unfold maxLen; omega) (by have := HM9.out; omega) (by have := HLO.out; simp; omega) ?_)
                  intro x w3 hown hg _ hat
                  obtain ⟨xa, xc, rfl, _⟩ := row_form hown
                  have hput := HDR.out.putV (l := s.votes ++ [((kind, n, who), dg)]) (.cells #[.int .i64 kind, .int .i64 n, .int .i64 who, .int .i64 dg] 76) (by rw [List.length_append, List.flatMap_append, ← HMV.out.1]; simpa using hown) (by rw [HMV.out.2]; exact hg) (by rw [HMV.out.2]; exact hat)
                  have HPUT : Hid (DocL w1 base d b s' (.returned (.bool true)) (w3.setCell ⟨d, 3, none⟩ (.slice xa (m + 1) xc))) := by
                    refine ⟨by rw [HES.out.1], ⟨{ v with V := .slice xa (m + 1) xc }, ?_⟩, (Bk.of_below HJ.out.1 (Nat.le_trans H.out.lo (Nat.le_of_lt H.out.lt))).trans hput.2⟩
                    rw [HES.out.2]
                    exact hput.1
                  have hw : Wrote v.V.ownBlock.toList wr w3 := ((Wrote.refl _ wr).alloc _).trans (Wrote.of_grown (by rw [HMV.out.2]; exact hg))
                  have h9 := hw.heap HDR.out.cell (fun hm' => HDR.out.ne HDR.out.V (by decide) d (by simpa using hm') rfl)
                  have hfz3 : w3.frozen? ⟨d, 3, none⟩ = false := by simp [World.frozen?, h9]
                  have hc3 : w3.cell? ⟨d, 3, none⟩ = some (.slice a m cap) := by
                    rw [cell_of_row _ _ _ _ _ _ h9, ← HMV.out.2]
                    rfl
                  have ld3 : d < w3.heap.size := Nat.lt_of_lt_of_le HDR.out.lt hw.size
                  clear hown hg hat hput hw h9 c3 ld
                  go_wp2_with fail
                  go_ret
                  exact HPUT.out
    · have hka : (kind != 1) = true := by simpa using hk1
      have hkb : (kind != 2) = true := by simpa using hk2
      have HR := Lib.hid (HNO.out (voteB_off (.inl (fun h => h.elim hk1 hk2))) _ (Below.refl _ _))
      clear HNO hk1 hk2
      go_wp2_with fail
      go_ret
      exact HR.out

/-- what the document's Who makes -/
def DwhoL (w : World) (s : St) (kind n dg : Int) (e : Ending) (w' : World) : Prop :=
  ∃ a c, e = .returned (.slice a (whoL s kind n dg).length c) ∧ LiesAt w' a 1 (fun z : Int => [.int .i64 z]) (whoL s kind n dg) ∧ Below w.heap.size w w'
theorem who_lies {w : World} {s : St} {kind n dg : Int} {e : Ending} {w' : World} (h : WhoLeft w s kind n dg e w') : DwhoL w s kind n dg e w' := by
  obtain ⟨v, rfl, ho, hb⟩ := h
  obtain ⟨a, c, rfl, _⟩ := row_form ho
  exact ⟨a, c, rfl, row_lies1 (e := fun z : Int => .int .i64 z) ho rfl, hb⟩
def hitB (l : List ((Int × Int × Int) × Int)) (kind n who dg : Int) (j : Nat) : Bool := (l.take j).any fun p => decide (p = ((kind, n, who), dg))
theorem hit_step {l : List ((Int × Int × Int) × Int)} {kind n who dg : Int} {j : Nat} {p : (Int × Int × Int) × Int} (h : l[j]? = some p) : hitB l kind n who dg (j + 1) = (hitB l kind n who dg j || decide (p = ((kind, n, who), dg))) := by
  unfold hitB
  rw [List.take_add_one, h, List.any_append]
  simp
theorem hit_none {l : List ((Int × Int × Int) × Int)} {kind n who dg : Int} {j : Nat} (hn : (l.map (·.1)).Nodup) (h : l[j]? = some ((kind, n, who), dg)) : hitB l kind n who dg j = false := by
  unfold hitB
  rw [List.any_eq_false]
  intro p hp e
  have e : p = ((kind, n, who), dg) := by simpa using e
  obtain ⟨i, hi⟩ := List.getElem?_of_mem hp
  have hij : i < j := by
    have := (List.getElem?_eq_some_iff.1 hi).1
    rw [List.length_take] at this
    omega
  rw [List.getElem?_take_of_lt hij, e] at hi
  obtain ⟨h1, e1⟩ := List.getElem?_eq_some_iff.1 hi
  obtain ⟨h2, e2⟩ := List.getElem?_eq_some_iff.1 h
  have := List.pairwise_iff_getElem.1 hn i j (by simpa using h1) (by simpa using h2) hij
  apply this
  rw [List.getElem_map, List.getElem_map, e1, e2]
theorem hit_all {l : List ((Int × Int × Int) × Int)} {kind n who dg : Int} (hn : (l.map (·.1)).Nodup) : hitB l kind n who dg l.length = decide (aget l (kind, n, who) = some dg) := by
  apply Bool.eq_iff_iff.2
  unfold hitB
  rw [List.take_length, List.any_eq_true]
  simp only [decide_eq_true_eq]
  constructor
  · rintro ⟨p, hp, rfl⟩
    exact aget_at hn hp
  · intro h
    exact ⟨_, aget_some_mem h, rfl⟩
def wOut (s : St) (kind n dg : Int) (k : Nat) (b : Bool) : List Int := whoK s kind n dg k ++ (if b = true then [(k : Int)] else [])
theorem wOut_next {s : St} {kind n dg : Int} {k : Nat} (hk : k < 10) : wOut s kind n dg k (decide (aget s.votes (kind, n, (k : Int)) = some dg)) = whoK s kind n dg (k + 1) := by
  unfold wOut
  by_cases h : aget s.votes (kind, n, (k : Int)) = some dg
  · rw [decide_eq_true h, if_pos rfl, whoK_yes hk h]
  · rw [decide_eq_false h, whoK_no hk h]
    simp
def DwRel (w : World) (out : List Int) (v : Value) (wr : World) : Prop := wr.ownsRow w.heap.size 3 1 v out.length (out.map (Value.int .i64)) ∧ Below w.heap.size w wr
set_option maxRecDepth 100000 in
set_option maxHeartbeats 6400000 in
theorem dwho_any (base d : Nat) (v : Dv) (s : St) (kind n dg : Int) (w : World) (h : DocAt w base d v s) (hi : Inv s) (hl : s.votes.length ≤ 10000) :
    Calls Try.prog 24 #[.pointer (some ⟨d, 0, none⟩), .int .i64 kind, .int .i64 n, .int .i64 dg] w (DwhoL w s kind n dg) := by
  obtain ⟨i0, hi0, hz0, hz1, hz2⟩ := info_parts int_info
  have HI := Lib.hid hi0
  have HZ := Lib.hid hz0
  have HS := Lib.hid hz1
  have HY := Lib.hid hz2
  obtain ⟨a, cap, hv, hlies⟩ := h.lV
  have HLI := Lib.hid hlies
  have HNODUP := Lib.hid hi.nvotes
  obtain ⟨m, hm⟩ : ∃ m, m = s.votes.length := ⟨_, rfl⟩
  rw [← hm] at hv
  have hm9 : (m : Int) ≤ 10000 := by omega
  have HM := Lib.hid hm
  have HC : Hid (∀ X, Below w.heap.size w X → X.cell? ⟨d, 3, none⟩ = some (.slice a m cap) ∧ d < X.heap.size) := fun X hX => by
    obtain ⟨_, _, _, c3, _, _⟩ := (h.below hX).cells
    rw [hv] at c3
    exact ⟨c3, (h.below hX).lt⟩
  have P0 : Hid (DwRel w (whoK s kind n dg 0) (.slice none 0 0) w) := ⟨World.ownsRow_nil _ _ _ _, Below.refl _ _⟩
  clear h hi hl hv hlies hm hi0 hz0 hz1 hz2
  go_enter Try.func24, Try.ntmps24
  go_wp2_with fail
  go_loopw [9, 10] (fun v i wr => ∃ k : Nat, k ≤ 10 ∧ i = .int .i64 k ∧ Hid (DwRel w (whoK s kind n dg k) v wr)) (fun _ i _ => 10 - (intOf i).toNat)
  case atStart => exact ⟨0, by omega, rfl, P0⟩
  case round =>
    clear P0
    obtain ⟨k, hk, rfl, HK⟩ := hrel
    by_cases hlk : k < 10
    · have hk1 : (k : Int) ≤ 9 := by omega
      have hks : k + 1 ≤ 10 := hlk
      have P1 : Hid (DwRel w (wOut s kind n dg k false) u9 wr) := by
        show DwRel _ _ _ _
        unfold wOut
        simpa using HK.out
      obtain ⟨c3, ld⟩ := HC.out _ HK.out.2
      clear HK
      go_wp2_with fail
      clear c3 ld
      go_loopw [9, 11] (fun v i wr => ∃ j : Nat, j ≤ m ∧ i = .int .i64 j ∧ Hid (DwRel w (wOut s kind n dg k (hitB s.votes kind n k dg j)) v wr)) (fun _ i _ => m - (intOf i).toNat)
      case atStart => exact ⟨0, by omega, rfl, P1⟩
      case round =>
        clear P1
        obtain ⟨j, hj, rfl, HJ⟩ := hrel
        obtain ⟨c3, ld⟩ := HC.out _ HJ.out.2
        by_cases hlt : j < m
        · obtain ⟨⟨⟨xk, xn, xw⟩, xd⟩, hx⟩ : ∃ x, s.votes[j]? = some x := ⟨_, List.getElem?_eq_getElem (by rw [← HM.out]; exact hlt)⟩
          obtain ⟨g, o, rfl, lg, hc⟩ := (HLI.out.below HJ.out.2) j _ hx
          have d0 : wr.cell? ⟨g, o + j * 4, none⟩ = some (.int .i64 xk) := hc 0 _ rfl
          have d1 : wr.cell? ⟨g, o + j * 4 + 1, none⟩ = some (.int .i64 xn) := hc 1 _ rfl
          have d2 : wr.cell? ⟨g, o + j * 4 + 2, none⟩ = some (.int .i64 xw) := hc 2 _ rfl
          have d3 : wr.cell? ⟨g, o + j * 4 + 3, none⟩ = some (.int .i64 xd) := hc 3 _ rfl
          have HST := Lib.hid (hit_step (kind := kind) (n := n) (who := (k : Int)) (dg := dg) hx)
          have HX := Lib.hid hx
          have hj0 : (0 : Int) ≤ (j : Int) := by omega
          have hj1 : (j : Int) < (m : Int) := by omega
          have hjs : j + 1 ≤ m := hlt
          obtain ⟨W1, hW1⟩ : ∃ W, W = wr.alloc (.cells #[.int .i64 xk, .int .i64 xn, .int .i64 xw, .int .i64 xd] 76) := ⟨_, rfl⟩
          obtain ⟨b1, hb1⟩ : ∃ b, b = wr.heap.size := ⟨_, rfl⟩
          have hbb : Below wr.heap.size wr W1 := by rw [hW1]; exact (Below.refl _ wr).alloc (Nat.le_refl _) _
          have hbx : W1.heap[b1]? = some (.cells #[.int .i64 xk, .int .i64 xn, .int .i64 xw, .int .i64 xd] 76 (0, 0)) := by rw [hW1, hb1]; exact heap_alloc_new wr _
          have HW1 : Hid (wr.alloc (.cells #[.int .i64 xk, .int .i64 xn, .int .i64 xw, .int .i64 xd] 76) = W1 ∧ wr.heap.size = b1) := ⟨hW1.symm, hb1.symm⟩
          have HB1 : Hid (DwRel w (wOut s kind n dg k (hitB s.votes kind n k dg j)) u9 W1) := ⟨row_below HJ.out.1 hbb, HJ.out.2.trans (hbb.mono HJ.out.2.size)⟩
          have e0 : W1.cell? ⟨b1, 0, none⟩ = some (.int .i64 xk) := by rw [cell_of_row _ _ _ _ _ _ hbx]; rfl
          have e1 : W1.cell? ⟨b1, 1, none⟩ = some (.int .i64 xn) := by rw [cell_of_row _ _ _ _ _ _ hbx]; rfl
          have e2 : W1.cell? ⟨b1, 2, none⟩ = some (.int .i64 xw) := by rw [cell_of_row _ _ _ _ _ _ hbx]; rfl
          have e3 : W1.cell? ⟨b1, 3, none⟩ = some (.int .i64 xd) := by rw [cell_of_row _ _ _ _ _ _ hbx]; rfl
          have HNO : Hid (¬ ((xk, xn, xw), xd) = ((kind, n, (k : Int)), dg) → Hid (DwRel w (wOut s kind n dg k (hitB s.votes kind n k dg (j + 1))) u9 W1)) := fun hne => by
            show DwRel _ _ _ _
            rw [HST.out, decide_eq_false hne, Bool.or_false]
            exact HB1.out
          clear hx hc lg hlt hW1 hb1 hbb hbx
          go_upto_region 9 with fail
          rw [HW1.out.1, HW1.out.2]
          clear d0 d1 d2 d3 c3 ld
          by_cases h1 : xk = kind
          · have t1 : (xk == kind) = true := by simpa using h1
            by_cases h2 : xn = n
            · have t2 : (xn == n) = true := by simpa using h2
              by_cases h3 : xw = (k : Int)
              · have t3 : (xw == (k : Int)) = true := by simpa using h3
                by_cases h4 : xd = dg
                · have t4 : (xd == dg) = true := by simpa using h4
                  have hz : hitB s.votes kind n k dg j = false := hit_none HNODUP.out (by rw [HX.out, h1, h2, h3, h4])
                  have HO : Hid (wOut s kind n dg k (hitB s.votes kind n k dg (j + 1)) = whoK s kind n dg k ++ [(k : Int)]) := by
                    show _ = _
                    rw [HST.out, h1, h2, h3, h4, decide_eq_true rfl, Bool.or_true]
                    rfl
                  have HROW : Hid (DwRel w (whoK s kind n dg k) u9 W1) := by
                    show DwRel _ _ _ _
                    have := HB1.out
                    rw [hz] at this
                    unfold wOut at this
                    simpa using this
                  have HLEN := Lib.hid (whoK_len s kind n dg k)
                  clear h1 h2 h3 h4 hz HNO
                  go_upto_region 10 with fail
                  go_wp2_with (at_builtin; refine wpList_append_own _ rfl _ _ 30 rfl w.heap.size 3 i0 (.int .i64 0) 1 8 Try.underlying30 HI.out HZ.out HS.out HY.out rfl (by decide) _ _ _ rfl (HROW.out.1.alloc _) ⟨W1.heap.size, 0, none⟩ 1 1 [.int .i64 (k : Int)] rfl rfl (cell_one_new _ _ _) (by simp [Value.oneCell']) (by have := HLEN.out; unfold maxLen; omega) (by have := HLEN.out; omega) (by have := HROW.out.2.size; simp; omega) ?_)
                  intro v1 w3 hown hg _
                  have HN : Hid (DwRel w (wOut s kind n dg k (hitB s.votes kind n k dg (j + 1))) v1 w3) := by
                    show DwRel _ _ _ _
                    rw [HO.out]
                    refine ⟨by rw [List.length_append, List.map_append]; exact hown, ?_⟩
                    have hb := ((Below.refl w.heap.size W1).alloc HROW.out.2.size (.cells #[.int .i64 (k : Int)] 3))
                    exact HROW.out.2.trans (hb.grown hg (Nat.le_trans HROW.out.2.size hb.size) (fun b hb => (HROW.out.1.lt b hb).1))
                  clear hown hg
                  go_wp2_with fail
                  exact ⟨⟨j + 1, hjs, by simp, HN⟩, by simp [intOf]; omega⟩
                · have t4 : (xd == dg) = false := by simpa using h4
                  have HN := HNO.out (fun e => h4 (by cases e; rfl))
                  clear h1 h2 h3 h4 HNO
                  go_wp2_with fail
                  exact ⟨⟨j + 1, hjs, by simp, HN⟩, by simp [intOf]; omega⟩
              · have t3 : (xw == (k : Int)) = false := by simpa using h3
                have HN := HNO.out (fun e => h3 (by cases e; rfl))
                clear h1 h2 h3 HNO
                go_wp2_with fail
                exact ⟨⟨j + 1, hjs, by simp, HN⟩, by simp [intOf]; omega⟩
            · have t2 : (xn == n) = false := by simpa using h2
              have HN := HNO.out (fun e => h2 (by cases e; rfl))
              clear h1 h2 HNO
              go_wp2_with fail
              exact ⟨⟨j + 1, hjs, by simp, HN⟩, by simp [intOf]; omega⟩
          · have t1 : (xk == kind) = false := by simpa using h1
            have HN := HNO.out (fun e => h1 (by cases e; rfl))
            clear h1 HNO
            go_wp2_with fail
            exact ⟨⟨j + 1, hjs, by simp, HN⟩, by simp [intOf]; omega⟩
        · obtain rfl : m = j := by omega
          have HN : Hid (DwRel w (whoK s kind n dg (k + 1)) u9 wr) := by
            show DwRel _ _ _ _
            have h := HJ.out
            rw [HM.out, hit_all HNODUP.out, wOut_next hlk] at h
            exact h
          go_wp2_with fail
          exact ⟨⟨k + 1, hks, by simp, HN⟩, by simp [intOf]; omega⟩
    · obtain rfl : k = 10 := by omega
      have HE : Hid (DwhoL w s kind n dg (.returned u9) wr) := by
        obtain ⟨fa, fc, rfl, _⟩ := row_form HK.out.1
        exact ⟨fa, fc, rfl, row_lies1 (e := fun z : Int => .int .i64 z) HK.out.1 rfl, HK.out.2⟩
      clear HK
      go_wp2_with fail
      go_ret
      exact HE.out
set_option maxRecDepth 100000 in
set_option maxHeartbeats 1600000 in
theorem sameints_any (ra rb : Option Addr) (ca cb n : Nat) (L : List Int) (w : World) (hn : n = L.length) (ha : LiesAt w ra 1 (fun z : Int => [.int .i64 z]) L) (hb : LiesAt w rb 1 (fun z : Int => [.int .i64 z]) L) (hn9 : n ≤ 100000) :
    Calls Try.prog 23 #[.slice ra n ca, .slice rb n cb] w fun e w' => e = .returned (.bool true) ∧ Below w.heap.size w w' := by
  have HA := Lib.hid ha
  have HB := Lib.hid hb
  have HN := Lib.hid hn
  have hn8 : (n : Int) ≤ 100000 := by omega
  have P5 : Hid (Below w.heap.size w w) := Below.refl _ _
  clear ha hb hn hn9
  go_enter Try.func23, Try.ntmps23
  go_wp2_with fail
  go_loopw [5] (fun i W => ∃ m : Nat, m ≤ n ∧ i = .int .i64 m ∧ Hid (Below w.heap.size w W)) (fun i _ => n - (intOf i).toNat)
  case atStart => exact ⟨0, by omega, rfl, P5⟩
  case round =>
    clear P5
    obtain ⟨m, hm, rfl, HR⟩ := hrel
    by_cases hlt : m < n
    · obtain ⟨z, hz⟩ : ∃ z, L[m]? = some z := ⟨_, List.getElem?_eq_getElem (by rw [← HN.out]; exact hlt)⟩
      obtain ⟨g, o, rfl, hg, d0⟩ := LiesAt.at1 (e := fun z : Int => .int .i64 z) (HA.out.below HR.out) hz
      obtain ⟨g', o', rfl, hg', d1⟩ := LiesAt.at1 (e := fun z : Int => .int .i64 z) (HB.out.below HR.out) hz
      have hm0 : (0 : Int) ≤ (m : Int) := by omega
      have hm1 : (m : Int) < (n : Int) := by omega
      have HND : Hid (∀ nq, Below w.heap.size w (wr.drewN nq)) := fun nq => HR.out.trans ⟨rfl, rfl, rfl, by simp, fun _ _ => rfl⟩
      clear hz hg hg'
      go_wp2_with fail
      go_quiet (fail)
      go_wp2_with fail
      exact ⟨⟨m + 1, by omega, by simp, HND.out _⟩, by simp [intOf]; omega⟩
    · obtain rfl : n = m := by omega
      go_wp2_with fail
      go_ret
      exact ⟨rfl, HR.out⟩
end Go.Proofs.Ytelmgaaofighpaa
