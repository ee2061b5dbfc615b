/- The document's route: a move. -/
import Derived.Test.YtemgcliihbjjiaaDoorRref3
namespace Go.Proofs.YtemgcliihbjjiaaDoor
open Go.RowKit Go.My

/-- of a row, the first j elements turned -/
def mapTo (g : Pc → Pc) (L : List Pc) (j : Nat) : List Pc := (L.take j).map g ++ L.drop j
theorem mapTo_len (g : Pc → Pc) (L : List Pc) (j : Nat) : (mapTo g L j).length = L.length := by unfold mapTo; simp; omega
theorem mapTo_at {g : Pc → Pc} {L : List Pc} {j : Nat} {x : Pc} (h : L[j]? = some x) : (mapTo g L j)[j]? = some x := by
  have hl := (List.getElem?_eq_some_iff.1 h).1
  unfold mapTo
  rw [List.getElem?_append_right (by simp; omega)]
  simp only [List.length_map, List.length_take, List.getElem?_drop]
  rw [show j + (j - min j L.length) = j by omega, h]
theorem mapTo_succ {g : Pc → Pc} {L : List Pc} {j : Nat} {x : Pc} (h : L[j]? = some x) : (mapTo g L j).set j (g x) = mapTo g L (j + 1) := by
  have hl := (List.getElem?_eq_some_iff.1 h).1
  unfold mapTo
  rw [List.set_append_right _ _ (by simp; omega)]
  have e : j - ((L.take j).map g).length = 0 := by simp; omega
  rw [e, List.take_add_one, h, List.map_append, List.append_assoc]
  congr 1
  have e2 : L.drop j = x :: L.drop (j + 1) := by
    rw [List.drop_eq_getElem_cons hl]
    obtain ⟨_, h2⟩ := List.getElem?_eq_some_iff.1 h
    rw [h2]
  rw [e2]
  rfl
theorem mapTo_same {g : Pc → Pc} {L : List Pc} {j : Nat} {x : Pc} (h : L[j]? = some x) (hg : g x = x) : mapTo g L (j + 1) = mapTo g L j := by
  have h1 := mapTo_at (g := g) h
  have h2 := mapTo_succ (g := g) h
  rw [hg] at h2
  rw [← h2]
  have hl := (List.getElem?_eq_some_iff.1 h1).1
  obtain ⟨_, h3⟩ := List.getElem?_eq_some_iff.1 h1
  conv => lhs; rw [← h3]
  exact List.set_getElem_self hl
theorem mapTo_all (g : Pc → Pc) (L : List Pc) : mapTo g L L.length = L.map g := by unfold mapTo; simp
theorem cutL_ep (k : ByteArray) : ∀ (L : List Pc) (x : Pc), x ∈ cutL k L → ∃ y, y ∈ L ∧ x.ep = y.ep
  | [], x, h => by simp [cutL] at h
  | a :: r, x, h => by
    have ih := cutL_ep k r x
    rw [cutL] at h
    have h' : x = a ∨ x = ⟨k, a.sh, a.ep⟩ ∨ x ∈ cutL k r := by
      split at h
      · simpa using h
      · rcases List.mem_cons.1 h with h | h
        · exact .inl h
        · exact .inr (.inr h)
    rcases h' with rfl | rfl | h'
    · exact ⟨x, by simp, rfl⟩
    · exact ⟨a, by simp, rfl⟩
    · obtain ⟨y, hy, e⟩ := ih h'
      exact ⟨y, by simp [hy], e⟩
theorem cut2_ep {l : List Pc} {f t : ByteArray} {x : Pc} (h : x ∈ cut2 l f t) : ∃ y, y ∈ l ∧ x.ep = y.ep := by
  unfold cut2 at h
  split at h
  · exact cutL_ep _ _ _ h
  · obtain ⟨y, hy, e⟩ := cutL_ep _ _ _ h
    obtain ⟨z, hz, e2⟩ := cutL_ep _ _ _ hy
    exact ⟨z, hz, e.trans e2⟩
theorem cutL_len (k : ByteArray) (L : List Pc) : (cutL k L).length ≤ 2 * L.length := by rw [← cutP_all]; exact cutP_len k L _
/-- is a piece of a range? -/
def inP (f t : ByteArray) (x : Pc) : Bool := !lessK x.fr f && (decide (t.size = 0) || lessK x.fr t)
theorem bumpR_in {f t : ByteArray} {s : Int} {x : Pc} (h : inP f t x = true) : bumpR f t s x = bump s x := by unfold bumpR; unfold inP at h; rw [if_pos h]
theorem bumpR_out {f t : ByteArray} {s : Int} {x : Pc} (h : inP f t x = false) : bumpR f t s x = x := by unfold bumpR; unfold inP at h; rw [if_neg (by rw [h]; simp)]
def fullP (f t : ByteArray) (x : Pc) : Bool := inP f t x && decide (1099511627776 ≤ x.ep)
theorem doc_full {l : List Pc} (h : Ok l) {f t : ByteArray} (hr : rangedB f t = true) : (cut2 l f t).any (fullP f t) = fullB (ownL l f t) := by
  obtain ⟨P, o, os, S, p⟩ := parts_of h (ranged_lt hr)
  rw [p.own]
  have := p.full h (ranged_lt hr)
  rw [← this]
  exact any_same _ fun x _ => by unfold fullP inP; rfl
theorem doc_mov {l : List Pc} (h : Ok l) {f t : ByteArray} (hr : rangedB f t = true) (s : Int) : (cut2 l f t).map (bumpR f t s) = movL l f t s ∧ (cut2 l f t).length = (movL l f t s).length := by
  obtain ⟨P, o, os, S, p⟩ := parts_of h (ranged_lt hr)
  have := p.doc (ranged_lt hr) s
  exact ⟨this, by rw [← this, List.length_map]⟩
theorem any_take2 {l : List Pc} {p : Pc → Bool} {j : Nat} {r : Pc} (h : l[j]? = some r) : (l.take (j + 1)).any p = ((l.take j).any p || p r) := any_take h
theorem flatP_set_sh {L : List Pc} {i : Nat} {x : Pc} (h : L[i]? = some x) (z : Int) : (L.flatMap pcL).set (i * 3 + 1) (.int .i64 z) = (L.set i ⟨x.fr, z, x.ep⟩).flatMap pcL := (flat_set h).2.1 z
def DocMove (w : World) (d : Nat) (l : List Pc) (f t : ByteArray) (s : Int) (e : Ending) (w' : World) : Prop :=
  Wrote [d] w w' ∧ e = .returned (.tuple #[.int .i64 (errE (moveErr l f t s)), .int .i64 (errA (moveErr l f t s))]) ∧ ∃ a cap, DtAt w' d a cap (moveL l f t s)
theorem doc_err {w w' : World} {d cap : Nat} {a : Option Addr} {l : List Pc} {f t : ByteArray} {s : Int} {q : Int × Int} (h : DtAt w d a cap l) (hb : Below w.heap.size w w') (he : moveErr l f t s = some q) : DocMove w d l f t s (.returned (.tuple #[.int .i64 q.1, .int .i64 q.2])) w' :=
  ⟨(Wrote.of_below (S := [d]) hb), by rw [he]; rfl, a, cap, by rw [moveL_some he]; exact h.below hb⟩
set_option maxRecDepth 100000 in
set_option maxHeartbeats 6400000 in
theorem docmove_19 (d : Nat) (a : Option Addr) (cap : Nat) (l : List Pc) (f t : ByteArray) (s : Int) (w : World) (h : DtAt w d a cap l) :
    Calls Tryd.prog 19 #[.pointer (some ⟨d, 0, none⟩), .string f, .string t, .int .i64 s] w (DocMove w d l f t s) := by
  have H := Lib.hid h
  have HG := Lib.hid (is_38 f t)
  cases hg : rangedB f t with
  | false =>
    rw [hg] at HG
    have HE := Lib.hid (doc_err (f := f) (t := t) (s := s) (q := (91, 0)) h (Below.refl _ _) (by unfold moveErr; rw [if_pos hg]))
    clear h hg
    go_enter Tryd.func19, Tryd.ntmps19
    go_wp2_with (go_at_call 38; refine (HG.out _).mono ?_; rintro e w2 ⟨rfl, rfl⟩)
    go_ret2
    exact HE.out
  | true =>
    rw [hg] at HG
    by_cases hs : s < 0 ∨ 4 ≤ s
    · have HE := Lib.hid (doc_err (f := f) (t := t) (s := s) (q := (1, s)) h (Below.refl _ _) (by unfold moveErr; rw [if_neg (by simp [hg]), if_pos hs]))
      clear h hg
      by_cases hs0 : s < 0
      · clear hs
        go_enter Tryd.func19, Tryd.ntmps19
        go_wp2_with (go_at_call 38; refine (HG.out _).mono ?_; rintro e w2 ⟨rfl, rfl⟩)
        go_ret2
        exact HE.out
      · have hs4 : 4 ≤ s := by omega
        clear hs
        go_enter Tryd.func19, Tryd.ntmps19
        go_wp2_with (go_at_call 38; refine (HG.out _).mono ?_; rintro e w2 ⟨rfl, rfl⟩)
        go_ret2
        exact HE.out
    · have hs0 : ¬ s < 0 := by omega
      have hs4 : ¬ 4 ≤ s := by omega
      have hlen := h.ok.len
      have HCU := Lib.hid (cut_39 a cap l f w h.src (by omega))
      have HCU2 : Hid (∀ W a' c', SrcAny W a' c' (cutL f l) → Calls Tryd.prog 39 #[.slice a' (cutL f l).length c', .string t] W (RowLeft W (cutL t (cutL f l)))) := fun W a' c' hs => cut_39 a' c' (cutL f l) t W hs (by have := cutL_len f l; omega)
      have HDF := Lib.hid (doc_full h.ok hg)
      have HDM := Lib.hid (doc_mov h.ok hg s)
      have HEP : Hid (∀ x, x ∈ cut2 l f t → 1 ≤ x.ep ∧ x.ep ≤ 1099511627776) := fun x hx => by
        obtain ⟨y, hy, e⟩ := cut2_ep hx
        have := h.ok.fit y hy
        unfold fitB at this
        simp only [Bool.and_eq_true, decide_eq_true_eq] at this
        rw [e]
        exact ⟨this.1.2, this.2⟩
      have HQL : Hid ((cut2 l f t).length ≤ 34) := by
        obtain ⟨P, o, os, S, p⟩ := parts_of h.ok (ranged_lt hg)
        have h1 := (p.mov_len s).2
        have h2 := HDM.out.2
        show _ ≤ _
        omega
      have HMV : Hid (moveErr l f t s = if (cut2 l f t).any (fullP f t) = true then some (1, -1) else if 32 < (cut2 l f t).length then some (71, ((cut2 l f t).length : Int)) else none) := by
        show _ = _
        unfold moveErr
        rw [if_neg (by simp [hg]), if_neg (by omega), HDF.out, HDM.out.2]
      have c0 := h.c0
      have ld := lt_of_heap h.cell
      obtain ⟨n, hn⟩ : ∃ n, n = l.length := ⟨_, rfl⟩
      rw [← hn] at c0 HCU
      clear h hg hs hlen hn
      go_enter Tryd.func19, Tryd.ntmps19
      go_wp2_with (go_at_call 38; refine (HG.out _).mono ?_; rintro e w2 ⟨rfl, rfl⟩)
      refine HCU.out.mono ?_
      rintro e w1 ⟨v1, rfl, hown, hb⟩
      have HR1 : Hid (CutRow w (cutL f l) v1 w1) := ⟨hown, hb⟩
      clear hown hb HCU c0 ld
      go_upto_if 31 with fail
      obtain ⟨ntb, htb⟩ : ∃ b, (!t.toList.isEmpty) = b := ⟨_, rfl⟩
      have HTB : Hid (ntb = decide (t.size ≠ 0)) := by
        show _ = _
        rw [← htb]
        by_cases h0 : t.size = 0
        · rw [size_empty h0, Lib.toList_data]; rfl
        · have h1 := empty_ne h0
          cases hq : t.toList with
          | nil =>
            exfalso
            apply h0
            have h2 := bytes_eq (a := t) (b := ByteArray.empty) (by rw [hq, Lib.toList_data]; rfl)
            rw [h2]; rfl
          | cons y ys => simp [h0]
      rw [htb]
      clear htb
      obtain ⟨Q, hQ⟩ : ∃ Q, Q = cut2 l f t := ⟨_, rfl⟩
      have HQ := Lib.hid hQ
      rw [← hQ] at HDF HDM HEP HQL HMV
      go_cut [10] from 32 to 34 (fun v wx => CutRow w Q v wx)
      case first =>
        cases ntb with
        | false =>
          have HE : Hid (CutRow w Q v1 w1) := by
            have h0 : t.size = 0 := by have := HTB.out; simpa using this
            show CutRow _ _ _ _
            rw [hQ]
            unfold cut2
            rw [if_pos h0]
            exact HR1.out
          clear hQ
          go_wp2_with fail
          go_meet
          exact HE.out
        | true =>
          have h0 : t.size ≠ 0 := by have := HTB.out; simpa using this
          obtain ⟨a1, c1, e1, -⟩ := row_form HR1.out.1
          have HCC := Lib.hid (HCU2.out w1 a1 c1 (row_src (by rw [← e1]; exact HR1.out.1) rfl))
          have HQE : Hid (Q = cutL t (cutL f l)) := by show _ = _; rw [hQ]; unfold cut2; rw [if_neg h0]
          subst e1
          clear hQ h0
          go_wp2_with fail
          refine HCC.out.mono ?_
          rintro e w2 ⟨v2, rfl, hown, hb⟩
          have HE : Hid (CutRow w Q v2 w2) := by
            show CutRow _ _ _ _
            rw [HQE.out]
            exact ⟨row_lower HR1.out.2.size hown, HR1.out.2.trans (hb.mono HR1.out.2.size)⟩
          clear hown hb
          go_wp2_with fail
          go_meet
          exact HE.out
      case rest =>
        obtain ⟨wQ, rfl⟩ : ∃ x : World, x = wc := ⟨_, rfl⟩
        have HR := Lib.hid hcut
        obtain ⟨aq, cq, e1, hpos⟩ := row_form hcut.1
        subst e1
        have hld := lt_of_heap H.out.cell
        have HLD := Lib.hid hld
        obtain ⟨q, hq⟩ : ∃ q, q = Q.length := ⟨_, rfl⟩
        have HQN := Lib.hid hq
        have hq9 : (q : Int) ≤ 34 := by have := HQL.out; omega
        have HRS := Lib.hid (row_src hcut.1 rfl)
        rw [← hq] at hcut ⊢
        have HR := Lib.hid hcut
        rw [← hq] at HMV
        have P0 : Hid ((Q.take 0).any (fullP f t) = false) := rfl
        clear hQ hcut hpos hld hq HR1 HCU2 HDF
        go_wp2_with fail
        go_loopw [11] (fun i wr => ∃ j : Nat, j ≤ q ∧ i = .int .i64 j ∧ Hid ((Q.take j).any (fullP f t) = false) ∧ wr = wQ) (fun i _ => q - (intOf i).toNat)
        case atStart => exact ⟨0, by omega, rfl, P0, rfl⟩
        case round =>
          clear P0
          obtain ⟨j, hj, rfl, HA, ew⟩ := hrel
          obtain rfl : wQ = wr := ew.symm
          by_cases hlt : j < q
          · obtain ⟨x, hx⟩ : ∃ x, Q[j]? = some x := ⟨_, List.getElem?_eq_getElem (by rw [← HQN.out]; exact hlt)⟩
            obtain ⟨g, o, rfl, lg, hc⟩ := HRS.out.lies j x hx
            have d0 : wQ.cell? ⟨g, o + j * 3, none⟩ = some (.string x.fr) := hc 0 _ rfl
            have d2 : wQ.cell? ⟨g, o + j * 3 + 2, none⟩ = some (.int .i64 x.ep) := hc 2 _ rfl
            have hj0 : (0 : Int) ≤ (j : Int) := by omega
            have hj1 : (j : Int) < (q : Int) := by omega
            have HT := any_take2 (p := fullP f t) hx
            rw [HA.out, Bool.false_or] at HT
            have HTT := Lib.hid HT
            have HHIT : Hid (fullP f t x = true → moveErr l f t s = some (1, -1)) := fun hf => by
              rw [HMV.out, if_pos (List.any_eq_true.2 ⟨x, List.mem_of_getElem? hx, hf⟩)]
            clear hx hc HT
            cases h1 : lessK x.fr f with
            | true =>
              have b1 : Op.bytesLess x.fr.toList f.toList = true := h1
              have HNX : Hid ((Q.take (j + 1)).any (fullP f t) = false) := by show _ = _; rw [HTT.out]; unfold fullP inP; rw [h1]; rfl
              clear h1
              go_wp2_with fail
              exact ⟨⟨j + 1, by omega, by simp, HNX, trivial⟩, by simp [intOf]; omega⟩
            | false =>
              have b1 : Op.bytesLess x.fr.toList f.toList = false := h1
              by_cases h0 : t.size = 0
              · obtain rfl := size_empty h0
                by_cases h3 : 1099511627776 ≤ x.ep
                · have HE := Lib.hid (HHIT.out (by unfold fullP inP; rw [h1]; simp [h3]))
                  clear h1 h0
                  go_wp2_with fail
                  go_ret2
                  exact doc_err (q := (1, -1)) H.out HR.out.2 HE.out
                · have HNX : Hid ((Q.take (j + 1)).any (fullP f ByteArray.empty) = false) := by show _ = _; rw [HTT.out]; unfold fullP inP; rw [h1]; simp [h3]
                  clear h1 h0
                  go_wp2_with fail
                  exact ⟨⟨j + 1, by omega, by simp, HNX, trivial⟩, by simp [intOf]; omega⟩
              · have e4 := empty_ne h0
                cases h2 : lessK x.fr t with
                | false =>
                  have b2 : Op.bytesLess x.fr.toList t.toList = false := h2
                  have HNX : Hid ((Q.take (j + 1)).any (fullP f t) = false) := by show _ = _; rw [HTT.out]; unfold fullP inP; rw [h1, h2]; simp [h0]
                  clear h1 h0 h2
                  go_wp2_with fail
                  exact ⟨⟨j + 1, by omega, by simp, HNX, trivial⟩, by simp [intOf]; omega⟩
                | true =>
                  have b2 : Op.bytesLess x.fr.toList t.toList = true := h2
                  by_cases h3 : 1099511627776 ≤ x.ep
                  · have HE := Lib.hid (HHIT.out (by unfold fullP inP; rw [h1, h2]; simp [h3]))
                    clear h1 h0 h2
                    go_wp2_with fail
                    go_ret2
                    exact doc_err (q := (1, -1)) H.out HR.out.2 HE.out
                  · have HNX : Hid ((Q.take (j + 1)).any (fullP f t) = false) := by show _ = _; rw [HTT.out]; unfold fullP inP; rw [h1, h2]; simp [h3]
                    clear h1 h0 h2
                    go_wp2_with fail
                    exact ⟨⟨j + 1, by omega, by simp, HNX, trivial⟩, by simp [intOf]; omega⟩
          · obtain rfl : j = q := by omega
            have HAF : Hid (Q.any (fullP f t) = false) := by
              have h1 := HA.out
              rw [List.take_of_length_le (by rw [← HQN.out]; exact Nat.le_refl _)] at h1
              exact h1
            have HME : Hid (moveErr l f t s = if 32 < j then some (71, (j : Int)) else none) := by show _ = _; rw [HMV.out, HAF.out]; simp
            clear HA HMV
            by_cases h32 : 32 < j
            · have h32i : (32 : Int) < (j : Int) := by omega
              have HE := Lib.hid (HME.out.trans (if_pos h32))
              clear h32
              go_wp2_with fail
              go_ret2
              exact doc_err (q := (71, (j : Int))) H.out HR.out.2 HE.out
            · have h32i : ¬ (32 : Int) < (j : Int) := by omega
              have HE := Lib.hid (HME.out.trans (if_neg h32))
              have P1 : Hid (wQ.ownsRow w.heap.size 35 3 (.slice aq j cq) j ((mapTo (bumpR f t s) Q 0).flatMap pcL) ∧ Below w.heap.size w wQ) := ⟨by have h1 := HR.out.1; rw [← HQN.out] at h1; exact h1, HR.out.2⟩
              clear h32 HRS
              go_wp2_with fail
              go_loopw [12] (fun i wr => ∃ j3 : Nat, j3 ≤ j ∧ i = .int .i64 j3 ∧ Hid (wr.ownsRow w.heap.size 35 3 (.slice aq j cq) j ((mapTo (bumpR f t s) Q j3).flatMap pcL) ∧ Below w.heap.size w wr)) (fun i _ => j - (intOf i).toNat)
              case atStart => exact ⟨0, by omega, rfl, P1⟩
              case round =>
                clear P1
                obtain ⟨j3, hj3, rfl, HB2⟩ := hrel
                by_cases hlt3 : j3 < j
                · obtain ⟨x, hx⟩ : ∃ x, Q[j3]? = some x := ⟨_, List.getElem?_eq_getElem (by rw [← HQN.out]; exact hlt3)⟩
                  obtain ⟨g, rfl, hg1, lg⟩ := row_pos HB2.out.1 (by omega)
                  have hbn : j = (mapTo (bumpR f t s) Q j3).length := by rw [mapTo_len, HQN.out]
                  have hcell := fun (i : Nat) (hq : i < 3) => row_cell HB2.out.1 pcL_len hbn (mapTo_at (g := bumpR f t s) hx) hq
                  have d0 : wr.cell? ⟨g, j3 * 3, none⟩ = some (.string x.fr) := hcell 0 (by omega)
                  have d1 : wr.cell? ⟨g, j3 * 3 + 1, none⟩ = some (.int .i64 x.sh) := hcell 1 (by omega)
                  have d2 : wr.cell? ⟨g, j3 * 3 + 2, none⟩ = some (.int .i64 x.ep) := hcell 2 (by omega)
                  have fz : ∀ i, wr.frozen? ⟨g, i, none⟩ = false := fun i => HB2.out.1.frozenAt i
                  obtain ⟨he1, he2⟩ := HEP.out x (List.mem_of_getElem? hx)
                  have hw1 : IntKind.i64.wrap (x.ep + 1) = x.ep + 1 := IntWalk.i64_in _ (by omega)
                  have hj30 : (0 : Int) ≤ (j3 : Int) := by omega
                  have hj31 : (j3 : Int) < (j : Int) := by omega
                  clear hbn hcell he1 he2
                  cases h1 : lessK x.fr f with
                  | true =>
                    have b1 : Op.bytesLess x.fr.toList f.toList = true := h1
                    have HIP : Hid (inP f t x = false) := by show _ = _; unfold inP; rw [h1]; rfl
                    clear h1
                    have HSAME : Hid (wr.ownsRow w.heap.size 35 3 (.slice (some ⟨g, 0, none⟩) j cq) j ((mapTo (bumpR f t s) Q (j3 + 1)).flatMap pcL) ∧ Below w.heap.size w wr) := by
                      show _ ∧ _
                      rw [mapTo_same hx (bumpR_out HIP.out)]
                      exact HB2.out
                    clear hx HIP hg1
                    go_wp2_with fail
                    exact ⟨⟨j3 + 1, by omega, by simp, HSAME⟩, by simp [intOf]; omega⟩
                  | false =>
                    have b1 : Op.bytesLess x.fr.toList f.toList = false := h1
                    by_cases h0 : t.size = 0
                    · have e5 : t.toList = [] := by rw [size_empty h0, Lib.toList_data]; rfl
                      have e6 : (!t.toList.isEmpty) = false := by rw [e5]; rfl
                      have HIP : Hid (inP f t x = true) := by show _ = _; unfold inP; rw [h1]; simp [h0]
                      clear h1 h0
                      have HSET : Hid (((wr.setCell ⟨g, j3 * 3 + 1, none⟩ (.int .i64 s)).setCell ⟨g, j3 * 3 + 2, none⟩ (.int .i64 (x.ep + 1))).ownsRow w.heap.size 35 3 (.slice (some ⟨g, 0, none⟩) j cq) j ((mapTo (bumpR f t s) Q (j3 + 1)).flatMap pcL) ∧ Below w.heap.size w ((wr.setCell ⟨g, j3 * 3 + 1, none⟩ (.int .i64 s)).setCell ⟨g, j3 * 3 + 2, none⟩ (.int .i64 (x.ep + 1)))) := by
                        obtain ⟨h1, h2⟩ := HB2.out.1.stored (j3 * 3 + 1) (.int .i64 s)
                        rw [(flat_set (mapTo_at (g := bumpR f t s) hx)).2.1] at h1
                        obtain ⟨h3, h4⟩ := h1.stored (j3 * 3 + 2) (.int .i64 (x.ep + 1))
                        have hlt2 : j3 < (mapTo (bumpR f t s) Q j3).length := by rw [mapTo_len, ← HQN.out]; exact hlt3
                        rw [(flat_set (x := ⟨x.fr, s, x.ep⟩) (by rw [List.getElem?_set_self hlt2])).2.2, List.set_set] at h3
                        refine ⟨by rw [← mapTo_succ hx, bumpR_in HIP.out]; exact h3, ?_⟩
                        have hA := (Wrote.of_grown h2).below (N := w.heap.size) HB2.out.2.size fun k hk => by simp at hk; omega
                        have hB := (Wrote.of_grown h4).below (N := w.heap.size) (by simpa using HB2.out.2.size) fun k hk => by simp at hk; omega
                        exact (HB2.out.2.trans hA).trans hB
                      clear hx HIP hg1
                      go_wp2_with fail
                      exact ⟨⟨j3 + 1, by omega, by simp, HSET⟩, by simp [intOf]; omega⟩
                    · have e4 := empty_ne h0
                      cases h2 : lessK x.fr t with
                      | false =>
                        have b2 : Op.bytesLess x.fr.toList t.toList = false := h2
                        have HIP : Hid (inP f t x = false) := by show _ = _; unfold inP; rw [h1, h2]; simp [h0]
                        clear h1 h0 h2
                        have HSAME : Hid (wr.ownsRow w.heap.size 35 3 (.slice (some ⟨g, 0, none⟩) j cq) j ((mapTo (bumpR f t s) Q (j3 + 1)).flatMap pcL) ∧ Below w.heap.size w wr) := by
                          show _ ∧ _
                          rw [mapTo_same hx (bumpR_out HIP.out)]
                          exact HB2.out
                        clear hx HIP hg1
                        go_wp2_with fail
                        exact ⟨⟨j3 + 1, by omega, by simp, HSAME⟩, by simp [intOf]; omega⟩
                      | true =>
                        have b2 : Op.bytesLess x.fr.toList t.toList = true := h2
                        have HIP : Hid (inP f t x = true) := by show _ = _; unfold inP; rw [h1, h2]; simp
                        clear h1 h0 h2
                        have HSET : Hid (((wr.setCell ⟨g, j3 * 3 + 1, none⟩ (.int .i64 s)).setCell ⟨g, j3 * 3 + 2, none⟩ (.int .i64 (x.ep + 1))).ownsRow w.heap.size 35 3 (.slice (some ⟨g, 0, none⟩) j cq) j ((mapTo (bumpR f t s) Q (j3 + 1)).flatMap pcL) ∧ Below w.heap.size w ((wr.setCell ⟨g, j3 * 3 + 1, none⟩ (.int .i64 s)).setCell ⟨g, j3 * 3 + 2, none⟩ (.int .i64 (x.ep + 1)))) := by
                          obtain ⟨h1, h2⟩ := HB2.out.1.stored (j3 * 3 + 1) (.int .i64 s)
                          rw [(flat_set (mapTo_at (g := bumpR f t s) hx)).2.1] at h1
                          obtain ⟨h3, h4⟩ := h1.stored (j3 * 3 + 2) (.int .i64 (x.ep + 1))
                          have hlt2 : j3 < (mapTo (bumpR f t s) Q j3).length := by rw [mapTo_len, ← HQN.out]; exact hlt3
                          rw [(flat_set (x := ⟨x.fr, s, x.ep⟩) (by rw [List.getElem?_set_self hlt2])).2.2, List.set_set] at h3
                          refine ⟨by rw [← mapTo_succ hx, bumpR_in HIP.out]; exact h3, ?_⟩
                          have hA := (Wrote.of_grown h2).below (N := w.heap.size) HB2.out.2.size fun k hk => by simp at hk; omega
                          have hB := (Wrote.of_grown h4).below (N := w.heap.size) (by simpa using HB2.out.2.size) fun k hk => by simp at hk; omega
                          exact (HB2.out.2.trans hA).trans hB
                        clear hx HIP hg1
                        go_wp2_with fail
                        exact ⟨⟨j3 + 1, by omega, by simp, HSET⟩, by simp [intOf]; omega⟩
                · obtain rfl : j3 = j := by omega
                  have HR11 : Hid (wr.heap[d]? = some (.cells #[.slice a l.length cap] 54 (0, 0))) := (HB2.out.2.block _ HLD.out).trans H.out.cell
                  have fz : wr.frozen? ⟨d, 0, none⟩ = false := by simp [World.frozen?, HR11.out]
                  have ld := lt_of_heap HR11.out
                  have c0 : wr.cell? ⟨d, 0, none⟩ = some (.slice a l.length cap) := by rw [cell_of_row _ _ _ _ _ _ HR11.out]; rfl
                  have HMM : Hid (mapTo (bumpR f t s) Q j3 = movL l f t s ∧ j3 = (movL l f t s).length) := by
                    refine ⟨?_, by rw [HQN.out]; exact HDM.out.2⟩
                    rw [HQN.out, mapTo_all]
                    exact HDM.out.1
                  have HFIN : Hid (DocMove w d l f t s (.returned (.tuple #[.int .i64 0, .int .i64 0])) (wr.setCell ⟨d, 0, none⟩ (.slice aq j3 cq))) := by
                    refine ⟨((Wrote.of_below (S := [d]) HB2.out.2)).setCell (.inl (List.mem_singleton.2 rfl)) _, by rw [HE.out]; rfl, aq, cq, ?_⟩
                    have hok := ok_move H.out.ok f t s
                    rw [moveL_none HE.out] at hok ⊢
                    refine ⟨?_, ?_, hok⟩
                    · rw [← HMM.out.2]
                      exact heap_setCell_same _ d 0 _ _ _ HR11.out
                    · have h1 := HB2.out.1
                      rw [HMM.out.1] at h1
                      have h2 := HMM.out.2
                      have h3 := HLD.out
                      exact row_src (row_wrote h1 ((Wrote.refl [d] wr).setCell (.inl (List.mem_singleton.2 rfl)) _) (fun g hg hm => by
                        have h4 := (row_block h1 hg).1
                        obtain rfl : g = d := by simpa using hm
                        omega)) h2
                  clear HB2
                  go_wp2_with fail
                  go_ret2
                  exact HFIN.out
end Go.Proofs.YtemgcliihbjjiaaDoor
