/- Seals: the document's. -/
import Derived.Test.YtmpbeopbkllcnaaDoorSeNames
import Derived.Test.YtmpbeopbkllcnaaDoorTold
namespace Go.Proofs.YtmpbeopbkllcnaaDoor.Seals
open Go.RowKit Go.My

def slL (p : Int × Int) : List Value := [.int .i64 p.1, .int .i64 p.2]
theorem slL_len (p : Int × Int) : (slL p).length = 2 := rfl
theorem sl_info : (Tryd.prog.info? 101).map (fun i => (i.zero, i.size, i.bytes)) = some (some (.agg #[.int .i64 0, .int .i64 0]), 2, 16) := by kernel_rfl
structure RsAt (w : World) (base d : Nat) (v : Value) (L : List (Int × Int)) : Prop where
  blk : w.heap[d]? = some (.cells #[v] 29 (0, 0))
  row : w.ownsRow base 101 2 v L.length (L.flatMap slL)
  bd : base ≤ d
theorem RsAt.c0 {w : World} {base d : Nat} {v : Value} {L : List (Int × Int)} (h : RsAt w base d v L) : w.cell? ⟨d, 0, none⟩ = some v := by rw [cell_of_row _ _ _ _ _ _ h.blk]; rfl
theorem RsAt.ne {w : World} {base d : Nat} {v : Value} {L : List (Int × Int)} (h : RsAt w base d v L) : ∀ g, v.ownBlock = some g → g ≠ d := fun g hg e => by
  subst e
  obtain ⟨_, cur, hc⟩ := row_block h.row hg
  rw [h.blk] at hc
  cases hc
theorem RsAt.below {w w' : World} {base d : Nat} {v : Value} {L : List (Int × Int)} (h : RsAt w base d v L) (hb : Below w.heap.size w w') : RsAt w' base d v L :=
  ⟨(hb.block _ (lt_of_heap h.blk)).trans h.blk, row_below h.row hb, h.bd⟩
theorem RsAt.other {w w' : World} {base d : Nat} {v : Value} {L : List (Int × Int)} {S : List Nat} (h : RsAt w base d v L) (hw : Wrote S w w') (hd : d ∉ S) (hv : ∀ g, v.ownBlock = some g → g ∉ S) : RsAt w' base d v L :=
  ⟨hw.heap h.blk hd, row_wrote h.row hw hv, h.bd⟩
def hasB (L : List (Int × Int)) (k : Int × Int) : Bool := L.contains k
theorem hasB_nil (k : Int × Int) : hasB [] k = false := rfl
theorem hasB_cons (p : Int × Int) (L : List (Int × Int)) (k : Int × Int) : hasB (p :: L) k = (decide (p = k) || hasB L k) := by
  unfold hasB
  rw [List.contains_cons, Bool.beq_eq_decide_eq]
  simp [eq_comm]
theorem hasB_append (L M : List (Int × Int)) (k : Int × Int) : hasB (L ++ M) k = (hasB L k || hasB M k) := by
  induction L with
  | nil => rw [hasB_nil]; simp
  | cons p r ih => rw [List.cons_append, hasB_cons, hasB_cons, ih, Bool.or_assoc]
theorem hasB_mem {L : List (Int × Int)} {k : Int × Int} (h : k ∈ L) : hasB L k = true := by simpa [hasB] using h
theorem aget_has {l : Seals} (k : Int × Int) : (aget l k).isSome = hasB (l.map (·.1)) k := by
  induction l with
  | nil => rfl
  | cons p r ih =>
    rw [aget_cons, List.map_cons, hasB_cons]
    by_cases h : p.1 = k
    · rw [if_pos h]; simp [h]
    · rw [if_neg h, ih]; simp [h]
theorem contains_take {L : List (Int × Int)} {k x : Int × Int} {j : Nat} (h : L[j]? = some x) : hasB (L.take (j + 1)) k = (hasB (L.take j) k || decide (x = k)) := by
  rw [List.take_add_one, h, hasB_append]
  simp [hasB_cons, hasB_nil]
set_option maxRecDepth 100000 in
set_option maxHeartbeats 1600000 in
theorem rsigned_any (base d : Nat) (v : Value) (L : List (Int × Int)) (who dg : Int) (w : World) (h : RsAt w base d v L) (hl : L.length ≤ 1000) :
    Calls Tryd.prog 14 #[.pointer (some ⟨d, 0, none⟩), .int .i64 who, .int .i64 dg] w fun e w' => e = .returned (.bool (hasB L (who, dg))) ∧ w = w' := by
  have H := Lib.hid h
  have c0 := h.c0
  have ld := lt_of_heap h.blk
  obtain ⟨a, cap, rfl, -⟩ := row_form h.row
  have HL : Hid (Lies w a 2 slL L) := row_lies h.row slL_len rfl
  obtain ⟨n, hn⟩ : ∃ n, n = L.length := ⟨_, rfl⟩
  have HN := Lib.hid hn
  have hn9 : (n : Int) ≤ 1000 := by omega
  rw [← hn] at c0
  have P0 : Hid (hasB (L.take 0) (who, dg) = false) := rfl
  clear h hl hn
  go_enter Tryd.func14, Tryd.ntmps14
  go_wp2_with fail
  go_loopw [7] (fun i wr => ∃ j : Nat, j ≤ n ∧ i = .int .i64 j ∧ Hid (hasB (L.take j) (who, dg) = false) ∧ wr = w) (fun i _ => n - (intOf i).toNat)
  case atStart => exact ⟨0, by omega, rfl, P0, rfl⟩
  case round =>
    clear P0
    obtain ⟨j, hj, rfl, HA, ew⟩ := hrel
    obtain rfl : w = wr := ew.symm
    by_cases hlt : j < n
    · obtain ⟨x, hx⟩ : ∃ x, L[j]? = some x := ⟨_, List.getElem?_eq_getElem (by rw [← HN.out]; exact hlt)⟩
      obtain ⟨g, o, rfl, lg, hc⟩ := HL.out j x hx
      have d0 : w.cell? ⟨g, o + j * 2, none⟩ = some (.int .i64 x.1) := hc 0 _ rfl
      have d1 : w.cell? ⟨g, o + j * 2 + 1, none⟩ = some (.int .i64 x.2) := hc 1 _ rfl
      have hj0 : (0 : Int) ≤ (j : Int) := by omega
      have hj1 : (j : Int) < (n : Int) := by omega
      have HT := Lib.hid (contains_take (k := (who, dg)) hx)
      have HHIT : Hid ((x = (who, dg)) → hasB L (who, dg) = true) := fun h => by
        rw [← h]
        exact hasB_mem (List.mem_of_getElem? hx)
      obtain ⟨x1, x2⟩ := x
      simp only at d0 d1
      clear hx hc
      by_cases h1 : x1 = who
      · subst h1
        by_cases h2 : x2 = dg
        · subst h2
          have HE := Lib.hid (HHIT.out rfl)
          go_wp2_with fail
          go_ret
          exact ⟨by rw [HE.out]; rfl, rfl⟩
        · have h3 : (x2 == dg) = false := by simpa using h2
          have HNX : Hid (hasB (L.take (j + 1)) (x1, dg) = false) := by
            show _ = _
            rw [HT.out, HA.out]
            simp [h2]
          clear h2
          go_wp2_with fail
          exact ⟨⟨j + 1, by omega, by simp, HNX, trivial⟩, by simp [intOf]; omega⟩
      · have h3 : (x1 == who) = false := by simpa using h1
        have HNX : Hid (hasB (L.take (j + 1)) (who, dg) = false) := by
          show _ = _
          rw [HT.out, HA.out]
          simp [h1]
        clear h1
        go_wp2_with fail
        exact ⟨⟨j + 1, by omega, by simp, HNX, trivial⟩, by simp [intOf]; omega⟩
    · obtain rfl : j = n := by omega
      have HE : Hid (hasB L (who, dg) = false) := by
        have h1 := HA.out
        rw [List.take_of_length_le (by rw [← HN.out]; exact Nat.le_refl _)] at h1
        exact h1
      go_wp2_with fail
      go_ret
      exact ⟨by rw [HE.out]; rfl, rfl⟩
theorem sl_one (p : Int × Int) : ∀ u ∈ slL p, u.oneCell' = true := by
  intro u hu
  simp only [slL, List.mem_cons, List.not_mem_nil, or_false] at hu
  rcases hu with rfl | rfl <;> rfl
theorem sl_cells (w : World) (p : Int × Int) (t : TypeId) (j : Nat) (u : Value) (h : (slL p)[j]? = some u) : (w.alloc (.cells #[.int .i64 p.1, .int .i64 p.2] t)).cell? ((⟨w.heap.size, 0, none⟩ : Addr).add j) = some u := by
  rw [Addr.add_lit, Nat.zero_add, cell_of_row _ _ _ _ _ _ (heap_alloc_new w _)]
  simpa [slL] using h
/-- What the document's Sign leaves. -/
def RsLeft (w : World) (base d : Nat) (v : Value) (L : List (Int × Int)) (who dg : Int) (e : Ending) (w' : World) : Prop :=
  e = .returned (.int .i64 (if okB who dg then 0 else 1)) ∧ ∃ v', RsAt w' base d v' (if okB who dg && !hasB L (who, dg) then L ++ [(who, dg)] else L) ∧ Wrote (d :: v.ownBlock.toList) w w'
theorem rs_same {w w' : World} {base d : Nat} {v : Value} {L : List (Int × Int)} {who dg r : Int} (h : RsAt w base d v L) (hb : Below w.heap.size w w') (hr : r = if okB who dg then 0 else 1) (hc : (okB who dg && !hasB L (who, dg)) = false) : RsLeft w base d v L who dg (.returned (.int .i64 r)) w' :=
  ⟨by rw [hr], v, by rw [hc]; exact h.below hb, Wrote.of_below hb⟩
theorem rs_push {w w2 : World} {base d : Nat} {v v' : Value} {n : Nat} {L : List (Int × Int)} {o : Obj} {p : Int × Int} (h : RsAt w base d v L) (hn : n = L.length)
    (hown : w2.ownsRow base 101 2 v' (n + 1) (L.flatMap slL ++ slL p)) (hgrow : (w.alloc o).grownBy w2 v.ownBlock) :
    w2.heap[d]? = some (.cells #[v] 29 (0, 0)) ∧ RsAt (w2.setCell ⟨d, 0, none⟩ v') base d v' (L ++ [p]) ∧ Wrote (d :: v.ownBlock.toList) w (w2.setCell ⟨d, 0, none⟩ v') := by
  have hw : Wrote v.ownBlock.toList w w2 := ((Wrote.refl _ w).alloc o).trans (Wrote.of_grown hgrow)
  have hd : w2.heap[d]? = some (.cells #[v] 29 (0, 0)) := hw.heap h.blk (fun hm => h.ne d (by simpa using hm) rfl)
  refine ⟨hd, ⟨heap_setCell_same _ d 0 _ _ _ hd, ?_, h.bd⟩, (hw.mono fun k hk => List.mem_cons_of_mem d hk).setCell (p := ⟨d, 0, none⟩) (.inl (List.mem_cons_self)) _⟩
  rw [List.length_append, List.flatMap_append, ← hn]
  have h1 : w2.ownsRow base 101 2 v' (n + 1) (L.flatMap slL ++ [p].flatMap slL) := by simpa using hown
  refine row_wrote h1 ((Wrote.refl [d] w2).setCell (.inl (List.mem_singleton.2 rfl)) _) fun g hg hm => ?_
  obtain rfl : g = d := by simpa using hm
  obtain ⟨_, cur, hc⟩ := row_block h1 hg
  rw [hd] at hc
  cases hc
set_option maxRecDepth 100000 in
set_option maxHeartbeats 3200000 in
theorem rsign_any (base d : Nat) (v : Value) (L : List (Int × Int)) (who dg : Int) (w : World) (h : RsAt w base d v L) (hl : L.length ≤ 1000) (hbase : base ≤ w.heap.size) :
    Calls Tryd.prog 9 #[.pointer (some ⟨d, 0, none⟩), .int .i64 who, .int .i64 dg] w (RsLeft w base d v L who dg) := by
  have H := Lib.hid h
  have HG := Lib.hid (rgroup_any who)
  have HC := Lib.hid (rclient_any who)
  have HS := Lib.hid (rsigned_any base d v L who dg w h hl)
  have HK : Hid (okB who dg = (!(decide (cli who < 0) && decide ((grp who).1 < 0)) && decide (0 ≤ dg))) := Lib.hid rfl
  obtain ⟨g1, hg1⟩ : ∃ g, g = (grp who).1 := ⟨_, rfl⟩
  obtain ⟨g2, hg2⟩ : ∃ g, g = (grp who).2 := ⟨_, rfl⟩
  obtain ⟨c, hc⟩ : ∃ c, c = cli who := ⟨_, rfl⟩
  rw [← hg1, ← hg2] at HG
  rw [← hc] at HC
  rw [← hc, ← hg1] at HK
  clear hg1 hg2 hc
  obtain ⟨ok, hok⟩ : ∃ ok, ok = okB who dg := ⟨_, rfl⟩
  have HOK := Lib.hid hok
  rw [← hok] at HK
  clear hok
  cases ok with
  | false =>
    have HE : Hid (RsLeft w base d v L who dg (.returned (.int .i64 1)) w) := rs_same h (Below.refl _ _) (by rw [← HOK.out]; rfl) (by rw [← HOK.out]; rfl)
    clear h HS
    by_cases h1 : c < 0
    · by_cases h2 : g1 < 0
      · clear HK
        go_enter Tryd.func9, Tryd.ntmps9
        go_wp2_with (first | (go_at_call 48; refine (HG.out _).mono ?_; rintro e w1 ⟨rfl, rfl⟩) | (go_at_call 49; refine (HC.out _).mono ?_; rintro e w1 ⟨rfl, rfl⟩))
        go_ret
        exact HE.out
      · have h3 : dg < 0 := by
          have := HK.out
          simp [h2] at this
          omega
        clear HK
        go_enter Tryd.func9, Tryd.ntmps9
        go_wp2_with (first | (go_at_call 48; refine (HG.out _).mono ?_; rintro e w1 ⟨rfl, rfl⟩) | (go_at_call 49; refine (HC.out _).mono ?_; rintro e w1 ⟨rfl, rfl⟩))
        go_ret
        exact HE.out
    · have h3 : dg < 0 := by
        have := HK.out
        simp [h1] at this
        omega
      clear HK
      go_enter Tryd.func9, Tryd.ntmps9
      go_wp2_with (first | (go_at_call 48; refine (HG.out _).mono ?_; rintro e w1 ⟨rfl, rfl⟩) | (go_at_call 49; refine (HC.out _).mono ?_; rintro e w1 ⟨rfl, rfl⟩))
      go_ret
      exact HE.out
  | true =>
    have hd0 : ¬ dg < 0 := by
      have := HK.out
      simp at this
      omega
    have hcg : ¬ c < 0 ∨ ¬ g1 < 0 := by
      have := HK.out
      simp at this
      omega
    obtain ⟨sb, hsb⟩ : ∃ sb, sb = hasB L (who, dg) := ⟨_, rfl⟩
    have HSB := Lib.hid hsb
    rw [← hsb] at HS
    have c0 := h.c0
    have ld := lt_of_heap h.blk
    have hne := h.ne
    obtain ⟨a, cap, hv, -⟩ := row_form h.row
    obtain ⟨n, hn⟩ : ∃ n, n = L.length := ⟨_, rfl⟩
    have HN := Lib.hid hn
    have hn9 : (n : Int) ≤ 1000 := by omega
    rw [← hn] at hv
    clear hsb HK
    cases sb with
    | true =>
      have HE : Hid (RsLeft w base d v L who dg (.returned (.int .i64 0)) w) := rs_same h (Below.refl _ _) (by rw [← HOK.out]; rfl) (by rw [← HOK.out, ← HSB.out]; rfl)
      clear h hv hn hl hne
      rcases hcg with h1 | h1
      · go_enter Tryd.func9, Tryd.ntmps9
        go_wp2_with (first | (go_at_call 48; refine (HG.out _).mono ?_; rintro e w1 ⟨rfl, rfl⟩) | (go_at_call 49; refine (HC.out _).mono ?_; rintro e w1 ⟨rfl, rfl⟩) | (go_at_call 14; refine HS.out.mono ?_; rintro e w1 ⟨rfl, rfl⟩))
        go_ret
        exact HE.out
      · by_cases h2 : c < 0
        · go_enter Tryd.func9, Tryd.ntmps9
          go_wp2_with (first | (go_at_call 48; refine (HG.out _).mono ?_; rintro e w1 ⟨rfl, rfl⟩) | (go_at_call 49; refine (HC.out _).mono ?_; rintro e w1 ⟨rfl, rfl⟩) | (go_at_call 14; refine HS.out.mono ?_; rintro e w1 ⟨rfl, rfl⟩))
          go_ret
          exact HE.out
        · go_enter Tryd.func9, Tryd.ntmps9
          go_wp2_with (first | (go_at_call 48; refine (HG.out _).mono ?_; rintro e w1 ⟨rfl, rfl⟩) | (go_at_call 49; refine (HC.out _).mono ?_; rintro e w1 ⟨rfl, rfl⟩) | (go_at_call 14; refine HS.out.mono ?_; rintro e w1 ⟨rfl, rfl⟩))
          go_ret
          exact HE.out
    | false =>
      obtain ⟨i0, hi0, hz0, hz1, hz2⟩ := info_parts sl_info
      have HI := Lib.hid hi0
      have HZ0 := Lib.hid hz0
      have HZ1 := Lib.hid hz1
      have HZ2 := Lib.hid hz2
      clear hi0 hz0 hz1 hz2 hn hl hne
      subst hv
      rcases hcg with h1 | h1
      · skip
        go_enter Tryd.func9, Tryd.ntmps9
        clear h
        go_wp2_with (first | (go_at_call 48; refine (HG.out _).mono ?_; rintro e w1 ⟨rfl, rfl⟩) | (go_at_call 49; refine (HC.out _).mono ?_; rintro e w1 ⟨rfl, rfl⟩))
        refine HS.out.mono ?_; rintro e w1 ⟨rfl, rfl⟩
        obtain ⟨z, hz⟩ : ∃ z : Int, z = n := ⟨_, rfl⟩
        have HZ := Lib.hid hz
        have hz7 : z < 131072 := by omega
        have HN9 := Lib.hid hn9
        clear hn9 hz
        go_wp2_with (first | rw [← HZ.out] | (at_builtin; go_loud (refine wpList_append_own _ rfl _ _ 27 rfl base 101 i0 _ 2 16 Tryd.underlying27 HI.out HZ0.out HZ1.out HZ2.out rfl (by decide) _ n (L.flatMap slL) rfl (by have := H.out.row; rw [← HN.out] at this; exact this.alloc _) ⟨w.heap.size, 0, none⟩ 1 1 (slL (who, dg)) rfl rfl (sl_cells _ _ _) (sl_one _) (by have := HN9.out; unfold maxLen; omega) (by have := HN9.out; omega) (by simp; omega) ?_)))
        intro v' w2 hown hgrow _
        obtain ⟨a2, cp2, rfl, -⟩ := row_form hown
        obtain ⟨hd2, hr2, hw2⟩ := rs_push H.out HN.out hown hgrow
        have HE : Hid (RsLeft w base d (.slice a n cap) L who dg (.returned (.int .i64 0)) (w2.setCell ⟨d, 0, none⟩ (.slice a2 (n + 1) cp2))) := ⟨by rw [← HOK.out]; rfl, _, by rw [← HOK.out, ← HSB.out]; exact hr2, hw2⟩
        have c2 : w2.cell? ⟨d, 0, none⟩ = some (.slice a n cap) := by rw [cell_of_row _ _ _ _ _ _ hd2]; rfl
        have fz : w2.frozen? ⟨d, 0, none⟩ = false := by simp [World.frozen?, hd2]
        clear hown hgrow hr2 hw2 hd2
        go_wp2_with fail
        go_ret
        exact HE.out
      · by_cases h2 : c < 0
        all_goals
          go_enter Tryd.func9, Tryd.ntmps9
          clear h
          go_wp2_with (first | (go_at_call 48; refine (HG.out _).mono ?_; rintro e w1 ⟨rfl, rfl⟩) | (go_at_call 49; refine (HC.out _).mono ?_; rintro e w1 ⟨rfl, rfl⟩))
          refine HS.out.mono ?_; rintro e w1 ⟨rfl, rfl⟩
          obtain ⟨z, hz⟩ : ∃ z : Int, z = n := ⟨_, rfl⟩
          have HZ := Lib.hid hz
          have hz7 : z < 131072 := by omega
          have HN9 := Lib.hid hn9
          clear hn9 hz
          go_wp2_with (first | rw [← HZ.out] | (at_builtin; go_loud (refine wpList_append_own _ rfl _ _ 27 rfl base 101 i0 _ 2 16 Tryd.underlying27 HI.out HZ0.out HZ1.out HZ2.out rfl (by decide) _ n (L.flatMap slL) rfl (by have := H.out.row; rw [← HN.out] at this; exact this.alloc _) ⟨w.heap.size, 0, none⟩ 1 1 (slL (who, dg)) rfl rfl (sl_cells _ _ _) (sl_one _) (by have := HN9.out; unfold maxLen; omega) (by have := HN9.out; omega) (by simp; omega) ?_)))
          intro v' w2 hown hgrow _
          obtain ⟨a2, cp2, rfl, -⟩ := row_form hown
          obtain ⟨hd2, hr2, hw2⟩ := rs_push H.out HN.out hown hgrow
          have HE : Hid (RsLeft w base d (.slice a n cap) L who dg (.returned (.int .i64 0)) (w2.setCell ⟨d, 0, none⟩ (.slice a2 (n + 1) cp2))) := ⟨by rw [← HOK.out]; rfl, _, by rw [← HOK.out, ← HSB.out]; exact hr2, hw2⟩
          have c2 : w2.cell? ⟨d, 0, none⟩ = some (.slice a n cap) := by rw [cell_of_row _ _ _ _ _ _ hd2]; rfl
          have fz : w2.frozen? ⟨d, 0, none⟩ = false := by simp [World.frozen?, hd2]
          clear hown hgrow hr2 hw2 hd2
          go_wp2_with fail
          go_ret
          exact HE.out
end Go.Proofs.YtmpbeopbkllcnaaDoor.Seals
