/- A judge: Order. -/
import Derived.Test.YtpcmkifgfokdpaaJorder
namespace Go.Proofs.Ytpcmkifgfokdpaa
open Go.RowKit Go.My Go.My.Model Go.Deep
theorem int_info : (Try.prog.info? 3).map (fun i => (i.zero, i.size, i.bytes)) = some (some (.int .i64 0), 1, 8) := by kernel_rfl
theorem txn_info : (Try.prog.info? 57).map (fun i => (i.zero, i.size, i.bytes)) = some (some (.agg #[.int .i64 0, .int .i64 0, .slice none 0 0, .slice none 0 0]), 4, 64) := by kernel_rfl
def OrderLeft (w : World) (m : Nat) (e : Ending) (w' : World) : Prop := ∃ a cap, e = .returned (.slice a m cap) ∧ Below w.heap.size w w'
structure OrdRel (W0 : World) (m : Nat) (K : List Int) (vo vk : Value) (wr : World) : Prop where
  out : ∃ xs, wr.ownsRow W0.heap.size 57 4 vo m xs
  known : wr.ownsRow W0.heap.size 3 1 vk K.length (K.flatMap intL)
  below : Below W0.heap.size W0 wr
theorem OrdRel.later {W0 wr W : World} {m : Nat} {K : List Int} {vo vk : Value} (h : OrdRel W0 m K vo vk wr) (hb : Below wr.heap.size wr W) : OrdRel W0 m K vo vk W :=
  ⟨h.out.elim fun xs hx => ⟨xs, row_below hx hb⟩, row_below h.known hb, h.below.trans (hb.mono h.below.size)⟩
theorem OrdRel.know {W0 wr w1 : World} {m : Nat} {K : List Int} {vo vk v1 : Value} {t : Int} (h : OrdRel W0 m K vo vk wr)
    (hown : w1.ownsRow W0.heap.size 3 1 v1 (K.length + 1) (K.flatMap intL ++ [.int .i64 t])) (hg : wr.grownBy w1 vk.ownBlock) : OrdRel W0 m (K ++ [t]) vo v1 w1 := by
  have hW : Wrote vk.ownBlock.toList wr w1 := Wrote.of_grown hg
  obtain ⟨xs, hx⟩ := h.out
  refine ⟨⟨xs, row_wrote hx hW fun g hg' => ?_⟩, by simpa [intL] using hown, h.below.trans (hW.below h.below.size fun g hg' => ?_)⟩
  · simp only [Option.mem_toList]
    exact rows_apart hx h.known (by decide) hg'
  · simp only [Option.mem_toList] at hg'
    exact (row_block h.known hg').1
theorem OrdRel.put {W0 wr w1 : World} {m : Nat} {K : List Int} {vo vk v1 : Value} {xs : List Value} (h : OrdRel W0 m K vo vk wr) (hx : wr.ownsRow W0.heap.size 57 4 vo m xs)
    {ys : List Value} (hown : w1.ownsRow W0.heap.size 57 4 v1 (m + 1) ys) (hg : wr.grownBy w1 vo.ownBlock) : OrdRel W0 (m + 1) K v1 vk w1 := by
  have hW : Wrote vo.ownBlock.toList wr w1 := Wrote.of_grown hg
  refine ⟨⟨ys, hown⟩, row_wrote h.known hW fun g hg' => ?_, h.below.trans (hW.below h.below.size fun g hg' => ?_)⟩
  · simp only [Option.mem_toList]
    exact rows_apart h.known hx (by decide) hg'
  · simp only [Option.mem_toList] at hg'
    exact (row_block hx hg').1
theorem ints_lies {w : World} {base n cap : Nat} {a : Option Addr} {K : List Int} (h : w.ownsRow base 3 1 (.slice a n cap) n (K.flatMap intL)) (hn : n = K.length) : Lies w a 1 intL K := fun i x hi => by
  have hlt := (List.getElem?_eq_some_iff.1 hi).1
  obtain ⟨g, rfl, h1, h2⟩ := row_pos h (by omega)
  refine ⟨g, 0, rfl, h2, fun j v hj => ?_⟩
  have hj1 : j < 1 := (List.getElem?_eq_some_iff.1 hj).1
  rw [Nat.zero_add, row_cell h (fun _ => rfl) hn hi hj1, hj]
theorem filt_add (R : List Rec) (K : List Int) (t : Int) : ((K ++ [t]).filter (hasRec R)).length = (K.filter (hasRec R)).length + (if hasRec R t = true then 1 else 0) := by
  rw [List.filter_append, List.length_append]
  by_cases h : hasRec R t = true <;> simp [h]
set_option maxRecDepth 100000 in
set_option maxHeartbeats 6400000 in
theorem order_12 (s : Seen) (w : World) (hs : SeenIn w s) (hf : Few s) : Calls Try.prog 12 #[.agg #[.int .i64 s.view, .bool s.normal, .int .i64 s.done, .int .i64 s.stable, .int .i64 s.pending, .slice s.ranS.a s.ranS.n s.ranS.cap, .slice s.saysS.a s.saysS.n s.saysS.cap, .slice s.recsS.a s.recsS.n s.recsS.cap, .slice s.entsS.a s.entsS.n s.entsS.cap, .slice s.heldS.a s.heldS.n s.heldS.cap, .slice s.piecesS.a s.piecesS.n s.piecesS.cap, .slice s.movesS.a s.movesS.n s.movesS.cap]] w (OrderLeft w (orderN s)) := by
  have HS := Lib.hid hs
  have hf1 := hf.says
  have hf2 := hf.recs
  obtain ⟨n, hn⟩ : ∃ n, n = s.says.length := ⟨_, rfl⟩
  have HN := Lib.hid hn
  obtain ⟨rn, hrn⟩ : ∃ rn, rn = s.recs.length := ⟨_, rfl⟩
  have HRN := Lib.hid hrn
  have hn9 : (n : Int) ≤ 1000 := by omega
  have hr9 : (rn : Int) ≤ 1000 := by omega
  have e1 : s.saysS.n = n := by rw [hs.saysN, hn]
  have e2 : s.recsS.n = rn := by rw [hs.recsN, hrn]
  rw [e1, e2]
  have HF2 := Lib.hid hf2
  obtain ⟨sa, hsa⟩ : ∃ sa, sa = s.saysS.a := ⟨_, rfl⟩
  obtain ⟨ra, hra⟩ : ∃ ra, ra = s.recsS.a := ⟨_, rfl⟩
  have HLS : Hid (Lies w sa 9 sayL s.says) := by show Lies _ _ _ _ _; rw [hsa]; exact hs.says
  have HLR : Hid (Lies w ra 10 recL s.recs) := by show Lies _ _ _ _ _; rw [hra]; exact hs.recs
  rw [← hsa, ← hra]
  have HK9 : Hid (∀ j, (doneL (s.says.take j)).length ≤ 1000) := fun j => by
    have h1 := done_len (s.says.take j)
    have h2 := List.length_take_le' j s.says
    omega
  have HMK : Hid (∀ K : List Int, (K.filter (hasRec s.recs)).length ≤ K.length) := fun K => List.length_filter_le _ _
  obtain ⟨i0, hi0, hz0, hz1, hz2⟩ := info_parts int_info
  obtain ⟨i7, hi7, hy0, hy1, hy2⟩ := info_parts txn_info
  have HI := Lib.hid hi0
  have HZ := Lib.hid hz0
  have HSI := Lib.hid hz1
  have HY := Lib.hid hz2
  have HI7 := Lib.hid hi7
  have HZ7 := Lib.hid hy0
  have HSI7 := Lib.hid hy1
  have HY7 := Lib.hid hy2
  obtain ⟨W0, hW0⟩ : ∃ W0, W0 = w.alloc (.cells #[.int .i64 s.view, .bool s.normal, .int .i64 s.done, .int .i64 s.stable, .int .i64 s.pending, .slice s.ranS.a s.ranS.n s.ranS.cap, .slice sa n s.saysS.cap, .slice ra rn s.recsS.cap, .slice s.entsS.a s.entsS.n s.entsS.cap, .slice s.heldS.a s.heldS.n s.heldS.cap, .slice s.piecesS.a s.piecesS.n s.piecesS.cap, .slice s.movesS.a s.movesS.n s.movesS.cap] 41) := ⟨_, rfl⟩
  have HB0 : Hid (Below w.heap.size w W0) := by show Below _ _ _; rw [hW0]; exact (Below.refl _ w).alloc (Nat.le_refl _) _
  have HT0 : Hid (W0.heap[w.heap.size]? = some (.cells #[.int .i64 s.view, .bool s.normal, .int .i64 s.done, .int .i64 s.stable, .int .i64 s.pending, .slice s.ranS.a s.ranS.n s.ranS.cap, .slice sa n s.saysS.cap, .slice ra rn s.recsS.cap, .slice s.entsS.a s.entsS.n s.entsS.cap, .slice s.heldS.a s.heldS.n s.heldS.cap, .slice s.piecesS.a s.piecesS.n s.piecesS.cap, .slice s.movesS.a s.movesS.n s.movesS.cap] 41 (0, 0))) := by show _ = _; rw [hW0]; exact heap_alloc_new w _
  have HPT : Hid (∀ W, Below W0.heap.size W0 W → W.cell? ⟨w.heap.size, 6, none⟩ = some (.slice sa n s.saysS.cap) ∧ W.cell? ⟨w.heap.size, 7, none⟩ = some (.slice ra rn s.recsS.cap) ∧ w.heap.size < W.heap.size) := fun W hb => by
    have h := (hb.block _ (lt_of_heap HT0.out)).trans HT0.out
    exact ⟨by rw [cell_of_row _ _ _ _ _ _ h]; rfl, by rw [cell_of_row _ _ _ _ _ _ h]; rfl, lt_of_heap h⟩
  have R0 : Hid (OrdRel W0 ((doneL (s.says.take 0)).filter (hasRec s.recs)).length (doneL (s.says.take 0)) (.slice none 0 0) (.slice none 0 0) W0) := ⟨⟨[], World.ownsRow_nil _ _ _ _⟩, World.ownsRow_nil _ _ _ _, Below.refl _ _⟩
  clear hs hf hf1 hf2 hn hrn e1 e2 hsa hra hi0 hz0 hz1 hz2 hi7 hy0 hy1 hy2
  go_enter Try.func12, Try.ntmps12
  go_wp2_with fail
  rw [← hW0]
  clear hW0
  go_loopw [3, 4, 11] (fun vo vk i wr => ∃ j : Nat, j ≤ n ∧ i = .int .i64 j ∧ Hid (OrdRel W0 ((doneL (s.says.take j)).filter (hasRec s.recs)).length (doneL (s.says.take j)) vo vk wr)) (fun _ _ i _ => n - (intOf i).toNat)
  case atStart => exact ⟨0, by omega, rfl, R0⟩
  case round =>
    clear R0
    obtain ⟨j, hj, rfl, HP⟩ := hrel
    by_cases hlt : j < n
    · obtain ⟨x, hx⟩ : ∃ x, s.says[j]? = some x := ⟨_, List.getElem?_eq_getElem (by rw [← HN.out]; exact hlt)⟩
      have HBW : Hid (Below w.heap.size w wr) := HB0.out.trans (HP.out.below.mono HB0.out.size)
      obtain ⟨g, o, rfl, hg, hc⟩ := HLS.out.below HBW.out j x hx
      have d0 : wr.cell? ⟨g, o + j * 9, none⟩ = some (.int .i64 x.kind) := hc 0 _ rfl
      have d1 : wr.cell? ⟨g, o + j * 9 + 1, none⟩ = some (.int .i64 x.txn) := hc 1 _ rfl
      have d2 : wr.cell? ⟨g, o + j * 9 + 2, none⟩ = some (.bool x.yes) := hc 2 _ rfl
      have d3 : wr.cell? ⟨g, o + j * 9 + 3, none⟩ = some (.string x.frm) := hc 3 _ rfl
      have d4 : wr.cell? ⟨g, o + j * 9 + 4, none⟩ = some (.string x.upto) := hc 4 _ rfl
      have d5 : wr.cell? ⟨g, o + j * 9 + 5, none⟩ = some (.int .i64 x.epoch) := hc 5 _ rfl
      have d6 : wr.cell? ⟨g, o + j * 9 + 6, none⟩ = some (.int .i64 x.shard) := hc 6 _ rfl
      have d7 : wr.cell? ⟨g, o + j * 9 + 7, none⟩ = some (.int .i64 x.target) := hc 7 _ rfl
      have d8 : wr.cell? ⟨g, o + j * 9 + 8, none⟩ = some (.int .i64 x.root) := hc 8 _ rfl
      have HDS := Lib.hid (done_succ hx)
      have hk9 := HK9.out j
      obtain ⟨K, hK⟩ : ∃ K, K = doneL (s.says.take j) := ⟨_, rfl⟩
      rw [← hK] at HP HDS hk9
      have hmk := HMK.out K
      obtain ⟨m, hm⟩ : ∃ m, m = (K.filter (hasRec s.recs)).length := ⟨_, rfl⟩
      have HM := Lib.hid hm
      rw [← hm] at HP hmk
      obtain ⟨ka, kcap, rfl, _⟩ := row_form HP.out.known
      have hj0 : (0 : Int) ≤ (j : Int) := by omega
      have hj1 : (j : Int) < (n : Int) := by omega
      obtain ⟨W1, hW1⟩ : ∃ W1, W1 = wr.alloc (.cells #[.int .i64 x.kind, .int .i64 x.txn, .bool x.yes, .string x.frm, .string x.upto, .int .i64 x.epoch, .int .i64 x.shard, .int .i64 x.target, .int .i64 x.root] 53) := ⟨_, rfl⟩
      have HB1 : Hid (Below wr.heap.size wr W1) := by show Below _ _ _; rw [hW1]; exact (Below.refl _ wr).alloc (Nat.le_refl _) _
      have HX1 : Hid (W1.heap[wr.heap.size]? = some (.cells #[.int .i64 x.kind, .int .i64 x.txn, .bool x.yes, .string x.frm, .string x.upto, .int .i64 x.epoch, .int .i64 x.shard, .int .i64 x.target, .int .i64 x.root] 53 (0, 0))) := by show _ = _; rw [hW1]; exact heap_alloc_new wr _
      have HP1 : Hid (OrdRel W0 m K u3 (.slice ka K.length kcap) W1) := HP.out.later HB1.out
      have HSAME : Hid (toDone x = false ∨ K.any (fun t => decide (x.txn = t)) = true → doneL (s.says.take (j + 1)) = K) := fun h => by
        rw [HDS.out]
        unfold doneStep
        rcases h with h | h
        · rw [h]; rfl
        · rw [h]; simp
      clear hx hc hK hm
      by_cases hkind : x.kind = 3
      · have e1 : (x.kind != 3) = false := by simpa using hkind
        cases hyes : x.yes with
        | false =>
          have HS2 := Lib.hid (HSAME.out (.inl (by unfold toDone; rw [hyes]; simp)))
          rw [hyes] at hW1 d2
          clear hkind HSAME HDS
          go_wp2_with fail
          rw [← hW1]
          go_roundw
          case rel => exact ⟨j + 1, by omega, by go_num, by rw [HS2.out, ← HM.out]; exact HP1⟩
          case measure => simp [intOf]; omega
        | true =>
          have HTD : Hid (toDone x = true) := by show _ = _; unfold toDone; rw [hyes]; simpa using hkind
          have HC : Hid (Calls Try.prog 24 #[.slice ka K.length kcap, .int .i64 x.txn] W1 (BoolLeft W1 (K.any fun t => decide (x.txn = t)))) := contains_24 ka kcap K x.txn W1 (ints_lies HP1.out.known rfl) hk9
          rw [hyes] at hW1 d2 HX1
          obtain ⟨kl, hkl⟩ : ∃ kl, kl = K.length := ⟨_, rfl⟩
          have HKL := Lib.hid hkl
          have hkl9 : (kl : Int) ≤ 1000 := by omega
          rw [← hkl] at HC HP1 HP ⊢
          clear hkind hkl
          go_wp2_with fail
          rw [← hW1]
          obtain ⟨xb, hxb⟩ : ∃ xb, xb = wr.heap.size := ⟨_, rfl⟩
          rw [← hxb] at HX1 ⊢
          clear hW1 hxb d0 d1 d2 d3 d4 d5 d6 d7 d8
          refine HC.out.mono ?_
          rintro e w2 ⟨rfl, hb2⟩
          have HX2 := Lib.hid ((hb2.block _ (lt_of_heap HX1.out)).trans HX1.out)
          have HP2 := Lib.hid (HP1.out.later hb2)
          clear hb2
          cases hany : K.any (fun t => decide (x.txn = t)) with
          | true =>
            have HS2 := Lib.hid (HSAME.out (.inr hany))
            rw [HKL.out] at HP2 ⊢
            clear hany HSAME HDS
            go_wp2_with fail
            go_roundw
            case rel => exact ⟨j + 1, by omega, by go_num, by rw [HS2.out, ← HM.out]; exact HP2⟩
            case measure => simp [intOf]; omega
          | false =>
            have HDN : Hid (doneL (s.says.take (j + 1)) = K ++ [x.txn]) := by show _ = _; rw [HDS.out]; unfold doneStep; rw [HTD.out, hany]; rfl
            have x1 : w2.cell? ⟨xb, 1, none⟩ = some (.int .i64 x.txn) := by rw [cell_of_row _ _ _ _ _ _ HX2.out]; rfl
            have lxb := lt_of_heap HX2.out
            clear hany HSAME HDS
            rw [HKL.out] at HP2 ⊢
            have hkK : (K.length : Int) ≤ 1000 := by omega
            go_wp2_with (at_builtin; refine wpList_append_lies _ rfl _ _ 23 rfl W0.heap.size 3 i0 (.int .i64 0) 1 8 Try.underlying23 HI.out HZ.out HSI.out HY.out rfl (by decide) _ _ _ rfl (row_below HP2.out.known ((Below.refl _ w2).alloc (Nat.le_refl _) _)) ⟨w2.heap.size, 0, none⟩ 1 1 [.int .i64 x.txn] rfl rfl ?c1 ?c2 (by decide) ?c3 ?c4 ?c5 _ rfl ?_)
            case c1 => first | exact fun _ _ h => h | exact World.news_of_block (cs := #[.int .i64 x.txn]) (t := 3) (fr := (0, 0)) (heap_alloc_new w2 _)
            case c2 => simp [Value.oneCell']
            case c3 => unfold maxLen; omega
            case c4 => omega
            case c5 => have := HP2.out.below.size; simp; omega
            intro g1 cap1 w3 hown hgrow hat hlt1
            have HP2a := HP2.out.later ((Below.refl _ w2).alloc (Nat.le_refl _) (.cells #[.int .i64 x.txn] 3))
            have HP3 := Lib.hid (HP2a.know hown hgrow)
            have hW3 : Wrote (Value.slice ka K.length kcap).ownBlock.toList w2 w3 := ((Wrote.refl _ w2).alloc _).trans (Wrote.of_grown hgrow)
            have hx3 : w3.heap[xb]? = some (.cells #[.int .i64 x.kind, .int .i64 x.txn, .bool true, .string x.frm, .string x.upto, .int .i64 x.epoch, .int .i64 x.shard, .int .i64 x.target, .int .i64 x.root] 53 (0, 0)) := hW3.heap HX2.out (fun hm' => by
              simp only [Option.mem_toList] at hm'
              obtain ⟨_, cur, hc⟩ := row_block HP2.out.known hm'
              rw [HX2.out] at hc
              cases hc)
            have lx3 := lt_of_heap hx3
            obtain ⟨q1, q2, q3⟩ := HPT.out _ HP3.out.below
            have hbw3 := HB0.out.trans (HP3.out.below.mono HB0.out.size)
            have HIX := Lib.hid (index_26 ra s.recsS.cap s.recs w3 xb x.txn _ _ _ _ _ _ _ _ (HLR.out.below hbw3) HF2.out hx3)
            rw [← HRN.out] at HIX
            clear hown hgrow hat hlt1 HP2a hW3 hx3 x1
            go_wp2_with fail
            refine HIX.out.mono ?_
            rintro e w4 ⟨z, rfl, hz, hb4⟩
            have HP4 := Lib.hid (HP3.out.later hb4)
            clear hb4 HIX q1 q2 q3 lx3 hbw3
            rcases hz with ⟨hno, rfl⟩ | ⟨hyes2, i, rfl, hir⟩
            · have HFN : Hid (((K ++ [x.txn]).filter (hasRec s.recs)).length = m) := by show _ = _; rw [filt_add, hno, HM.out]; rfl
              clear hno
              have hKK : (K ++ [x.txn]).length = K.length + 1 := by simp
              go_wp2_with fail
              go_roundw
              case rel => exact ⟨j + 1, by omega, by go_num, by rw [HDN.out, HFN.out]; exact HP4⟩
              case measure => simp [intOf]; omega
            · have HFN : Hid (((K ++ [x.txn]).filter (hasRec s.recs)).length = m + 1) := by show _ = _; rw [filt_add, hyes2, HM.out]; rfl
              obtain ⟨r, hr⟩ : ∃ r, s.recs[i]? = some r := ⟨_, List.getElem?_eq_getElem (by rw [← HRN.out]; exact hir)⟩
              have hbw4 := HB0.out.trans (HP4.out.below.mono HB0.out.size)
              obtain ⟨rg, ro, rfl, hrg, rc⟩ := HLR.out.below hbw4 i r hr
              have r6 : w4.cell? ⟨rg, ro + i * 10 + 6, none⟩ = some (.int .i64 r.client) := rc 6 _ rfl
              have r7 : w4.cell? ⟨rg, ro + i * 10 + 7, none⟩ = some (.int .i64 r.num) := rc 7 _ rfl
              have r8 : w4.cell? ⟨rg, ro + i * 10 + 8, none⟩ = some (.slice r.reads.a r.reads.n r.reads.cap) := rc 8 _ rfl
              have r9 : w4.cell? ⟨rg, ro + i * 10 + 9, none⟩ = some (.slice r.writes.a r.writes.n r.writes.cap) := rc 9 _ rfl
              obtain ⟨q1, q2, q3⟩ := HPT.out _ HP4.out.below
              have hi0 : (0 : Int) ≤ (i : Int) := by omega
              have hi1 : (i : Int) < (rn : Int) := by omega
              have hig : decide ((0 : Int) ≤ (i : Int)) = true := decide_eq_true hi0
              obtain ⟨xs, hxs⟩ := HP4.out.out
              obtain ⟨oa, ocap, rfl, _⟩ := row_form hxs
              have HXS := Lib.hid hxs
              have hm9 : (m : Int) ≤ 1000 := by omega
              clear hyes2 hr rc hbw4 hxs hir
              go_wp2_with (at_builtin; refine wpList_append_lies _ rfl _ _ 22 rfl W0.heap.size 57 i7 (.agg #[.int .i64 0, .int .i64 0, .slice none 0 0, .slice none 0 0]) 4 64 Try.underlying22 HI7.out HZ7.out HSI7.out HY7.out rfl (by decide) _ _ _ rfl (row_below HXS.out ((Below.refl _ w4).alloc (Nat.le_refl _) _)) ⟨w4.heap.size, 0, none⟩ 1 1 [.int .i64 r.client, .int .i64 r.num, .slice r.reads.a r.reads.n r.reads.cap, .slice r.writes.a r.writes.n r.writes.cap] rfl rfl ?f1 ?f2 (by decide) ?f3 ?f4 ?f5 _ rfl ?_)
              case f1 => first | exact fun _ _ h => h | exact World.news_of_block (cs := #[.int .i64 r.client, .int .i64 r.num, .slice r.reads.a r.reads.n r.reads.cap, .slice r.writes.a r.writes.n r.writes.cap]) (t := 57) (fr := (0, 0)) (heap_alloc_new w4 _)
              case f2 => simp [Value.oneCell']
              case f3 => unfold maxLen; omega
              case f4 => omega
              case f5 => have := HP4.out.below.size; simp; omega
              intro g5 cap5 w5 hown hgrow hat hlt1
              have HP4a := HP4.out.later ((Below.refl _ w4).alloc (Nat.le_refl _) (.cells #[.int .i64 r.client, .int .i64 r.num, .slice r.reads.a r.reads.n r.reads.cap, .slice r.writes.a r.writes.n r.writes.cap] 57))
              have HP5 := Lib.hid (HP4a.put (row_below HXS.out ((Below.refl _ w4).alloc (Nat.le_refl _) _)) hown hgrow)
              clear hown hgrow hat hlt1 HP4a
              go_wp2_with fail
              go_roundw
              case rel => exact ⟨j + 1, by omega, by go_num, by rw [HDN.out, HFN.out]; exact HP5⟩
              case measure => simp [intOf]; omega
      · have e1 : (x.kind != 3) = true := by simpa using hkind
        have HS2 := Lib.hid (HSAME.out (.inl (by unfold toDone; simp [hkind])))
        clear hkind HSAME HDS
        go_wp2_with fail
        rw [← hW1]
        go_roundw
        case rel => exact ⟨j + 1, by omega, by go_num, by rw [HS2.out, ← HM.out]; exact HP1⟩
        case measure => simp [intOf]; omega
    · obtain rfl : j = n := by omega
      have HE : Hid (orderN s = ((doneL (s.says.take j)).filter (hasRec s.recs)).length) := by
        show _ = _
        unfold orderN
        rw [List.take_of_length_le (by rw [HN.out]; exact Nat.le_refl _)]
      obtain ⟨xs, hxs⟩ := HP.out.out
      obtain ⟨oa, ocap, rfl, _⟩ := row_form hxs
      have HB9 : Hid (Below w.heap.size w wr) := HB0.out.trans (HP.out.below.mono HB0.out.size)
      go_wp2_with fail
      go_ret
      exact ⟨oa, ocap, by rw [HE.out]; rfl, HB9.out⟩
end Go.Proofs.Ytpcmkifgfokdpaa
