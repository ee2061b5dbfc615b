/- A judge: what is wrong with a trial. -/
import Derived.Test.YtpcmkifgfokdpaaFirst
import Derived.Deep.RegionWith
import Derived.Deep.DeepCutAuto
namespace Go.Proofs.Ytpcmkifgfokdpaa
open Go.RowKit Go.My Go.My.Model Go.Deep
def intL (x : Int) : List Value := [.int .i64 x]
def groupOf (G : List Int) (i : Nat) : Int := match G[i]? with | none => -1 | some x => max x (-1)
def onesOf (G : List Int) (S : List Seen) : List One := S.mapIdx fun i s => ⟨groupOf G i, s⟩
theorem ones_get (G : List Int) (S : List Seen) (i : Nat) : (onesOf G S)[i]? = S[i]?.map fun s => ⟨groupOf G i, s⟩ := by unfold onesOf; rw [List.getElem?_mapIdx]
theorem ones_len (G : List Int) (S : List Seen) : (onesOf G S).length = S.length := by unfold onesOf; rw [List.length_mapIdx]
theorem oneL_len (x : One) : (oneL x).length = 13 := rfl
theorem one_info : (Try.prog.info? 65).map (fun i => (i.zero, i.size, i.bytes)) = some (some (.agg #[.int .i64 0, .int .i64 0, .bool false, .int .i64 0, .int .i64 0, .int .i64 0, .slice none 0 0, .slice none 0 0, .slice none 0 0, .slice none 0 0, .slice none 0 0, .slice none 0 0, .slice none 0 0]), 13, 216) := by kernel_rfl
def JudgeSpec (T : List Tx) (L : List One) : Verd → Prop := Firsts [ReadSpec T, PairSpec 2 L ranB, PairSpec 3 L decB, EntSpec T L, PairSpec 5 L ownB]
structure AllRel (base : Nat) (W2 : World) (gb n : Nat) (L : List One) (k : Nat) (wr : World) : Prop where
  row : ∃ Z : List Value, Z.length = (n - k) * 13 ∧ wr.ownsRow base 65 13 (.slice (some ⟨gb, 0, none⟩) n n) n ((L.take k).flatMap oneL ++ Z)
  wrote : Wrote [gb] W2 wr
theorem flat_len (L : List One) : (L.flatMap oneL).length = L.length * 13 := by
  induction L with
  | nil => rfl
  | cons x L ih => rw [List.flatMap_cons, List.length_append, ih, oneL_len, List.length_cons]; omega
theorem thirteen {Z : List Value} (h : 13 ≤ Z.length) : ∃ z0 z1 z2 z3 z4 z5 z6 z7 z8 z9 z10 z11 z12 Z', Z = z0 :: z1 :: z2 :: z3 :: z4 :: z5 :: z6 :: z7 :: z8 :: z9 :: z10 :: z11 :: z12 :: Z' := by
  match Z, h with
  | z0 :: z1 :: z2 :: z3 :: z4 :: z5 :: z6 :: z7 :: z8 :: z9 :: z10 :: z11 :: z12 :: Z', _ => exact ⟨_, _, _, _, _, _, _, _, _, _, _, _, _, _, rfl⟩
theorem set_at {A B : List Value} {z u : Value} {m : Nat} (h : A.length = m) : (A ++ z :: B).set m u = (A ++ [u]) ++ B := by
  subst h
  rw [List.set_append_right _ _ (Nat.le_refl _), Nat.sub_self]
  simp
theorem set_head {A Z : List Value} {a b : Int} {s : Seen} {m : Nat} (h : A.length = m) : (A ++ oneL ⟨a, s⟩ ++ Z).set m (.int .i64 b) = A ++ oneL ⟨b, s⟩ ++ Z := by
  rw [List.append_assoc, List.append_assoc]
  show (A ++ (.int .i64 a) :: ((oneL ⟨a, s⟩).tail ++ Z)).set m _ = _
  rw [set_at h]
  simp only [List.append_assoc]
  rfl
/-- Thirteen cells of a row are written. -/
theorem row_thirteen {wr : World} {base gb n cap k : Nat} {A Z : List Value} {z0 z1 z2 z3 z4 z5 z6 z7 z8 z9 z10 z11 z12 : Value} (u0 u1 u2 u3 u4 u5 u6 u7 u8 u9 u10 u11 u12 : Value) (hA : A.length = k * 13) (h : wr.ownsRow base 65 13 (.slice (some ⟨gb, 0, none⟩) n cap) n (A ++ z0 :: z1 :: z2 :: z3 :: z4 :: z5 :: z6 :: z7 :: z8 :: z9 :: z10 :: z11 :: z12 :: Z)) :
    ((((((((((((((wr.setCell ⟨gb, k * 13, none⟩ u0).setCell ⟨gb, k * 13 + 1, none⟩ u1).setCell ⟨gb, k * 13 + 2, none⟩ u2).setCell ⟨gb, k * 13 + 3, none⟩ u3).setCell ⟨gb, k * 13 + 4, none⟩ u4).setCell ⟨gb, k * 13 + 5, none⟩ u5).setCell ⟨gb, k * 13 + 6, none⟩ u6).setCell ⟨gb, k * 13 + 7, none⟩ u7).setCell ⟨gb, k * 13 + 8, none⟩ u8).setCell ⟨gb, k * 13 + 9, none⟩ u9).setCell ⟨gb, k * 13 + 10, none⟩ u10).setCell ⟨gb, k * 13 + 11, none⟩ u11).setCell ⟨gb, k * 13 + 12, none⟩ u12)).ownsRow base 65 13 (.slice (some ⟨gb, 0, none⟩) n cap) n (A ++ [u0, u1, u2, u3, u4, u5, u6, u7, u8, u9, u10, u11, u12] ++ Z) := by
  have h0 := (h.stored (k * 13) u0).1
  rw [set_at (by simp [hA])] at h0
  have h1 := (h0.stored (k * 13 + 1) u1).1
  rw [set_at (by simp [hA])] at h1
  have h2 := (h1.stored (k * 13 + 2) u2).1
  rw [set_at (by simp [hA])] at h2
  have h3 := (h2.stored (k * 13 + 3) u3).1
  rw [set_at (by simp [hA])] at h3
  have h4 := (h3.stored (k * 13 + 4) u4).1
  rw [set_at (by simp [hA])] at h4
  have h5 := (h4.stored (k * 13 + 5) u5).1
  rw [set_at (by simp [hA])] at h5
  have h6 := (h5.stored (k * 13 + 6) u6).1
  rw [set_at (by simp [hA])] at h6
  have h7 := (h6.stored (k * 13 + 7) u7).1
  rw [set_at (by simp [hA])] at h7
  have h8 := (h7.stored (k * 13 + 8) u8).1
  rw [set_at (by simp [hA])] at h8
  have h9 := (h8.stored (k * 13 + 9) u9).1
  rw [set_at (by simp [hA])] at h9
  have h10 := (h9.stored (k * 13 + 10) u10).1
  rw [set_at (by simp [hA])] at h10
  have h11 := (h10.stored (k * 13 + 11) u11).1
  rw [set_at (by simp [hA])] at h11
  have h12 := (h11.stored (k * 13 + 12) u12).1
  rw [set_at (by simp [hA])] at h12
  simpa using h12
theorem wrote_thirteen {W2 wr : World} {gb k : Nat} (u0 u1 u2 u3 u4 u5 u6 u7 u8 u9 u10 u11 u12 : Value) (h : Wrote [gb] W2 wr) : Wrote [gb] W2 ((((((((((((((wr.setCell ⟨gb, k * 13, none⟩ u0).setCell ⟨gb, k * 13 + 1, none⟩ u1).setCell ⟨gb, k * 13 + 2, none⟩ u2).setCell ⟨gb, k * 13 + 3, none⟩ u3).setCell ⟨gb, k * 13 + 4, none⟩ u4).setCell ⟨gb, k * 13 + 5, none⟩ u5).setCell ⟨gb, k * 13 + 6, none⟩ u6).setCell ⟨gb, k * 13 + 7, none⟩ u7).setCell ⟨gb, k * 13 + 8, none⟩ u8).setCell ⟨gb, k * 13 + 9, none⟩ u9).setCell ⟨gb, k * 13 + 10, none⟩ u10).setCell ⟨gb, k * 13 + 11, none⟩ u11).setCell ⟨gb, k * 13 + 12, none⟩ u12)) := by
  have s : ∀ (W : World) i u, Wrote [gb] W2 W → Wrote [gb] W2 (W.setCell ⟨gb, i, none⟩ u) := fun W i u h => h.setCell (.inl (List.mem_singleton.2 rfl)) _
  exact (s _ _ _ (s _ _ _ (s _ _ _ (s _ _ _ (s _ _ _ (s _ _ _ (s _ _ _ (s _ _ _ (s _ _ _ (s _ _ _ (s _ _ _ (s _ _ _ (s _ _ _ h)))))))))))))
set_option maxRecDepth 100000 in
theorem mk_13 (fault : Int) (F : Nat) (p : Option Addr) (w : World) : Calls Try.prog 13 #[.int .i64 fault, .func (.func F) #[] #[], .pointer p] w fun e w' => e = .returned (.func (.func 14) #[] #[.pointer p, .pointer (some ⟨w.heap.size + 1, 0, none⟩), .pointer (some ⟨w.heap.size, 0, none⟩)]) ∧ w' = (w.alloc (.cells #[.int .i64 fault] 3)).alloc (.cells #[.func (.func F) #[] #[]] 66) := by
  go_enter Try.func13, Try.ntmps13
  go_wp2_with fail
  go_ret
  exact ⟨rfl, rfl⟩
theorem row_lies {w : World} {base n : Nat} {a : Option Addr} {L : List One} {xs : List Value} (h : w.ownsRow base 65 13 (.slice a n n) n xs) (hx : xs = L.flatMap oneL) (hn : n = L.length) : Lies w a 13 oneL L := fun i x hi => by
  subst hx
  have hlt := (List.getElem?_eq_some_iff.1 hi).1
  obtain ⟨g, rfl, h1, h2⟩ := row_pos h (by omega)
  refine ⟨g, 0, rfl, h2, fun j v hj => ?_⟩
  have hj13 : j < 13 := (List.getElem?_eq_some_iff.1 hj).1
  rw [Nat.zero_add, row_cell h oneL_len hn hi hj13, hj]
set_option maxRecDepth 100000 in
set_option maxHeartbeats 3200000 in
theorem judge_8 (T : List Tx) (G : List Int) (S : List Seen) (w : World) (oa ga sa : Option Addr) (ocap gcap scap : Nat) (ho : OrdFar [] w oa T) (hf : FewT T) (hg : Lies w ga 1 intL G) (hs : Lies w sa 12 seenL S) (hin : ∀ s ∈ S, SeenIn w s ∧ Few s) (hg9 : G.length ≤ 1000) (hs9 : S.length ≤ 1000) :
    Calls Try.prog 8 #[.agg #[.slice oa T.length ocap, .slice ga G.length gcap, .slice sa S.length scap]] w (FindLeft w (JudgeSpec T (onesOf G S))) := by
  have HO := Lib.hid ho
  have HF := Lib.hid hf
  have HG := Lib.hid hg
  have HS := Lib.hid hs
  have HIN := Lib.hid hin
  obtain ⟨n, hn⟩ : ∃ n, n = S.length := ⟨_, rfl⟩
  obtain ⟨gn, hgn⟩ : ∃ gn, gn = G.length := ⟨_, rfl⟩
  obtain ⟨tn, htn⟩ : ∃ tn, tn = T.length := ⟨_, rfl⟩
  have HN := Lib.hid hn
  have HGN := Lib.hid hgn
  have HTN := Lib.hid htn
  have hn8 : (n : Int) ≤ 1000 := by omega
  have hgn8 : (gn : Int) ≤ 1000 := by omega
  rw [← hn, ← hgn, ← htn]
  obtain ⟨i0, hi0, hz0, hz1, hz2⟩ := info_parts one_info
  have HI := Lib.hid hi0
  have HZ := Lib.hid hz0
  have HSI := Lib.hid hz1
  have HY := Lib.hid hz2
  obtain ⟨L, hL⟩ : ∃ L, L = onesOf G S := ⟨_, rfl⟩
  have HL := Lib.hid hL
  rw [← hL]
  clear ho hf hg hs hin hn hgn htn hg9 hs9 hi0 hz0 hz1 hz2 hL
  go_enter Try.func8, Try.ntmps8
  go_wp2_with (at_make; refine wpList_make_full _ rfl _ _ 63 rfl w.heap.size 65 i0 (.agg #[.int .i64 0, .int .i64 0, .bool false, .int .i64 0, .int .i64 0, .int .i64 0, .slice none 0 0, .slice none 0 0, .slice none 0 0, .slice none 0 0, .slice none 0 0, .slice none 0 0, .slice none 0 0]) 13 Try.underlying63 HI.out HZ.out HSI.out _ _ _ _ n rfl rfl rfl rfl ?b2 ?b3 ?b4 ?_)
  case b2 => rw [HY.out]; omega
  case b3 => unfold maxLen; omega
  case b4 => simp; omega
  intro W1 hown hgrow
  obtain ⟨Z0, hZ0⟩ : ∃ Z0, Z0 = (madeCells #[.int .i64 0, .int .i64 0, .bool false, .int .i64 0, .int .i64 0, .int .i64 0, .slice none 0 0, .slice none 0 0, .slice none 0 0, .slice none 0 0, .slice none 0 0, .slice none 0 0, .slice none 0 0] (n * 13)).toList := ⟨_, rfl⟩
  have hZl : Z0.length = n * 13 := by rw [hZ0]; simp [size_madeCells]
  rw [← hZ0] at hown
  have hW : Wrote [] ((w.alloc (.cells #[.slice oa tn ocap, .slice ga gn gcap, .slice sa n scap] 26)).alloc (.cells #[.int .i64 0, .int .i64 0, .int .i64 0] 31)) W1 := Wrote.of_grown hgrow
  have ht1 : W1.heap[w.heap.size]? = some (.cells #[.slice oa tn ocap, .slice ga gn gcap, .slice sa n scap] 26 (0, 0)) := hW.heap ((Below.heap_alloc _ _ _ (by simp)).trans (heap_alloc_new w _)) (by simp)
  have hr1 : W1.heap[w.heap.size + 1]? = some (.cells #[.int .i64 0, .int .i64 0, .int .i64 0] 31 (0, 0)) := hW.heap (by simpa using heap_alloc_new (w.alloc (.cells #[.slice oa tn ocap, .slice ga gn gcap, .slice sa n scap] 26)) (.cells #[.int .i64 0, .int .i64 0, .int .i64 0] 31)) (by simp)
  have hb1 : Below w.heap.size w W1 := (((Below.refl _ w).alloc (Nat.le_refl _) _).alloc (by simp) _).trans (hW.below (by simp; omega) (by simp))
  obtain ⟨gb, hgb⟩ : ∃ gb, gb = w.heap.size + 1 + 1 := ⟨_, rfl⟩
  rw [← hgb] at hown ⊢
  obtain ⟨hgb1, cur, hcur⟩ := row_block (g := gb) hown rfl
  have hgl := lt_of_heap hcur
  obtain ⟨W2, hW2⟩ : ∃ W2, W2 = W1.alloc (.cells #[.slice (some ⟨gb, 0, none⟩) n n] 63) := ⟨_, rfl⟩
  have hb2 : Below W1.heap.size W1 W2 := by rw [hW2]; exact (Below.refl _ W1).alloc (Nat.le_refl _) _
  obtain ⟨pall, hpall⟩ : ∃ pall, pall = W1.heap.size := ⟨_, rfl⟩
  have HT2 : Hid (W2.heap[w.heap.size]? = some (.cells #[.slice oa tn ocap, .slice ga gn gcap, .slice sa n scap] 26 (0, 0))) := (hb2.block _ (lt_of_heap ht1)).trans ht1
  have HR2 : Hid (W2.heap[w.heap.size + 1]? = some (.cells #[.int .i64 0, .int .i64 0, .int .i64 0] 31 (0, 0))) := (hb2.block _ (lt_of_heap hr1)).trans hr1
  have HA2 : Hid (W2.heap[pall]? = some (.cells #[.slice (some ⟨gb, 0, none⟩) n n] 63 (0, 0))) := by show _ = _; rw [hW2, hpall]; exact heap_alloc_new W1 _
  have HB2 : Hid (Below w.heap.size w W2) := hb1.trans (hb2.mono hb1.size)
  have R0 : Hid (AllRel w.heap.size W2 gb n L 0 W2) := ⟨⟨Z0, by rw [hZl]; simp, by have h := row_below hown hb2; show World.ownsRow _ _ _ _ _ _ _; simpa using h⟩, Wrote.refl _ _⟩
  have hne1 : pall ≠ gb := by omega
  have HPT : Hid (∀ W, Wrote [gb] W2 W → W.heap[w.heap.size]? = some (.cells #[.slice oa tn ocap, .slice ga gn gcap, .slice sa n scap] 26 (0, 0)) ∧ W.heap[w.heap.size + 1]? = some (.cells #[.int .i64 0, .int .i64 0, .int .i64 0] 31 (0, 0)) ∧ W.heap[pall]? = some (.cells #[.slice (some ⟨gb, 0, none⟩) n n] 63 (0, 0)) ∧ Below w.heap.size w W) := fun W h =>
    ⟨h.heap HT2.out (by simp; omega), h.heap HR2.out (by simp; omega), h.heap HA2.out (by simpa using hne1), HB2.out.trans (h.below HB2.out.size (by simp; omega))⟩
  have HGB := Lib.hid hgb
  have HPL := Lib.hid hpall
  have hTC : W1.cell? ⟨w.heap.size, 2, none⟩ = some (.slice sa n scap) := by rw [cell_of_row _ _ _ _ _ _ ht1]; rfl
  have hTl := lt_of_heap ht1
  have hTC2 : W2.cell? ⟨w.heap.size, 2, none⟩ = some (.slice sa n scap) := by rw [cell_of_row _ _ _ _ _ _ HT2.out]; rfl
  have hTl2 := lt_of_heap HT2.out
  clear hgb hown hgrow hZ0 hZl hW ht1 hr1 hb1 hb2 hcur hgl hgb1 HT2 HR2 HA2 HI HZ HSI HY
  go_wp2_with fail
  rw [← hW2, ← hpall]
  clear hW2 hpall hTC hTl hTC2 hTl2
  go_loopw [16] (fun i wr => ∃ k : Nat, k ≤ n ∧ i = .int .i64 k ∧ Hid (AllRel w.heap.size W2 gb n L k wr)) (fun i _ => n - (intOf i).toNat)
  case atStart => exact ⟨0, by omega, rfl, R0⟩
  case round =>
    clear R0
    obtain ⟨k, hk, rfl, HP⟩ := hrel
    obtain ⟨ht, hr, hp, hbw⟩ := HPT.out wr HP.out.wrote
    have HBW := Lib.hid hbw
    by_cases hlt : k < n
    · obtain ⟨s, hsx⟩ : ∃ s, S[k]? = some s := ⟨_, List.getElem?_eq_getElem (by rw [← HN.out]; exact hlt)⟩
      obtain ⟨sg, so, rfl, hsg, sc⟩ := HS.out.below hbw k s hsx
      have s0 : wr.cell? ⟨sg, so + k * 12, none⟩ = some (.int .i64 s.view) := sc 0 _ rfl
      have s1 : wr.cell? ⟨sg, so + k * 12 + 1, none⟩ = some (.bool s.normal) := sc 1 _ rfl
      have s2 : wr.cell? ⟨sg, so + k * 12 + 2, none⟩ = some (.int .i64 s.done) := sc 2 _ rfl
      have s3 : wr.cell? ⟨sg, so + k * 12 + 3, none⟩ = some (.int .i64 s.stable) := sc 3 _ rfl
      have s4 : wr.cell? ⟨sg, so + k * 12 + 4, none⟩ = some (.int .i64 s.pending) := sc 4 _ rfl
      have s5 : wr.cell? ⟨sg, so + k * 12 + 5, none⟩ = some (.slice s.ranS.a s.ranS.n s.ranS.cap) := sc 5 _ rfl
      have s6 : wr.cell? ⟨sg, so + k * 12 + 6, none⟩ = some (.slice s.saysS.a s.saysS.n s.saysS.cap) := sc 6 _ rfl
      have s7 : wr.cell? ⟨sg, so + k * 12 + 7, none⟩ = some (.slice s.recsS.a s.recsS.n s.recsS.cap) := sc 7 _ rfl
      have s8 : wr.cell? ⟨sg, so + k * 12 + 8, none⟩ = some (.slice s.entsS.a s.entsS.n s.entsS.cap) := sc 8 _ rfl
      have s9 : wr.cell? ⟨sg, so + k * 12 + 9, none⟩ = some (.slice s.heldS.a s.heldS.n s.heldS.cap) := sc 9 _ rfl
      have s10 : wr.cell? ⟨sg, so + k * 12 + 10, none⟩ = some (.slice s.piecesS.a s.piecesS.n s.piecesS.cap) := sc 10 _ rfl
      have s11 : wr.cell? ⟨sg, so + k * 12 + 11, none⟩ = some (.slice s.movesS.a s.movesS.n s.movesS.cap) := sc 11 _ rfl
      obtain ⟨Z, hZ, hrow⟩ := HP.out.row
      obtain ⟨z0, z1, z2, z3, z4, z5, z6, z7, z8, z9, z10, z11, z12, Z', rfl⟩ := thirteen (Z := Z) (by rw [hZ]; have h9 : 1 * 13 ≤ (n - k) * 13 := Nat.mul_le_mul_right 13 (by omega); omega)
      have hlen : ((L.take k).flatMap oneL).length = k * 13 := by
        rw [flat_len, List.length_take, HL.out, ones_len, ← HN.out, Nat.min_eq_left hk]
      have HROW := Lib.hid hrow
      have hkn : k * 13 + 13 ≤ n * 13 := by omega
      have c0 : wr.cell? ⟨gb, k * 13, none⟩ = some z0 := by rw [hrow.cellAt (k * 13) (by omega), List.getElem?_append_right (by omega)]; simp [hlen]
      have c1 : wr.cell? ⟨gb, k * 13 + 1, none⟩ = some z1 := by rw [hrow.cellAt (k * 13 + 1) (by omega), List.getElem?_append_right (by omega)]; simp [hlen]
      have c2 : wr.cell? ⟨gb, k * 13 + 2, none⟩ = some z2 := by rw [hrow.cellAt (k * 13 + 2) (by omega), List.getElem?_append_right (by omega)]; simp [hlen]
      have c3 : wr.cell? ⟨gb, k * 13 + 3, none⟩ = some z3 := by rw [hrow.cellAt (k * 13 + 3) (by omega), List.getElem?_append_right (by omega)]; simp [hlen]
      have c4 : wr.cell? ⟨gb, k * 13 + 4, none⟩ = some z4 := by rw [hrow.cellAt (k * 13 + 4) (by omega), List.getElem?_append_right (by omega)]; simp [hlen]
      have c5 : wr.cell? ⟨gb, k * 13 + 5, none⟩ = some z5 := by rw [hrow.cellAt (k * 13 + 5) (by omega), List.getElem?_append_right (by omega)]; simp [hlen]
      have c6 : wr.cell? ⟨gb, k * 13 + 6, none⟩ = some z6 := by rw [hrow.cellAt (k * 13 + 6) (by omega), List.getElem?_append_right (by omega)]; simp [hlen]
      have c7 : wr.cell? ⟨gb, k * 13 + 7, none⟩ = some z7 := by rw [hrow.cellAt (k * 13 + 7) (by omega), List.getElem?_append_right (by omega)]; simp [hlen]
      have c8 : wr.cell? ⟨gb, k * 13 + 8, none⟩ = some z8 := by rw [hrow.cellAt (k * 13 + 8) (by omega), List.getElem?_append_right (by omega)]; simp [hlen]
      have c9 : wr.cell? ⟨gb, k * 13 + 9, none⟩ = some z9 := by rw [hrow.cellAt (k * 13 + 9) (by omega), List.getElem?_append_right (by omega)]; simp [hlen]
      have c10 : wr.cell? ⟨gb, k * 13 + 10, none⟩ = some z10 := by rw [hrow.cellAt (k * 13 + 10) (by omega), List.getElem?_append_right (by omega)]; simp [hlen]
      have c11 : wr.cell? ⟨gb, k * 13 + 11, none⟩ = some z11 := by rw [hrow.cellAt (k * 13 + 11) (by omega), List.getElem?_append_right (by omega)]; simp [hlen]
      have c12 : wr.cell? ⟨gb, k * 13 + 12, none⟩ = some z12 := by rw [hrow.cellAt (k * 13 + 12) (by omega), List.getElem?_append_right (by omega)]; simp [hlen]
      have fz : ∀ i, wr.frozen? ⟨gb, i, none⟩ = false := fun i => hrow.frozenAt i
      have hgl := lt_of_heap (row_block hrow rfl).2.choose_spec
      have qp : wr.cell? ⟨pall, 0, none⟩ = some (.slice (some ⟨gb, 0, none⟩) n n) := by rw [cell_of_row _ _ _ _ _ _ hp]; rfl
      have lpl := lt_of_heap hp
      have hk0 : (0 : Int) ≤ (k : Int) := by omega
      have hk1 : (k : Int) < (n : Int) := by omega
      have HLEN := Lib.hid hlen
      have HZL := Lib.hid hZ
      have HSX := Lib.hid hsx
      clear hrow hZ sc hsx hlen ht hr hp hbw
      go_upto_region 6 with fail
      obtain ⟨W5, hW5⟩ : ∃ W5, W5 = (((((((((((((wr.setCell ⟨gb, k * 13, none⟩ (.int .i64 (-1))).setCell ⟨gb, k * 13 + 1, none⟩ (.int .i64 s.view)).setCell ⟨gb, k * 13 + 2, none⟩ (.bool s.normal)).setCell ⟨gb, k * 13 + 3, none⟩ (.int .i64 s.done)).setCell ⟨gb, k * 13 + 4, none⟩ (.int .i64 s.stable)).setCell ⟨gb, k * 13 + 5, none⟩ (.int .i64 s.pending)).setCell ⟨gb, k * 13 + 6, none⟩ (.slice s.ranS.a s.ranS.n s.ranS.cap)).setCell ⟨gb, k * 13 + 7, none⟩ (.slice s.saysS.a s.saysS.n s.saysS.cap)).setCell ⟨gb, k * 13 + 8, none⟩ (.slice s.recsS.a s.recsS.n s.recsS.cap)).setCell ⟨gb, k * 13 + 9, none⟩ (.slice s.entsS.a s.entsS.n s.entsS.cap)).setCell ⟨gb, k * 13 + 10, none⟩ (.slice s.heldS.a s.heldS.n s.heldS.cap)).setCell ⟨gb, k * 13 + 11, none⟩ (.slice s.piecesS.a s.piecesS.n s.piecesS.cap)).setCell ⟨gb, k * 13 + 12, none⟩ (.slice s.movesS.a s.movesS.n s.movesS.cap)).alloc (.cells #[.int .i64 s.view, .bool s.normal, .int .i64 s.done, .int .i64 s.stable, .int .i64 s.pending, .slice s.ranS.a s.ranS.n s.ranS.cap, .slice s.saysS.a s.saysS.n s.saysS.cap, .slice s.recsS.a s.recsS.n s.recsS.cap, .slice s.entsS.a s.entsS.n s.entsS.cap, .slice s.heldS.a s.heldS.n s.heldS.cap, .slice s.piecesS.a s.piecesS.n s.piecesS.cap, .slice s.movesS.a s.movesS.n s.movesS.cap] 41) := ⟨_, rfl⟩
      have hr5 : W5.ownsRow w.heap.size 65 13 (.slice (some ⟨gb, 0, none⟩) n n) n ((L.take k).flatMap oneL ++ oneL ⟨-1, s⟩ ++ Z') := by
        rw [hW5]
        exact row_below (row_thirteen _ _ _ _ _ _ _ _ _ _ _ _ _ HLEN.out HROW.out) ((Below.refl _ _).alloc (Nat.le_refl _) _)
      have hw5 : Wrote [gb] W2 W5 := by
        rw [hW5]
        exact (wrote_thirteen _ _ _ _ _ _ _ _ _ _ _ _ _ HP.out.wrote).alloc _
      have HR5 := Lib.hid hr5
      have HW5 := Lib.hid hw5
      rw [← hW5]
      clear hW5 hr5 hw5 s0 c0 s1 c1 s2 c2 s3 c3 s4 c4 s5 c5 s6 c6 s7 c7 s8 c8 s9 c9 s10 c10 s11 c11 c12 fz hgl qp lpl
      obtain ⟨ht, hr, hp, hbw⟩ := HPT.out W5 HW5.out
      have qg : W5.cell? ⟨w.heap.size, 1, none⟩ = some (.slice ga gn gcap) := by rw [cell_of_row _ _ _ _ _ _ ht]; rfl
      have qp : W5.cell? ⟨pall, 0, none⟩ = some (.slice (some ⟨gb, 0, none⟩) n n) := by rw [cell_of_row _ _ _ _ _ _ hp]; rfl
      have ltl := lt_of_heap ht
      have lpl := lt_of_heap hp
      have HBW5 := Lib.hid hbw
      have HNX : Hid (∀ v W, v = groupOf G k → W.ownsRow w.heap.size 65 13 (.slice (some ⟨gb, 0, none⟩) n n) n ((L.take k).flatMap oneL ++ oneL ⟨v, s⟩ ++ Z') → Wrote [gb] W2 W → AllRel w.heap.size W2 gb n L (k + 1) W) := by
        intro v W hv h1 h2
        subst hv
        refine ⟨⟨Z', ?_, ?_⟩, h2⟩
        · have h := HZL.out
          simp only [List.length_cons] at h
          have h9 : (n - k) * 13 = (n - (k + 1)) * 13 + 13 := by have : n - k = n - (k + 1) + 1 := by omega
                                                                 rw [this]; omega
          omega
        · have hLk : L[k]? = some ⟨groupOf G k, s⟩ := by rw [HL.out, ones_get, HSX.out]; rfl
          rw [List.take_add_one, hLk]
          simpa using h1
      clear ht hr hp hbw
      by_cases hg : k < gn
      · obtain ⟨x, hx⟩ : ∃ x, G[k]? = some x := ⟨_, List.getElem?_eq_getElem (by rw [← HGN.out]; exact hg)⟩
        obtain ⟨gg, go, rfl, hgg, gc⟩ := HG.out.below HBW5.out k x hx
        have g0 : W5.cell? ⟨gg, go + k * 1, none⟩ = some (.int .i64 x) := gc 0 _ rfl
        rw [Nat.mul_one] at g0
        have hgo : max x (-1) = groupOf G k := by unfold groupOf; rw [hx]
        have hg1 : (k : Int) < (gn : Int) := by omega
        have c0 : W5.cell? ⟨gb, k * 13, none⟩ = some (.int .i64 (-1)) := by
          rw [HR5.out.cellAt (k * 13) (by omega), List.append_assoc, List.getElem?_append_right (by rw [HLEN.out]; exact Nat.le_refl _)]
          simp [HLEN.out, oneL]
        have fz : ∀ i, W5.frozen? ⟨gb, i, none⟩ = false := fun i => HR5.out.frozenAt i
        have hgl := lt_of_heap (row_block HR5.out rfl).2.choose_spec
        have hset : ((L.take k).flatMap oneL ++ oneL ⟨-1, s⟩ ++ Z').set (k * 13) (.int .i64 (max x (-1))) = (L.take k).flatMap oneL ++ oneL ⟨max x (-1), s⟩ ++ Z' := by
          exact set_head HLEN.out
        have HSET := Lib.hid ((HR5.out.stored (k * 13) (.int .i64 (max x (-1)))).1)
        rw [hset] at HSET
        have HPN : Hid (AllRel w.heap.size W2 gb n L (k + 1) (W5.setCell ⟨gb, k * 13, none⟩ (.int .i64 (max x (-1))))) := HNX.out _ _ hgo HSET.out (HW5.out.setCell (.inl (List.mem_singleton.2 rfl)) _)
        clear hset HSET HNX
        clear hx gc hgo
        go_wp2_with fail
        go_region
        go_wp2_with fail
        go_roundw
        case rel => exact ⟨k + 1, by omega, by go_num, row_below HPN.out.row.choose_spec.2 (Below.refl _ _).drew |> fun h => ⟨⟨_, HPN.out.row.choose_spec.1, h⟩, HPN.out.wrote.drew⟩⟩
        case measure => simp [intOf]; omega
      · have hg1 : ¬ (k : Int) < (gn : Int) := by omega
        have hgo : (-1 : Int) = groupOf G k := by
          unfold groupOf
          rw [List.getElem?_eq_none (by rw [← HGN.out]; omega)]
        have HPN := Lib.hid (HNX.out _ W5 hgo HR5.out HW5.out)
        clear hgo
        go_wp2_with fail
        go_roundw
        case rel => exact ⟨k + 1, by omega, by go_num, HPN⟩
        case measure => simp [intOf]; omega
    · obtain rfl : k = n := by omega
      obtain ⟨Z, hZ, hrow⟩ := HP.out.row
      obtain rfl : Z = [] := List.length_eq_zero_iff.1 (by rw [hZ]; simp)
      rw [List.append_nil, List.take_of_length_le (by rw [HL.out, ones_len, ← HN.out]; exact Nat.le_refl _)] at hrow
      have hnL : k = L.length := by rw [HL.out, ones_len]; exact HN.out
      have HLI := Lib.hid (row_lies hrow rfl hnL)
      have HNL := Lib.hid hnL
      have HTT := Lib.hid ht
      have HRR := Lib.hid hr
      have HPP := Lib.hid hp
      have HSN : Hid (∀ x ∈ L, SeenIn wr x.s ∧ Few x.s) := fun x hx => by
        rw [HL.out] at hx
        obtain ⟨i, hi⟩ := List.getElem?_of_mem hx
        rw [ones_get] at hi
        cases hs : S[i]? with
        | none => rw [hs] at hi; cases hi
        | some s =>
          rw [hs] at hi
          obtain rfl := Option.some.inj hi
          have h := HIN.out s (List.mem_of_getElem? hs)
          exact ⟨h.1.below HBW.out, h.2⟩
      clear hZ hrow hnL ht hr hp hbw
      go_wp2_with fail
      refine (mk_13 2 20 _ _).mono ?_
      rintro e A1' ⟨rfl, hA⟩
      obtain ⟨p1, hp⟩ : ∃ p, p = wr.heap.size := ⟨_, rfl⟩
      have BA1 : Hid (Below wr.heap.size wr A1') := by show Below _ _ _; rw [hA]; exact ((Below.refl _ _).alloc (Nat.le_refl _) _).alloc (by simp) _
      have HF1 : Hid (A1'.heap[p1]? = some (.cells #[.int .i64 2] 3 (0, 0))) := by show _ = _; rw [hA, hp]; exact (Below.heap_alloc _ _ _ (by simp)).trans (heap_alloc_new _ _)
      have HI1 : Hid (A1'.heap[p1 + 1]? = some (.cells #[.func (.func 20) #[] #[]] 66 (0, 0))) := by show _ = _; rw [hA, hp]; simpa using heap_alloc_new (wr.alloc (.cells #[.int .i64 2] 3)) (.cells #[.func (.func 20) #[] #[]] 66)
      rw [← hp]
      clear hA hp
      go_wp2_with fail
      refine (mk_13 3 21 _ _).mono ?_
      rintro e A2' ⟨rfl, hA⟩
      obtain ⟨p2, hp⟩ : ∃ p, p = A1'.heap.size := ⟨_, rfl⟩
      have BA2 : Hid (Below A1'.heap.size A1' A2') := by show Below _ _ _; rw [hA]; exact ((Below.refl _ _).alloc (Nat.le_refl _) _).alloc (by simp) _
      have HF2 : Hid (A2'.heap[p2]? = some (.cells #[.int .i64 3] 3 (0, 0))) := by show _ = _; rw [hA, hp]; exact (Below.heap_alloc _ _ _ (by simp)).trans (heap_alloc_new _ _)
      have HI2 : Hid (A2'.heap[p2 + 1]? = some (.cells #[.func (.func 21) #[] #[]] 66 (0, 0))) := by show _ = _; rw [hA, hp]; simpa using heap_alloc_new (A1'.alloc (.cells #[.int .i64 3] 3)) (.cells #[.func (.func 21) #[] #[]] 66)
      rw [← hp]
      clear hA hp
      go_wp2_with fail
      refine (mk_13 5 22 _ _).mono ?_
      rintro e A3' ⟨rfl, hA⟩
      obtain ⟨p3, hp⟩ : ∃ p, p = A2'.heap.size := ⟨_, rfl⟩
      have BA3 : Hid (Below A2'.heap.size A2' A3') := by show Below _ _ _; rw [hA]; exact ((Below.refl _ _).alloc (Nat.le_refl _) _).alloc (by simp) _
      have HF3 : Hid (A3'.heap[p3]? = some (.cells #[.int .i64 5] 3 (0, 0))) := by show _ = _; rw [hA, hp]; exact (Below.heap_alloc _ _ _ (by simp)).trans (heap_alloc_new _ _)
      have HI3 : Hid (A3'.heap[p3 + 1]? = some (.cells #[.func (.func 22) #[] #[]] 66 (0, 0))) := by show _ = _; rw [hA, hp]; simpa using heap_alloc_new (A2'.alloc (.cells #[.int .i64 5] 3)) (.cells #[.func (.func 22) #[] #[]] 66)
      rw [← hp]
      clear hA hp
      go_wp2_with fail
      obtain ⟨A4, hA4⟩ : ∃ A4, A4 = A3'.alloc (.cells #[.func (.func 15) #[] #[.pointer (some ⟨w.heap.size, 0, none⟩)], .func (.func 14) #[] #[.pointer (some ⟨pall, 0, none⟩), .pointer (some ⟨p1 + 1, 0, none⟩), .pointer (some ⟨p1, 0, none⟩)], .func (.func 14) #[] #[.pointer (some ⟨pall, 0, none⟩), .pointer (some ⟨p2 + 1, 0, none⟩), .pointer (some ⟨p2, 0, none⟩)], .func (.func 17) #[] #[.pointer (some ⟨pall, 0, none⟩), .pointer (some ⟨w.heap.size, 0, none⟩)], .func (.func 14) #[] #[.pointer (some ⟨pall, 0, none⟩), .pointer (some ⟨p3 + 1, 0, none⟩), .pointer (some ⟨p3, 0, none⟩)]] 68) := ⟨_, rfl⟩
      have BA4 : Hid (Below A3'.heap.size A3' A4) := by show Below _ _ _; rw [hA4]; exact (Below.refl _ _).alloc (Nat.le_refl _) _
      obtain ⟨gf, hgf⟩ : ∃ gf, gf = A3'.heap.size := ⟨_, rfl⟩
      have HROWF : Hid (A4.heap[gf]? = some (.cells #[.func (.func 15) #[] #[.pointer (some ⟨w.heap.size, 0, none⟩)], .func (.func 14) #[] #[.pointer (some ⟨pall, 0, none⟩), .pointer (some ⟨p1 + 1, 0, none⟩), .pointer (some ⟨p1, 0, none⟩)], .func (.func 14) #[] #[.pointer (some ⟨pall, 0, none⟩), .pointer (some ⟨p2 + 1, 0, none⟩), .pointer (some ⟨p2, 0, none⟩)], .func (.func 17) #[] #[.pointer (some ⟨pall, 0, none⟩), .pointer (some ⟨w.heap.size, 0, none⟩)], .func (.func 14) #[] #[.pointer (some ⟨pall, 0, none⟩), .pointer (some ⟨p3 + 1, 0, none⟩), .pointer (some ⟨p3, 0, none⟩)]] 68 (0, 0))) := by show _ = _; rw [hA4, hgf]; exact heap_alloc_new _ _
      rw [← hA4, ← hgf]
      clear hA4 hgf
      have BW : Hid (Below wr.heap.size wr A4) := BA1.out.trans ((BA2.out.trans ((BA3.out.trans (BA4.out.mono BA3.out.size)).mono BA2.out.size)).mono BA1.out.size)
      have BW0 : Hid (∀ W, Below A4.heap.size A4 W → Below w.heap.size w W) := fun W hb => HBW.out.trans ((BW.out.trans (hb.mono BW.out.size)).mono HBW.out.size)
      have HFI1 : Hid (∀ W, Below A4.heap.size A4 W → W.heap[p1]? = some (.cells #[.int .i64 2] 3 (0, 0)) ∧ W.heap[p1 + 1]? = some (.cells #[.func (.func 20) #[] #[]] 66 (0, 0))) := fun W hb => by
        have q := BA2.out.trans ((BA3.out.trans ((BA4.out.trans (hb.mono BA4.out.size)).mono BA3.out.size)).mono BA2.out.size)
        exact ⟨(q.block _ (lt_of_heap HF1.out)).trans HF1.out, (q.block _ (lt_of_heap HI1.out)).trans HI1.out⟩
      have HFI2 : Hid (∀ W, Below A4.heap.size A4 W → W.heap[p2]? = some (.cells #[.int .i64 3] 3 (0, 0)) ∧ W.heap[p2 + 1]? = some (.cells #[.func (.func 21) #[] #[]] 66 (0, 0))) := fun W hb => by
        have q := BA3.out.trans ((BA4.out.trans (hb.mono BA4.out.size)).mono BA3.out.size)
        exact ⟨(q.block _ (lt_of_heap HF2.out)).trans HF2.out, (q.block _ (lt_of_heap HI2.out)).trans HI2.out⟩
      have HFI3 : Hid (∀ W, Below A4.heap.size A4 W → W.heap[p3]? = some (.cells #[.int .i64 5] 3 (0, 0)) ∧ W.heap[p3 + 1]? = some (.cells #[.func (.func 22) #[] #[]] 66 (0, 0))) := fun W hb => by
        have q := BA4.out.trans (hb.mono BA4.out.size)
        exact ⟨(q.block _ (lt_of_heap HF3.out)).trans HF3.out, (q.block _ (lt_of_heap HI3.out)).trans HI3.out⟩
      have HW : Hid (∀ W, Below A4.heap.size A4 W → Below wr.heap.size wr W) := fun W hb => BW.out.trans (hb.mono BW.out.size)
      have hk9 : L.length ≤ 1000 := by rw [← HNL.out]; omega
      have HALL : Hid (∀ W, Below A4.heap.size A4 W → W.heap[pall]? = some (.cells #[.slice (some ⟨gb, 0, none⟩) L.length k] 63 (0, 0)) ∧ W.heap[w.heap.size]? = some (.cells #[.slice oa T.length ocap, .slice ga gn gcap, .slice sa k scap] 26 (0, 0)) ∧ Lies W (some ⟨gb, 0, none⟩) 13 oneL L ∧ (∀ x ∈ L, SeenIn W x.s ∧ Few x.s)) := fun W hb => by
        have q := HW.out W hb
        rw [← HNL.out, ← HTN.out]
        exact ⟨(q.block _ (lt_of_heap HPP.out)).trans HPP.out, (q.block _ (lt_of_heap HTT.out)).trans HTT.out, HLI.out.below q, fun x hx => ⟨(HSN.out x hx).1.below q, (HSN.out x hx).2⟩⟩
      have HFIRST := Lib.hid (first_19 A4 gf _ _ _ _ _ _ _ _ _ _ _ _ (ReadSpec T) (PairSpec 2 L ranB) (PairSpec 3 L decB) (EntSpec T L) (PairSpec 5 L ownB) HROWF.out
        (fun W hb => reads_15 T W _ _ _ _ _ (HALL.out W hb).2.1 (far_below HO.out (BW0.out W hb) (by simp)) HF.out)
        (fun W hb => pair_20 2 L W _ _ _ _ _ (HALL.out W hb).1 (HFI1.out W hb).2 (HFI1.out W hb).1 (HALL.out W hb).2.2.1 (HALL.out W hb).2.2.2 hk9)
        (fun W hb => pair_21 3 L W _ _ _ _ _ (HALL.out W hb).1 (HFI2.out W hb).2 (HFI2.out W hb).1 (HALL.out W hb).2.2.1 (HALL.out W hb).2.2.2 hk9)
        (fun W hb => entries_17 T L W _ _ _ _ _ _ _ _ (HALL.out W hb).1 (HALL.out W hb).2.1 (HALL.out W hb).2.2.1 (HALL.out W hb).2.2.2 hk9 (far_below HO.out (BW0.out W hb) (by simp)) HF.out)
        (fun W hb => pair_22 5 L W _ _ _ _ _ (HALL.out W hb).1 (HFI3.out W hb).2 (HFI3.out W hb).1 (HALL.out W hb).2.2.1 (HALL.out W hb).2.2.2 hk9))
      refine HFIRST.out.mono ?_
      rintro e w9 ⟨v, rfl, hb9, hs9⟩
      have HV := Lib.hid hs9
      obtain ⟨f, a, b⟩ := v
      unfold verA
      simp only
      have hrb := ((HW.out w9 hb9).block _ (lt_of_heap HRR.out)).trans HRR.out
      have r0 : w9.cell? ⟨w.heap.size + 1, 0, none⟩ = some (.int .i64 0) := by rw [cell_of_row _ _ _ _ _ _ hrb]; rfl
      have r1 : w9.cell? ⟨w.heap.size + 1, 1, none⟩ = some (.int .i64 0) := by rw [cell_of_row _ _ _ _ _ _ hrb]; rfl
      have r2 : w9.cell? ⟨w.heap.size + 1, 2, none⟩ = some (.int .i64 0) := by rw [cell_of_row _ _ _ _ _ _ hrb]; rfl
      have fz : ∀ i, w9.frozen? ⟨w.heap.size + 1, i, none⟩ = false := fun i => by simp [World.frozen?, hrb]
      have hrl := lt_of_heap hrb
      have HB9 := Lib.hid (BW0.out w9 hb9)
      clear hrb hb9 hs9 HFIRST hk9
      go_wp2_with fail
      refine bodyPost_ret (v := .agg #[.int .i64 f, .int .i64 a, .int .i64 b]) (by simp [results, Try.results8, go_sem, r0, r1, r2]) rfl ⟨⟨f, a, b⟩, rfl, ?_, HV.out⟩
      have hb := HB9.out
      go_grown
end Go.Proofs.Ytpcmkifgfokdpaa
