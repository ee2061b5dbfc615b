/- A judge: what the order read, and what entries are none that it makes. -/
import Derived.Test.YtpcmkifgfokdpaaOnes
namespace Go.Proofs.Ytpcmkifgfokdpaa
open Go.RowKit Go.My Go.My.Model Go.Deep
def FindLeft (w : World) (S : Verd → Prop) (e : Ending) (w' : World) : Prop := ∃ v, e = .returned (verA v) ∧ Below w.heap.size w w' ∧ S v
def ReadSpec (T : List Tx) (v : Verd) : Prop := (v = verd0 ∧ fitsN T = T.length) ∨ (v = ⟨1, (fitsN T : Int), 0⟩ ∧ fitsN T < T.length)
/-- so many transactions -/
structure FewT (T : List Tx) : Prop where
  len : T.length ≤ 1000
  reads : ∀ t ∈ T, t.reads.length ≤ 1000
  writes : (flat T T.length).length ≤ 1000
set_option maxRecDepth 100000 in
set_option maxHeartbeats 1600000 in
theorem reads_15 (T : List Tx) (w : World) (pt : Nat) (oa : Option Addr) (ocap : Nat) (v1 v2 : Value) (hp : w.heap[pt]? = some (.cells #[.slice oa T.length ocap, v1, v2] 26 (0, 0))) (ho : OrdFar [] w oa T) (hf : FewT T) :
    Calls Try.prog 15 #[.pointer (some ⟨pt, 0, none⟩)] w (FindLeft w (ReadSpec T)) := by
  have HF : Hid (∀ W, Below w.heap.size w W → Calls Try.prog 16 #[.slice oa T.length ocap] W (FitsLeft W T)) := fun W hb =>
    fits_any oa ocap T W (far_below ho hb (by simp)) (by have := hf.len; omega) (by have := hf.writes; omega) (fun t ht => by have := hf.reads t ht; omega)
  have lp := lt_of_heap hp
  have HP := Lib.hid hp
  have hfl := fits_le T
  have hl := hf.len
  obtain ⟨n, hn⟩ : ∃ n, n = T.length := ⟨_, rfl⟩
  obtain ⟨f, hfn⟩ : ∃ f, f = fitsN T := ⟨_, rfl⟩
  have HS : Hid (∀ v, ((v = verd0 ∧ f = n) ∨ (v = ⟨1, (f : Int), 0⟩ ∧ f < n)) → ReadSpec T v) := fun v h => by rw [hfn, hn] at h; exact h
  unfold FitsLeft at HF
  rw [← hn, ← hfn] at HF
  rw [← hn] at HP hfl hl
  rw [← hfn] at hfl
  clear hp ho hf hn hfn
  have q0 : w.cell? ⟨pt, 0, none⟩ = some (.slice oa n ocap) := by rw [cell_of_row _ _ _ _ _ _ HP.out]; rfl
  obtain ⟨W0, hW0⟩ : ∃ W0, W0 = w.alloc (.cells #[.int .i64 0, .int .i64 0, .int .i64 0] 31) := ⟨_, rfl⟩
  have HB0 : Hid (Below w.heap.size w W0) := by show Below _ _ _; rw [hW0]; exact (Below.refl _ w).alloc (Nat.le_refl _) _
  have HR0 : Hid (W0.heap[w.heap.size]? = some (.cells #[.int .i64 0, .int .i64 0, .int .i64 0] 31 (0, 0))) := by show _ = _; rw [hW0]; exact heap_alloc_new w _
  have hn8 : (n : Int) ≤ 1000 := by omega
  go_enter Try.func15, Try.ntmps15
  go_wp2_with fail
  rw [← hW0]
  clear hW0 q0
  refine (HF.out W0 HB0.out).mono ?_
  rintro e w1 ⟨rfl, hb1⟩
  have HB1 : Hid (Below w.heap.size w w1) := HB0.out.trans (hb1.mono HB0.out.size)
  have q0 : w1.cell? ⟨pt, 0, none⟩ = some (.slice oa n ocap) := by rw [cell_of_row _ _ _ _ _ _ ((HB1.out.block _ lp).trans HP.out)]; rfl
  have hrb := (hb1.block _ (lt_of_heap HR0.out)).trans HR0.out
  have r0 : w1.cell? ⟨w.heap.size, 0, none⟩ = some (.int .i64 0) := by rw [cell_of_row _ _ _ _ _ _ hrb]; rfl
  have r1 : w1.cell? ⟨w.heap.size, 1, none⟩ = some (.int .i64 0) := by rw [cell_of_row _ _ _ _ _ _ hrb]; rfl
  have r2 : w1.cell? ⟨w.heap.size, 2, none⟩ = some (.int .i64 0) := by rw [cell_of_row _ _ _ _ _ _ hrb]; rfl
  have fz : ∀ i, w1.frozen? ⟨w.heap.size, i, none⟩ = false := fun i => by simp [World.frozen?, hrb]
  have hrl := lt_of_heap hrb
  have lp1 := Nat.lt_of_lt_of_le lp HB1.out.size
  clear hrb hb1 HR0 HB0
  by_cases hlt : f < n
  · have hd : (f : Int) < (n : Int) := by omega
    go_wp2_with fail
    refine bodyPost_ret (v := .agg #[.int .i64 1, .int .i64 (f : Int), .int .i64 0]) (by simp [results, Try.results15, go_sem, r0, r1, r2]) rfl ⟨⟨1, (f : Int), 0⟩, rfl, ?_, HS.out _ (.inr ⟨rfl, hlt⟩)⟩
    have hb := HB1.out
    go_grown
  · have hd : ¬ (f : Int) < (n : Int) := by omega
    go_wp2_with fail
    refine bodyPost_ret (v := .agg #[.int .i64 0, .int .i64 0, .int .i64 0]) (by simp [results, Try.results15, go_sem, r0, r1, r2]) rfl ⟨verd0, rfl, ?_, HS.out _ (.inl ⟨rfl, by omega⟩)⟩
    have hb := HB1.out
    go_grown
theorem key_ne {a b : ByteArray} (h : a ≠ b) : (a.toList == b.toList) = false := by
  cases hb : a.toList == b.toList with
  | false => rfl
  | true =>
    refine absurd ?_ h
    have h' : a.toList = b.toList := by simpa using hb
    rw [Lib.toList_data, Lib.toList_data] at h'
    cases a with | mk a => cases b with | mk b =>
      cases a; cases b; simp at h'; rw [h']
/-- Is an entry one that the order makes? -/
def entOK (T : List Tx) (e : Ent) : Bool := atOk (flat T T.length) e.key e.ver && decide (e.value = (atEnt (flat T T.length) e.key e.ver).value)
def EntSpec (T : List Tx) (L : List One) (v : Verd) : Prop :=
  (v = verd0 ∧ ∀ (a : Nat) x, L[a]? = some x → 0 < x.group → ∀ e ∈ x.s.ents, entOK T e = true) ∨
  (∃ (a b : Nat) (x : One) (e : Ent), L[a]? = some x ∧ 0 < x.group ∧ x.s.ents[b]? = some e ∧ entOK T e = false ∧ v = ⟨4, (a : Int), (b : Int)⟩)
theorem at_key {T : List Tx} {k : ByteArray} {v : Int} (h : atOk (flat T T.length) k v = true) : atEnt (flat T T.length) k v = ⟨k, (atEnt (flat T T.length) k v).value, v⟩ := by
  unfold atEnt
  rw [if_pos h]
set_option maxRecDepth 100000 in
set_option maxHeartbeats 3200000 in
theorem entries_17 (T : List Tx) (L : List One) (w : World) (pa pt : Nat) (aa oa : Option Addr) (cap ocap : Nat) (v1 v2 : Value) (ha : w.heap[pa]? = some (.cells #[.slice aa L.length cap] 63 (0, 0))) (hp : w.heap[pt]? = some (.cells #[.slice oa T.length ocap, v1, v2] 26 (0, 0)))
    (hL : Lies w aa 13 oneL L) (hs : ∀ x ∈ L, SeenIn w x.s ∧ Few x.s) (hn9 : L.length ≤ 1000) (ho : OrdFar [] w oa T) (hf : FewT T) :
    Calls Try.prog 17 #[.pointer (some ⟨pa, 0, none⟩), .pointer (some ⟨pt, 0, none⟩)] w (FindLeft w (EntSpec T L)) := by
  have HA : Hid (∀ W k v, Below w.heap.size w W → Calls Try.prog 18 #[.slice oa T.length ocap, .string k, .int .i64 v] W (AtLeft W T k v)) := fun W k v hb =>
    at_any oa ocap T k v W (far_below ho hb (by simp)) (by have := hf.len; omega) (by have := hf.writes; omega)
  have HL := Lib.hid hL
  have HS := Lib.hid hs
  have HPA := Lib.hid ha
  have HPT := Lib.hid hp
  have la := lt_of_heap ha
  have lp := lt_of_heap hp
  obtain ⟨n, hn⟩ : ∃ n, n = L.length := ⟨_, rfl⟩
  have HN := Lib.hid hn
  have hn8 : (n : Int) ≤ 1000 := by omega
  rw [← hn] at HPA
  obtain ⟨tn, htn⟩ : ∃ tn, tn = T.length := ⟨_, rfl⟩
  rw [← htn] at HPT
  have HTN := Lib.hid htn
  clear hL hs ha hp hn hn9 ho hf htn
  obtain ⟨W0, hW0⟩ : ∃ W0, W0 = w.alloc (.cells #[.int .i64 0, .int .i64 0, .int .i64 0] 31) := ⟨_, rfl⟩
  have HB0 : Hid (Below w.heap.size w W0) := by show Below _ _ _; rw [hW0]; exact (Below.refl _ w).alloc (Nat.le_refl _) _
  have HR0 : Hid (W0.heap[w.heap.size]? = some (.cells #[.int .i64 0, .int .i64 0, .int .i64 0] 31 (0, 0))) := by show _ = _; rw [hW0]; exact heap_alloc_new w _
  have HPQ : Hid (∀ W, Below w.heap.size w W → W.cell? ⟨pa, 0, none⟩ = some (.slice aa n cap) ∧ W.cell? ⟨pt, 0, none⟩ = some (.slice oa tn ocap)) := fun W hb =>
    ⟨by rw [cell_of_row _ _ _ _ _ _ ((hb.block _ la).trans HPA.out)]; rfl, by rw [cell_of_row _ _ _ _ _ _ ((hb.block _ lp).trans HPT.out)]; rfl⟩
  have q1 : W0.cell? ⟨pa, 0, none⟩ = some (.slice aa n cap) := (HPQ.out W0 HB0.out).1
  have la0 := Nat.lt_of_lt_of_le la HB0.out.size
  have P0 : Hid (Below W0.heap.size W0 W0 ∧ ∀ (a : Nat) x, a < 0 → L[a]? = some x → 0 < x.group → ∀ e ∈ x.s.ents, entOK T e = true) := ⟨Below.refl _ _, fun a x h => by omega⟩
  have hq := (HPQ.out w (Below.refl _ _)).1
  go_enter Try.func17, Try.ntmps17
  go_wp2_with fail
  rw [← hW0]
  clear hW0 hq q1 la0
  go_loopw [11] (fun i wr => ∃ j : Nat, j ≤ n ∧ i = .int .i64 j ∧ Hid (Below W0.heap.size W0 wr ∧ ∀ (a : Nat) x, a < j → L[a]? = some x → 0 < x.group → ∀ e ∈ x.s.ents, entOK T e = true)) (fun i _ => n - (intOf i).toNat)
  case atStart => exact ⟨0, by omega, rfl, P0⟩
  case round =>
    clear P0
    obtain ⟨j, hj, rfl, HP⟩ := hrel
    have HBW : Hid (Below w.heap.size w wr) := HB0.out.trans (HP.out.1.mono HB0.out.size)
    by_cases hlt : j < n
    · have hj0 : (0 : Int) ≤ (j : Int) := by omega
      have hj1 : (j : Int) < (n : Int) := by omega
      obtain ⟨x, hx⟩ : ∃ x, L[j]? = some x := ⟨_, List.getElem?_eq_getElem (by rw [← HN.out]; exact hlt)⟩
      obtain ⟨g, o, rfl, hg, uc⟩ := HL.out.below HBW.out j x hx
      have u0 : wr.cell? ⟨g, o + j * 13, none⟩ = some (.int .i64 x.group) := uc 0 _ rfl
      have u1 : wr.cell? ⟨g, o + j * 13 + 1, none⟩ = some (.int .i64 x.s.view) := uc 1 _ rfl
      have u2 : wr.cell? ⟨g, o + j * 13 + 2, none⟩ = some (.bool x.s.normal) := uc 2 _ rfl
      have u3 : wr.cell? ⟨g, o + j * 13 + 3, none⟩ = some (.int .i64 x.s.done) := uc 3 _ rfl
      have u4 : wr.cell? ⟨g, o + j * 13 + 4, none⟩ = some (.int .i64 x.s.stable) := uc 4 _ rfl
      have u5 : wr.cell? ⟨g, o + j * 13 + 5, none⟩ = some (.int .i64 x.s.pending) := uc 5 _ rfl
      have u6 : wr.cell? ⟨g, o + j * 13 + 6, none⟩ = some (.slice x.s.ranS.a x.s.ranS.n x.s.ranS.cap) := uc 6 _ rfl
      have u7 : wr.cell? ⟨g, o + j * 13 + 7, none⟩ = some (.slice x.s.saysS.a x.s.saysS.n x.s.saysS.cap) := uc 7 _ rfl
      have u8 : wr.cell? ⟨g, o + j * 13 + 8, none⟩ = some (.slice x.s.recsS.a x.s.recsS.n x.s.recsS.cap) := uc 8 _ rfl
      have u9 : wr.cell? ⟨g, o + j * 13 + 9, none⟩ = some (.slice x.s.entsS.a x.s.entsS.n x.s.entsS.cap) := uc 9 _ rfl
      have u10 : wr.cell? ⟨g, o + j * 13 + 10, none⟩ = some (.slice x.s.heldS.a x.s.heldS.n x.s.heldS.cap) := uc 10 _ rfl
      have u11 : wr.cell? ⟨g, o + j * 13 + 11, none⟩ = some (.slice x.s.piecesS.a x.s.piecesS.n x.s.piecesS.cap) := uc 11 _ rfl
      have u12 : wr.cell? ⟨g, o + j * 13 + 12, none⟩ = some (.slice x.s.movesS.a x.s.movesS.n x.s.movesS.cap) := uc 12 _ rfl
      have HX := Lib.hid hx
      obtain ⟨hxs, hxf⟩ := HS.out x (List.mem_of_getElem? hx)
      have HXE := Lib.hid hxs.ents
      obtain ⟨k, hk⟩ : ∃ k, k = x.s.ents.length := ⟨_, rfl⟩
      have HK := Lib.hid hk
      have hk8 : (k : Int) ≤ 1000 := by have := hxf.ents; omega
      have hkn : x.s.entsS.n = k := by rw [hxs.entsN, hk]
      obtain ⟨ea, hea⟩ : ∃ ea, ea = x.s.entsS.a := ⟨_, rfl⟩
      rw [hkn, ← hea] at u9
      rw [← hea] at HXE
      obtain ⟨W1, hW1⟩ : ∃ W1, W1 = wr.alloc (.cells #[.int .i64 x.group, .int .i64 x.s.view, .bool x.s.normal, .int .i64 x.s.done, .int .i64 x.s.stable, .int .i64 x.s.pending, .slice x.s.ranS.a x.s.ranS.n x.s.ranS.cap, .slice x.s.saysS.a x.s.saysS.n x.s.saysS.cap, .slice x.s.recsS.a x.s.recsS.n x.s.recsS.cap, .slice ea k x.s.entsS.cap, .slice x.s.heldS.a x.s.heldS.n x.s.heldS.cap, .slice x.s.piecesS.a x.s.piecesS.n x.s.piecesS.cap, .slice x.s.movesS.a x.s.movesS.n x.s.movesS.cap] 65) := ⟨_, rfl⟩
      have HB1 : Hid (Below wr.heap.size wr W1) := by show Below _ _ _; rw [hW1]; exact (Below.refl _ wr).alloc (Nat.le_refl _) _
      have HR1 : Hid (W1.heap[wr.heap.size]? = some (.cells #[.int .i64 x.group, .int .i64 x.s.view, .bool x.s.normal, .int .i64 x.s.done, .int .i64 x.s.stable, .int .i64 x.s.pending, .slice x.s.ranS.a x.s.ranS.n x.s.ranS.cap, .slice x.s.saysS.a x.s.saysS.n x.s.saysS.cap, .slice x.s.recsS.a x.s.recsS.n x.s.recsS.cap, .slice ea k x.s.entsS.cap, .slice x.s.heldS.a x.s.heldS.n x.s.heldS.cap, .slice x.s.piecesS.a x.s.piecesS.n x.s.piecesS.cap, .slice x.s.movesS.a x.s.movesS.n x.s.movesS.cap] 65 (0, 0))) := by show _ = _; rw [hW1]; exact heap_alloc_new wr _
      have P1 : Hid (Below W1.heap.size W1 W1 ∧ (0 < x.group → ∀ (b : Nat) e, b < 0 → x.s.ents[b]? = some e → entOK T e = true)) := ⟨Below.refl _ _, fun _ b e h => by omega⟩
      have HBL : Hid (∀ W, Below W1.heap.size W1 W → Below W0.heap.size W0 W) := fun W hb => HP.out.1.trans ((HB1.out.trans (hb.mono HB1.out.size)).mono HP.out.1.size)
      clear hx uc hxs hxf hk hkn hea
      go_wp2_with fail
      obtain ⟨cb, hcb⟩ : ∃ cb, cb = wr.heap.size := ⟨_, rfl⟩
      rw [← hW1, ← hcb]
      rw [← hcb] at HR1
      have HGR : Hid (∀ W, Below W1.heap.size W1 W → W.cell? ⟨cb, 0, none⟩ = some (.int .i64 x.group) ∧ cb < W.heap.size) := fun W hb => by
        have h := (hb.block _ (lt_of_heap HR1.out)).trans HR1.out
        exact ⟨by rw [cell_of_row _ _ _ _ _ _ h]; rfl, lt_of_heap h⟩
      clear hW1 hcb HB1 HBW u0 u1 u2 u3 u4 u5 u6 u7 u8 u9 u10 u11 u12 hg HR1
      go_loopw [20] (fun i W => ∃ m : Nat, m ≤ k ∧ i = .int .i64 m ∧ Hid (Below W1.heap.size W1 W ∧ (0 < x.group → ∀ (b : Nat) e, b < m → x.s.ents[b]? = some e → entOK T e = true))) (fun i _ => k - (intOf i).toNat)
      case atStart => exact ⟨0, by omega, rfl, P1⟩
      case round =>
        clear P1
        obtain ⟨m, hm, rfl, HV⟩ := hrel
        have HBV : Hid (Below W0.heap.size W0 wr) := HBL.out _ HV.out.1
        have HBW : Hid (Below w.heap.size w wr) := HB0.out.trans (HBV.out.mono HB0.out.size)
        by_cases hlm : m < k
        · have hm0 : (0 : Int) ≤ (m : Int) := by omega
          have hm1 : (m : Int) < (k : Int) := by omega
          obtain ⟨e, he⟩ : ∃ e, x.s.ents[m]? = some e := ⟨_, List.getElem?_eq_getElem (by rw [← HK.out]; exact hlm)⟩
          obtain ⟨ge, oe, rfl, hge, ec⟩ := HXE.out.below HBW.out m e he
          have e0 : wr.cell? ⟨ge, oe + m * 3, none⟩ = some (.string e.key) := ec 0 _ rfl
          have e1 : wr.cell? ⟨ge, oe + m * 3 + 1, none⟩ = some (.string e.value) := ec 1 _ rfl
          have e2 : wr.cell? ⟨ge, oe + m * 3 + 2, none⟩ = some (.int .i64 e.ver) := ec 2 _ rfl
          obtain ⟨pq1, pq2⟩ := HPQ.out _ HBW.out
          have lp2 := Nat.lt_of_lt_of_le lp HBW.out.size
          have HE := Lib.hid he
          obtain ⟨W3, hW3⟩ : ∃ W3, W3 = wr.alloc (.cells #[.string e.key, .string e.value, .int .i64 e.ver] 43) := ⟨_, rfl⟩
          have HB3 : Hid (Below wr.heap.size wr W3) := by show Below _ _ _; rw [hW3]; exact (Below.refl _ wr).alloc (Nat.le_refl _) _
          have HR3 : Hid (W3.heap[wr.heap.size]? = some (.cells #[.string e.key, .string e.value, .int .i64 e.ver] 43 (0, 0))) := by show _ = _; rw [hW3]; exact heap_alloc_new wr _
          have hAc := HA.out W3 e.key e.ver (HBW.out.trans (HB3.out.mono HBW.out.size))
          unfold AtLeft at hAc
          rw [← HTN.out] at hAc
          obtain ⟨f, hf⟩ : ∃ f, f = atEnt (flat T tn) e.key e.ver := ⟨_, rfl⟩
          obtain ⟨b, hb⟩ : ∃ b, b = atOk (flat T tn) e.key e.ver := ⟨_, rfl⟩
          have HOK : Hid (entOK T e = (b && decide (e.value = f.value))) := by show _ = _; rw [hb, hf, HTN.out]; rfl
          have HKEY : Hid (b = true → f = ⟨e.key, f.value, e.ver⟩) := fun h => by rw [hb, HTN.out] at h; rw [hf, HTN.out]; exact at_key h
          rw [← hf, ← hb] at hAc
          have HAC := Lib.hid hAc
          obtain ⟨fk, fv, fn⟩ := f
          unfold entV at HAC
          clear he ec hf hb hAc pq1
          go_wp2_with fail
          obtain ⟨eb, heb⟩ : ∃ eb, eb = wr.heap.size := ⟨_, rfl⟩
          rw [← hW3, ← heb]
          rw [← heb] at HR3
          clear hW3 heb e0 e1 e2 pq2 lp2 hge
          refine HAC.out.mono ?_
          rintro r w4 ⟨rfl, hb4⟩
          have HB4 : Hid (Below W1.heap.size W1 w4) := HV.out.1.trans ((HB3.out.trans (hb4.mono HB3.out.size)).mono HV.out.1.size)
          have her := (hb4.block _ (lt_of_heap HR3.out)).trans HR3.out
          have e0 : w4.cell? ⟨eb, 0, none⟩ = some (.string e.key) := by rw [cell_of_row _ _ _ _ _ _ her]; rfl
          have e1 : w4.cell? ⟨eb, 1, none⟩ = some (.string e.value) := by rw [cell_of_row _ _ _ _ _ _ her]; rfl
          have e2 : w4.cell? ⟨eb, 2, none⟩ = some (.int .i64 e.ver) := by rw [cell_of_row _ _ _ _ _ _ her]; rfl
          have hel := lt_of_heap her
          obtain ⟨hgr, hgl⟩ := HGR.out _ HB4.out
          clear hb4 her HAC HR3 HB3
          have hrb := ((HBL.out _ HB4.out).block _ (lt_of_heap HR0.out)).trans HR0.out
          have r0 : w4.cell? ⟨w.heap.size, 0, none⟩ = some (.int .i64 0) := by rw [cell_of_row _ _ _ _ _ _ hrb]; rfl
          have r1 : w4.cell? ⟨w.heap.size, 1, none⟩ = some (.int .i64 0) := by rw [cell_of_row _ _ _ _ _ _ hrb]; rfl
          have r2 : w4.cell? ⟨w.heap.size, 2, none⟩ = some (.int .i64 0) := by rw [cell_of_row _ _ _ _ _ _ hrb]; rfl
          have fz : ∀ i, w4.frozen? ⟨w.heap.size, i, none⟩ = false := fun i => by simp [World.frozen?, hrb]
          have hrl := lt_of_heap hrb
          clear hrb
          by_cases hg0 : 0 < x.group
          · cases b with
            | false =>
              go_wp2_with fail
              have qa : ∀ (W : World) o i, W.heap.size = w4.heap.size → (W.alloc o).cell? ⟨w.heap.size, i, none⟩ = W.cell? ⟨w.heap.size, i, none⟩ := fun W o i h => ((Below.refl _ W).alloc (Nat.le_refl _) o).cell (p := ⟨_, i, none⟩) (show w.heap.size < W.heap.size by omega)
              refine bodyPost_ret (v := .agg #[.int .i64 4, .int .i64 (j : Int), .int .i64 (m : Int)]) (by simp [results, Try.results17, go_sem, qa, r0, r1, r2]) rfl ⟨⟨4, (j : Int), (m : Int)⟩, rfl, ?_, .inr ⟨j, m, x, e, HX.out, hg0, HE.out, by rw [HOK.out]; rfl, rfl⟩⟩
              have hb := HB0.out.trans ((HBL.out _ HB4.out).mono HB0.out.size)
              go_grown
            | true =>
              obtain ⟨rfl, rfl⟩ : fk = e.key ∧ fn = e.ver := by have h := HKEY.out rfl; injection h; exact ⟨by assumption, by assumption⟩
              by_cases hv : e.value = fv
              · have hv1 : (e.value.toList == fv.toList) = true := by rw [hv]; simp
                go_wp2_with fail
                exact ⟨⟨m + 1, by omega, by simp, HB4.out.alloc HB4.out.size _, fun h0 b' e' h1 h2 => by
                  by_cases hbm : b' = m
                  · subst hbm
                    rw [HE.out] at h2
                    cases h2
                    rw [HOK.out]; simpa using hv
                  · exact HV.out.2 h0 b' e' (by omega) h2⟩, by simp [intOf]; omega⟩
              · have hv1 : (e.value.toList == fv.toList) = false := key_ne hv
                go_wp2_with fail
                have qa : ∀ (W : World) o i, W.heap.size = w4.heap.size → (W.alloc o).cell? ⟨w.heap.size, i, none⟩ = W.cell? ⟨w.heap.size, i, none⟩ := fun W o i h => ((Below.refl _ W).alloc (Nat.le_refl _) o).cell (p := ⟨_, i, none⟩) (show w.heap.size < W.heap.size by omega)
                refine bodyPost_ret (v := .agg #[.int .i64 4, .int .i64 (j : Int), .int .i64 (m : Int)]) (by simp [results, Try.results17, go_sem, qa, r0, r1, r2]) rfl ⟨⟨4, (j : Int), (m : Int)⟩, rfl, ?_, .inr ⟨j, m, x, e, HX.out, hg0, HE.out, by rw [HOK.out]; simpa using hv, rfl⟩⟩
                have hb := HB0.out.trans ((HBL.out _ HB4.out).mono HB0.out.size)
                go_grown
          · go_wp2_with fail
            exact ⟨⟨m + 1, by omega, by simp, HB4.out.alloc HB4.out.size _, fun h0 b' e' h1 h2 => by
              by_cases hbm : b' = m
              · subst hbm
                rw [HE.out] at h2
                cases h2
                omega
              · exact HV.out.2 h0 b' e' (by omega) h2⟩, by simp [intOf]; omega⟩
        · obtain rfl : m = k := by omega
          have HN2 : Hid (Below W0.heap.size W0 wr ∧ ∀ (a : Nat) x, a < j + 1 → L[a]? = some x → 0 < x.group → ∀ e ∈ x.s.ents, entOK T e = true) := ⟨HBV.out, fun a x' h1 h2 h3 e' h4 => by
            by_cases haj : a = j
            · subst haj
              rw [HX.out] at h2
              cases h2
              obtain ⟨b, hb⟩ := List.getElem?_of_mem h4
              exact HV.out.2 h3 b e' (by rw [HK.out]; exact (List.getElem?_eq_some_iff.1 hb).1) hb
            · exact HP.out.2 a x' (by omega) h2 h3 e' h4⟩
          go_wp2_with fail
          exact ⟨⟨j + 1, by omega, by simp, HN2⟩, by simp [intOf]; omega⟩
    · obtain rfl : j = n := by omega
      have hrb := (HP.out.1.block _ (lt_of_heap HR0.out)).trans HR0.out
      have r0 : wr.cell? ⟨w.heap.size, 0, none⟩ = some (.int .i64 0) := by rw [cell_of_row _ _ _ _ _ _ hrb]; rfl
      have r1 : wr.cell? ⟨w.heap.size, 1, none⟩ = some (.int .i64 0) := by rw [cell_of_row _ _ _ _ _ _ hrb]; rfl
      have r2 : wr.cell? ⟨w.heap.size, 2, none⟩ = some (.int .i64 0) := by rw [cell_of_row _ _ _ _ _ _ hrb]; rfl
      have fz : ∀ i, wr.frozen? ⟨w.heap.size, i, none⟩ = false := fun i => by simp [World.frozen?, hrb]
      have hrl := lt_of_heap hrb
      clear hrb
      go_wp2_with fail
      refine bodyPost_ret (v := .agg #[.int .i64 0, .int .i64 0, .int .i64 0]) (by simp [results, Try.results17, go_sem, r0, r1, r2]) rfl ⟨verd0, rfl, ?_, .inl ⟨rfl, fun a x h1 => HP.out.2 a x (by rw [HN.out]; exact (List.getElem?_eq_some_iff.1 h1).1) h1⟩⟩
      have hb := HBW.out
      go_grown
end Go.Proofs.Ytpcmkifgfokdpaa
