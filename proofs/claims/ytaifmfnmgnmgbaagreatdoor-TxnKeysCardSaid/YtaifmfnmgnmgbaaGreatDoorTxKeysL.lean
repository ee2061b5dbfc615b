/- Txn: TxnKeys. -/
import Derived.Test.YtaifmfnmgnmgbaaGreatDoorTxShards
import Derived.Test.YtaifmfnmgnmgbaaGreatDoorTxLaw1
import Derived.Test.YtaifmfnmgnmgbaaGreatDoorTxLaws
namespace Go.Proofs.YtaifmfnmgnmgbaaGreatDoor.Txn
open Go.RowKit Go.My Go.Deep

/-- is a key among the first reads? -/
def rdB (M : List Rd) (k : ByteArray) (m : Nat) : Bool := (M.take m).any fun x => decide (x.key = k)
theorem rdB_step {M : List Rd} {k : ByteArray} {m : Nat} {x : Rd} (hx : M[m]? = some x) : rdB M k (m + 1) = (rdB M k m || decide (x.key = k)) := by
  unfold rdB
  rw [List.take_add_one, hx, List.any_append]
  simp
theorem named_all {t : Tx} {k : ByteArray} (h : k ∈ keysT t) : (rdB t.R k t.R.length || wrB t.W k t.W.length) = true := by
  rw [Bool.or_eq_true]
  unfold rdB wrB
  rw [List.take_length, List.take_length, List.any_eq_true, List.any_eq_true]
  rcases keysT_mem.1 h with ⟨x, hx, e⟩ | ⟨x, hx, e⟩
  · exact .inl ⟨x, hx, decide_eq_true e⟩
  · exact .inr ⟨x, hx, decide_eq_true e⟩
/-- is a shard that of one of the first keys? -/
def ownB (L : List Route.Pc) (K : List ByteArray) (z : Int) (m : Nat) : Bool := (K.take m).any fun k => decide (ownS L k = z)
theorem ownB_step {L : List Route.Pc} {K : List ByteArray} {z : Int} {m : Nat} {k : ByteArray} (hk : K[m]? = some k) : ownB L K z (m + 1) = (ownB L K z m || decide (ownS L k = z)) := by
  unfold ownB
  rw [List.take_add_one, hk, List.any_append]
  simp
theorem ownB_all {L : List Route.Pc} {t : Tx} {z : Int} (h : z ∈ shardsL L t) : ownB L (keysT t) z (keysT t).length = true := by
  unfold ownB
  rw [List.take_length, List.any_eq_true]
  obtain ⟨k, hk, e⟩ := shards_mem.1 h
  exact ⟨k, hk, decide_eq_true e⟩
theorem keys_next {t : Tx} {j : Nat} {x y : ByteArray} (hx : (keysT t)[j]? = some x) (hy : (keysT t)[j + 1]? = some y) : lessK x y = true := by
  obtain ⟨h1, e1⟩ := List.getElem?_eq_some_iff.1 hx
  obtain ⟨h2, e2⟩ := List.getElem?_eq_some_iff.1 hy
  have := List.pairwise_iff_getElem.1 (keysB_up (namedT t)) j (j + 1) h1 h2 (by omega)
  rw [← e1, ← e2]
  exact this
theorem shards_next {L : List Route.Pc} {t : Tx} {j : Nat} {x y : Int} (hx : (shardsL L t)[j]? = some x) (hy : (shardsL L t)[j + 1]? = some y) : x < y := by
  obtain ⟨h1, e1⟩ := List.getElem?_eq_some_iff.1 hx
  obtain ⟨h2, e2⟩ := List.getElem?_eq_some_iff.1 hy
  have := List.pairwise_iff_getElem.1 (shards_lt L t) j (j + 1) h1 h2 (by omega)
  rw [← e1, ← e2]
  exact this
section
variable {H : Type} {enc : TypeId × Value → H} {w : World} {base : Nat} {spare : Nat → Bool} {held : Bool}
set_option maxRecDepth 100000 in
theorem open_pieces {fuel len cap : Nat} {a : Option Addr} {x : DataW H × List MemPlace} (h : DataW.trod enc Tryz.prog w base spare held fuel 59 [.slice a len cap] = some x) (hx : Within Tryz.prog 59 x.1) :
    ∃ L : List Route.Pc, L.length = len ∧ Route.SrcAny w a cap L ∧ (L.length : Int) ≤ 70368744177664 := by
  have hnil : a = none → cap = 0 := by
    obtain ⟨a', n', c', e, hh⟩ := slice_of Tryz.underlying59 h
    cases e
    exact hh
  obtain ⟨L, h1, h4, h5, h2, h3⟩ := open_listB (R := fun _ cs (e : Route.Pc) => cs = Route.pcL e) (c := 3) Tryz.underlying59 (by kernel_rfl) (by omega) (fun n cs d hl hd _ => by
    obtain ⟨v0, v1, v2, rfl⟩ := three3 hl
    have hone : oneCellFields Tryz.prog (Tryz.prog.fieldsOf 66) = true := by kernel_rfl
    have hfs : Tryz.prog.underlying 66 = some (.struct (Tryz.prog.fieldsOf 66)) := by kernel_rfl
    obtain ⟨z0, rfl, s0⟩ := field_string hfs hone hd 0 _ v0 rfl rfl (by kernel_rfl)
    obtain ⟨z1, rfl, _⟩ := field_int (k := .i64) hfs hone hd 1 _ v1 rfl rfl (by kernel_rfl)
    obtain ⟨z2, rfl, _⟩ := field_int (k := .i64) hfs hone hd 2 _ v2 rfl rfl (by kernel_rfl)
    exact ⟨⟨z0, z1, z2⟩, rfl⟩) h hx
  have hb : Tryz.prog.bytesOf 66 = 32 := by kernel_rfl
  rw [hb] at h2
  unfold reachBytes at h2
  refine ⟨L, h1, ⟨fun i e hi => ?_, hnil, by omega, h5⟩, by omega⟩
  obtain ⟨b, off, cs, p1, p2, p3, p4, rfl⟩ := h3 i e hi
  exact ⟨b, off, p1, p2, p4⟩
end
set_option maxRecDepth 100000 in
set_option maxHeartbeats 6400000 in
theorem keyslaw_any (z : TxZ) (a : Option Addr) (cap : Nat) (L : List Route.Pc) (w : World) (hg : TypeIs w) (hz : TIn w z) (hL : Route.SrcAny w a cap L) (hG : (L.length : Int) ≤ 70368744177664) :
    Calls Tryz.prog 7 #[txV z.t z.ra z.rc z.wa z.wc, .slice a L.length cap] w (BoolL w true) := by
  obtain ⟨t, ra, rc, wa, wc⟩ := z
  obtain ⟨hwide, hn1, hn2⟩ := hz
  simp only at hwide hn1 hn2
  obtain ⟨W, hW⟩ : ∃ W : World, W = w.alloc (.cells #[.int .i64 t.cl, .int .i64 t.num, .slice ra t.R.length rc, .slice wa t.W.length wc] 25) := ⟨_, rfl⟩
  obtain ⟨q, hq⟩ : ∃ q, q = w.heap.size := ⟨_, rfl⟩
  have hb : Below w.heap.size w W := by rw [hW]; exact bl_alloc _ _
  have hbx : W.heap[q]? = some (txC t ra rc wa wc) := by rw [hW, hq]; exact heap_alloc_new w _
  have HW : Hid (w.alloc (.cells #[.int .i64 t.cl, .int .i64 t.num, .slice ra t.R.length rc, .slice wa t.W.length wc] 25) = W ∧ w.heap.size = q) := ⟨hW.symm, hq.symm⟩
  have HB := Lib.hid hb
  have HWI := Lib.hid hwide
  have HD := Lib.hid (head_any W (hg.below hg.lt hb))
  have HOF : Hid (∀ X, Below w.heap.size w X → Calls Tryz.prog 22 #[.slice a L.length cap] X (Route.OfLeft X L)) := fun X hX => Route.of_10 a cap L X (hL.below hX) hG
  unfold txV
  obtain ⟨cl, hcl⟩ : ∃ cl, cl = t.cl := ⟨_, rfl⟩
  obtain ⟨num, hnum⟩ : ∃ num, num = t.num := ⟨_, rfl⟩
  obtain ⟨rn, hrn⟩ : ∃ rn, rn = t.R.length := ⟨_, rfl⟩
  obtain ⟨wn, hwn⟩ : ∃ wn, wn = t.W.length := ⟨_, rfl⟩
  obtain ⟨n, hn⟩ : ∃ n, n = L.length := ⟨_, rfl⟩
  have HF : Hid (cl = t.cl ∧ num = t.num ∧ rn = t.R.length ∧ wn = t.W.length ∧ n = L.length) := ⟨hcl, hnum, hrn, hwn, hn⟩
  have HBX : Hid (Box W q cl num ra rn rc wa wn wc) := ⟨by rw [hcl, hnum, hrn, hwn]; exact hbx⟩
  have HVV : Hid (∀ f r X E, Calls Tryz.prog f (#[txV t ra rc wa wc] ++ r) X E → Calls Tryz.prog f (#[.agg #[.int .i64 cl, .int .i64 num, .slice ra rn rc, .slice wa wn wc]] ++ r) X E) := fun f r X E h => by
    rw [hcl, hnum, hrn, hwn]
    exact h
  have HGR : Hid (∀ X, Below w.heap.size w X → Calls Tryz.prog 9 #[.agg #[.int .i64 cl, .int .i64 num, .slice ra rn rc, .slice wa wn wc]] X (GrL X t)) := fun X hX => HVV.out _ #[] X _ (great_any t ra rc wa wc X (hwide.below hX))
  rw [← hcl, ← hnum, ← hrn, ← hwn] at HW
  rw [← hn] at HOF
  rw [← hcl, ← hnum, ← hrn, ← hwn, ← hn]
  clear hg hW hq hb hbx hcl hnum hrn hwn hn hwide hn1 hn2 hL hG
  go_enter Tryz.func7, Tryz.ntmps7
  go_upto_region 1 with fail
  rw [HW.out.1, HW.out.2]
  go_wp2_with fail
  refine HD.out.mono ?_
  rintro e w1 ⟨rfl, hb1⟩
  have HB1 := Lib.hid (bl_trans HB.out hb1)
  have HX1 := Lib.hid (HBX.out.below hb1)
  have HG1 := Lib.hid (HGR.out w1 HB1.out)
  clear hb1 HD
  obtain ⟨z0, z1, z2, z3⟩ := HX1.out.cells
  go_wp2_with fail
  refine HG1.out.mono ?_
  rintro e w2 ⟨g, rfl, hgf, hb2⟩
  have HB2 := Lib.hid (bl_trans HB1.out hb2)
  have HX2 := Lib.hid (HX1.out.below hb2)
  have HGF := Lib.hid hgf
  clear z0 z1 z2 z3 hb2 hgf HG1 HGR
  obtain ⟨z0, z1, z2, z3⟩ := HX2.out.cells
  cases g with
  | true =>
    go_wp2_with fail
    go_ret
    exact ⟨rfl, HB2.out⟩
  | false =>
    by_cases h100 : (100 : Int) < (n : Int)
    · go_wp2_with fail
      go_ret
      exact ⟨rfl, HB2.out⟩
    · have HTA : Hid (∀ X, Below w.heap.size w X → TxAt X t ra wa) := fun X hX => (HWI.out.below hX).at (HGF.out (by trivial))
      have HKK : Hid (Calls Tryz.prog 15 #[.agg #[.int .i64 cl, .int .i64 num, .slice ra rn rc, .slice wa wn wc]] w2 (KysL w2 t)) := HVV.out _ #[] w2 _ (keys_any t ra rc wa wc w2 (HTA.out w2 HB2.out))
      unfold KysL at HKK
      obtain ⟨kn, hkn⟩ : ∃ kn, kn = (keysT t).length := ⟨_, rfl⟩
      rw [← hkn] at HKK
      have HKN := Lib.hid hkn
      have hfew : (keysT t).length ≤ 3000 ∧ t.R.length ≤ 3000 ∧ t.W.length ≤ 3000 := by
        have h0 := keysB_len (namedT t)
        have h1 := HGF.out (by trivial)
        unfold keysT
        unfold namedT at *
        rw [List.length_append, List.length_map, List.length_map] at h0
        omega
      have HFEW : Hid ((keysT t).length ≤ 100000) := by show _ ≤ _; omega
      have hk9 : (kn : Int) ≤ 3000 := by omega
      have hr9 : (rn : Int) ≤ 3000 := by have := HF.out.2.2.1; omega
      have hw9 : (wn : Int) ≤ 3000 := by have := HF.out.2.2.2.1; omega
      clear hkn hfew HGF
      go_wp2_with fail
      refine HKK.out.mono ?_
      rintro e w3 ⟨ka, kc, rfl, hkl, hb3⟩
      have HB3 := Lib.hid (bl_trans HB2.out hb3)
      have HX3 := Lib.hid (HX2.out.below hb3)
      have HKL := Lib.hid hkl
      have P7 : Hid (Below w3.heap.size w3 w3) := Below.refl _ _
      clear hkl hb3 HKK z0 z1 z2 z3
      go_wp2_with fail
      go_loopw [7] (fun i X => ∃ j : Nat, j ≤ kn ∧ i = .int .i64 j ∧ Hid (Below w3.heap.size w3 X)) (fun i _ => kn - (intOf i).toNat)
      case atStart => exact ⟨0, by omega, rfl, P7⟩
      case round => as_aux_lemma =>
        clear P7
        obtain ⟨j, hj, rfl, HJ⟩ := hrel
        obtain ⟨z0, z1, z2, z3⟩ := (HX3.out.below HJ.out).cells
        by_cases hlt : j < kn
        · obtain ⟨k, hk⟩ : ∃ k, (keysT t)[j]? = some k := ⟨_, List.getElem?_eq_getElem (by rw [← HKN.out]; exact hlt)⟩
          obtain ⟨kg, ko, rfl, lkg, kd⟩ := LiesAt.at1 (e := fun s => .string s) HKL.out hk
          have HKC : Hid (∀ X, Below w3.heap.size w3 X → X.cell? ⟨kg, ko + j, none⟩ = some (.string k)) := fun X hX => (hX.cell (p := ⟨kg, _, none⟩) lkg).trans kd
          have HNAM : Hid ((rdB t.R k rn || wrB t.W k wn) = true) := by
            show _ = _
            rw [HF.out.2.2.1, HF.out.2.2.2.1]
            exact named_all (List.mem_of_getElem? hk)
          have HPRV : Hid (∀ i, j = i + 1 → ∃ x, lessK x k = true ∧ ∀ X, Below w3.heap.size w3 X → X.cell? ⟨kg, ko + i, none⟩ = some (.string x)) := fun i hi => by
            subst hi
            obtain ⟨x, hx⟩ : ∃ x, (keysT t)[i]? = some x := ⟨_, List.getElem?_eq_getElem (by rw [← HKN.out]; omega)⟩
            refine ⟨x, keys_next hx hk, fun X hX => ?_⟩
            obtain ⟨g', o', e, lg', d'⟩ := LiesAt.at1 (e := fun s => .string s) HKL.out hx
            cases e
            exact (hX.cell (p := ⟨kg, _, none⟩) lkg).trans d'
          have hj0 : (0 : Int) ≤ (j : Int) := by omega
          have hj1 : (j : Int) < (kn : Int) := by omega
          have hjs : j + 1 ≤ kn := hlt
          have P9 : Hid (Below w3.heap.size w3 wr) := HJ.out
          clear hk lkg kd hlt
          go_wp2_with fail
          clear z0 z1 z2 z3
          go_loopw [8, 9] (fun b i X => ∃ (m : Nat) (q : Bool), m ≤ rn ∧ b = .bool q ∧ i = .int .i64 m ∧ Hid (q = rdB t.R k m ∧ Below w3.heap.size w3 X)) (fun _ i _ => rn - (intOf i).toNat)
          case atStart => exact ⟨0, false, by omega, rfl, rfl, rfl, P9.out⟩
          case round => as_aux_lemma =>
            clear P9 HJ
            obtain ⟨m, b, hm, rfl, rfl, HM⟩ := hrel
            obtain ⟨z0, z1, z2, z3⟩ := (HX3.out.below HM.out.2).cells
            have c0 := HKC.out _ HM.out.2
            by_cases hlm : m < rn
            · obtain ⟨⟨xk, xv⟩, hx⟩ : ∃ x, t.R[m]? = some x := ⟨_, List.getElem?_eq_getElem (by have := HF.out.2.2.1; omega)⟩
              obtain ⟨wg, wo, rfl, lwg, hwc⟩ := HWI.out.r.below (bl_trans HB3.out HM.out.2) m _ hx
              have d0 : wr.cell? ⟨wg, wo + m * 2, none⟩ = some (.string xk) := hwc 0 _ rfl
              have hm0 : (0 : Int) ≤ (m : Int) := by omega
              have hm1 : (m : Int) < (rn : Int) := by omega
              have hms : m + 1 ≤ rn := hlm
              have HND : Hid (∀ nq, Below w3.heap.size w3 (wr.drewN nq)) := fun nq => HM.out.2.trans ⟨rfl, rfl, rfl, by simp, fun _ _ => rfl⟩
              have hst := rdB_step (k := k) hx
              rw [← HM.out.1] at hst
              cases b with
              | true =>
                have HWN : Hid (∀ nq, Hid (true = rdB t.R k (m + 1) ∧ Below w3.heap.size w3 (wr.drewN nq))) := fun nq => ⟨by rw [hst]; rfl, HND.out nq⟩
                clear hx hwc lwg hlm hst
                go_wp2_with fail
                go_quiet (fail)
                go_wp2_with fail
                exact ⟨⟨m + 1, true, hms, rfl, by simp, HWN.out _⟩, by simp [intOf]; omega⟩
              | false =>
                by_cases hk : xk = k
                · have hkk : (xk.toList == k.toList) = true := by rw [hk]; simp
                  have HWN : Hid (∀ nq, Hid (true = rdB t.R k (m + 1) ∧ Below w3.heap.size w3 (wr.drewN nq))) := fun nq => ⟨by rw [hst]; simp [hk], HND.out nq⟩
                  clear hx hwc lwg hlm hst hk
                  go_wp2_with fail
                  go_quiet (fail)
                  go_wp2_with fail
                  exact ⟨⟨m + 1, true, hms, rfl, by simp, HWN.out _⟩, by simp [intOf]; omega⟩
                · have hkk : (xk.toList == k.toList) = false := key_ne hk
                  have HWN : Hid (∀ nq, Hid (false = rdB t.R k (m + 1) ∧ Below w3.heap.size w3 (wr.drewN nq))) := fun nq => ⟨by rw [hst]; simp [hk], HND.out nq⟩
                  clear hx hwc lwg hlm hst hk
                  go_wp2_with fail
                  go_quiet (fail)
                  go_wp2_with fail
                  exact ⟨⟨m + 1, false, hms, rfl, by simp, HWN.out _⟩, by simp [intOf]; omega⟩
            · obtain rfl : rn = m := by omega
              have P10 : Hid ((b = (rdB t.R k rn || wrB t.W k 0)) ∧ Below w3.heap.size w3 wr) := ⟨by rw [HM.out.1, wrB_zero, Bool.or_false], HM.out.2⟩
              clear HM c0
              go_wp2_with fail
              clear z0 z1 z2 z3
              go_loopw [8, 10] (fun b i X => ∃ (m : Nat) (q : Bool), m ≤ wn ∧ b = .bool q ∧ i = .int .i64 m ∧ Hid (q = (rdB t.R k rn || wrB t.W k m) ∧ Below w3.heap.size w3 X)) (fun _ i _ => wn - (intOf i).toNat)
              case atStart => exact ⟨0, b, by omega, rfl, rfl, P10⟩
              case round => as_aux_lemma =>
                clear P10
                obtain ⟨m, b, hm, rfl, rfl, HM⟩ := hrel
                obtain ⟨z0, z1, z2, z3⟩ := (HX3.out.below HM.out.2).cells
                have c0 := HKC.out _ HM.out.2
                by_cases hlm : m < wn
                · obtain ⟨⟨xk, xv⟩, hx⟩ : ∃ x, t.W[m]? = some x := ⟨_, List.getElem?_eq_getElem (by have := HF.out.2.2.2.1; omega)⟩
                  obtain ⟨wg, wo, rfl, lwg, hwc⟩ := HWI.out.w.below (bl_trans HB3.out HM.out.2) m _ hx
                  have d0 : wr.cell? ⟨wg, wo + m * 2, none⟩ = some (.string xk) := hwc 0 _ rfl
                  have hm0 : (0 : Int) ≤ (m : Int) := by omega
                  have hm1 : (m : Int) < (wn : Int) := by omega
                  have hms : m + 1 ≤ wn := hlm
                  have HND : Hid (∀ nq, Below w3.heap.size w3 (wr.drewN nq)) := fun nq => HM.out.2.trans ⟨rfl, rfl, rfl, by simp, fun _ _ => rfl⟩
                  have hst : (rdB t.R k rn || wrB t.W k (m + 1)) = (b || decide (xk = k)) := by rw [wrB_step hx, ← Bool.or_assoc, ← HM.out.1]
                  cases b with
                  | true =>
                    have HWN : Hid (∀ nq, Hid (true = (rdB t.R k rn || wrB t.W k (m + 1)) ∧ Below w3.heap.size w3 (wr.drewN nq))) := fun nq => ⟨by rw [hst]; rfl, HND.out nq⟩
                    clear hx hwc lwg hlm hst
                    go_wp2_with fail
                    go_quiet (fail)
                    go_wp2_with fail
                    exact ⟨⟨m + 1, true, hms, rfl, by simp, HWN.out _⟩, by simp [intOf]; omega⟩
                  | false =>
                    by_cases hk : xk = k
                    · have hkk : (xk.toList == k.toList) = true := by rw [hk]; simp
                      have HWN : Hid (∀ nq, Hid (true = (rdB t.R k rn || wrB t.W k (m + 1)) ∧ Below w3.heap.size w3 (wr.drewN nq))) := fun nq => ⟨by rw [hst]; simp [hk], HND.out nq⟩
                      clear hx hwc lwg hlm hst hk
                      go_wp2_with fail
                      go_quiet (fail)
                      go_wp2_with fail
                      exact ⟨⟨m + 1, true, hms, rfl, by simp, HWN.out _⟩, by simp [intOf]; omega⟩
                    · have hkk : (xk.toList == k.toList) = false := key_ne hk
                      have HWN : Hid (∀ nq, Hid (false = (rdB t.R k rn || wrB t.W k (m + 1)) ∧ Below w3.heap.size w3 (wr.drewN nq))) := fun nq => ⟨by rw [hst]; simp [hk], HND.out nq⟩
                      clear hx hwc lwg hlm hst hk
                      go_wp2_with fail
                      go_quiet (fail)
                      go_wp2_with fail
                      exact ⟨⟨m + 1, false, hms, rfl, by simp, HWN.out _⟩, by simp [intOf]; omega⟩
                · obtain rfl : wn = m := by omega
                  have hbt : b = true := HM.out.1.trans HNAM.out
                  subst hbt
                  have HND : Hid (∀ nq, Hid (Below w3.heap.size w3 (wr.drewN nq))) := fun nq => HM.out.2.trans ⟨rfl, rfl, rfl, by simp, fun _ _ => rfl⟩
                  rcases Nat.eq_zero_or_pos j with hj00 | hjp
                  · subst hj00
                    simp only [Nat.add_zero] at c0
                    go_wp2_with fail
                    go_quiet (fail)
                    go_wp2_with fail
                    exact ⟨⟨1, hjs, by simp, HND.out _⟩, by simp [intOf]; omega⟩
                  · obtain ⟨i, hji⟩ : ∃ i, j = i + 1 := ⟨j - 1, by omega⟩
                    obtain ⟨x, hlx, hcx⟩ := HPRV.out i hji
                    have y0 := hcx _ HM.out.2
                    have hl2 : Op.bytesLess x.toList k.toList = true := hlx
                    have hsub : IntKind.i64.wrap ((j : Int) - 1) = (i : Int) := by rw [IntKind.wrap_i64]; omega
                    have hi0 : (0 : Int) ≤ (i : Int) := by omega
                    have hi1 : (i : Int) < (kn : Int) := by omega
                    have hjn : decide (0 < j) = true := decide_eq_true hjp
                    have hjp3 : (0 : Int) < (j : Int) := by omega
                    have hjp2 : ¬ (j : Int) = 0 := by omega
                    have hjn0 : ¬ j = 0 := by omega
                    clear hji hlx hcx
                    go_wp2_with fail
                    go_quiet (fail)
                    go_wp2_with fail
                    exact ⟨⟨j + 1, hjs, by simp, HND.out _⟩, by simp [intOf]; omega⟩
        · obtain rfl : kn = j := by omega
          have P11 : Hid (Below w3.heap.size w3 wr) := HJ.out
          clear z0 z1 z2 z3 HJ hlt
          go_wp2_with fail
          go_loopw [11] (fun i X => ∃ m : Nat, m ≤ rn ∧ i = .int .i64 m ∧ Hid (Below w3.heap.size w3 X)) (fun i _ => rn - (intOf i).toNat)
          case atStart => exact ⟨0, by omega, rfl, P11⟩
          case round => as_aux_lemma =>
            clear P11
            obtain ⟨m, hm, rfl, HM⟩ := hrel
            obtain ⟨z0, z1, z2, z3⟩ := (HX3.out.below HM.out).cells
            by_cases hlm : m < rn
            · obtain ⟨⟨xk, xv⟩, hx⟩ : ∃ x, t.R[m]? = some x := ⟨_, List.getElem?_eq_getElem (by have := HF.out.2.2.1; omega)⟩
              obtain ⟨wg, wo, rfl, lwg, hwc⟩ := HWI.out.r.below (bl_trans HB3.out HM.out) m _ hx
              have d0 : wr.cell? ⟨wg, wo + m * 2, none⟩ = some (.string xk) := hwc 0 _ rfl
              have hm0 : (0 : Int) ≤ (m : Int) := by omega
              have hm1 : (m : Int) < (rn : Int) := by omega
              have hms : m + 1 ≤ rn := hlm
              have HH : Hid (Calls Tryz.prog 19 #[.slice ka kn kc, .string xk] wr fun e w' => e = .returned (.bool true) ∧ Below wr.heap.size wr w') := by
                have h := rhas_any ka kc (keysT t) xk wr (HKL.out.below HM.out) HFEW.out
                rw [← HKN.out, hasB_iff.2 (keysT_mem.2 (.inl ⟨_, List.mem_of_getElem? hx, rfl⟩))] at h
                exact h
              clear hx hwc lwg hlm
              go_wp2_with fail
              refine HH.out.mono ?_
              rintro e w5 ⟨rfl, hb5⟩
              have HN5 : Hid (Below w3.heap.size w3 w5) := bl_trans HM.out hb5
              clear hb5 HH d0 z0 z1 z2 z3
              go_wp2_with fail
              exact ⟨⟨m + 1, hms, by simp, HN5⟩, by simp [intOf]; omega⟩
            · obtain rfl : rn = m := by omega
              have P12 : Hid (Below w3.heap.size w3 wr) := HM.out
              clear HM
              go_wp2_with fail
              clear z0 z1 z2 z3
              go_loopw [12] (fun i X => ∃ m : Nat, m ≤ wn ∧ i = .int .i64 m ∧ Hid (Below w3.heap.size w3 X)) (fun i _ => wn - (intOf i).toNat)
              case atStart => exact ⟨0, by omega, rfl, P12⟩
              case round => as_aux_lemma =>
                clear P12
                obtain ⟨m, hm, rfl, HM⟩ := hrel
                obtain ⟨z0, z1, z2, z3⟩ := (HX3.out.below HM.out).cells
                by_cases hlm : m < wn
                · obtain ⟨⟨xk, xv⟩, hx⟩ : ∃ x, t.W[m]? = some x := ⟨_, List.getElem?_eq_getElem (by have := HF.out.2.2.2.1; omega)⟩
                  obtain ⟨wg, wo, rfl, lwg, hwc⟩ := HWI.out.w.below (bl_trans HB3.out HM.out) m _ hx
                  have d0 : wr.cell? ⟨wg, wo + m * 2, none⟩ = some (.string xk) := hwc 0 _ rfl
                  have hm0 : (0 : Int) ≤ (m : Int) := by omega
                  have hm1 : (m : Int) < (wn : Int) := by omega
                  have hms : m + 1 ≤ wn := hlm
                  have HH : Hid (Calls Tryz.prog 19 #[.slice ka kn kc, .string xk] wr fun e w' => e = .returned (.bool true) ∧ Below wr.heap.size wr w') := by
                    have h := rhas_any ka kc (keysT t) xk wr (HKL.out.below HM.out) HFEW.out
                    rw [← HKN.out, hasB_iff.2 (keysT_mem.2 (.inr ⟨_, List.mem_of_getElem? hx, rfl⟩))] at h
                    exact h
                  clear hx hwc lwg hlm
                  go_wp2_with fail
                  refine HH.out.mono ?_
                  rintro e w5 ⟨rfl, hb5⟩
                  have HN5 : Hid (Below w3.heap.size w3 w5) := bl_trans HM.out hb5
                  clear hb5 HH d0 z0 z1 z2 z3
                  go_wp2_with fail
                  exact ⟨⟨m + 1, hms, by simp, HN5⟩, by simp [intOf]; omega⟩
                · obtain rfl : wn = m := by omega
                  have HBM := Lib.hid (bl_trans HB3.out HM.out)
                  have HO := Lib.hid (HOF.out wr HBM.out)
                  go_wp2_with fail
                  clear z0 z1 z2 z3
                  refine HO.out.mono ?_
                  rintro e w6 ⟨hb6, ⟨hne, r, ra', rc', rfl, hrp, hrt⟩ | ⟨qq, hne, rfl⟩⟩
                  case inr =>
                    have HB6 := Lib.hid (bl_trans HBM.out hb6)
                    unfold Route.rErr
                    obtain ⟨T, v, hE⟩ := errOf_form qq.1 [(Route.routeW, qq.2)]
                    rw [hE]
                    clear hb6 hne hE HO
                    go_wp2_with fail
                    go_ret
                    exact ⟨rfl, HB6.out⟩
                  have HB6 := Lib.hid (bl_trans HBM.out hb6)
                  have HN6 := Lib.hid (bl_trans HM.out hb6)
                  have HX6 := Lib.hid (HX3.out.below HN6.out)
                  have HRT := Lib.hid hrt
                  have HSH : Hid (Calls Tryz.prog 23 #[.agg #[.int .i64 cl, .int .i64 num, .slice ra rn rc, .slice wa wn wc], .pointer (some ⟨r, 0, none⟩)] w6 (ShdL w6 L t)) := HVV.out _ #[.pointer (some ⟨r, 0, none⟩)] w6 _ (shards_any t ra rc wa wc r ra' rc' L w6 (HTA.out w6 HB6.out) hrt)
                  unfold ShdL at HSH
                  obtain ⟨sn, hsn⟩ : ∃ n, n = (shardsL L t).length := ⟨_, rfl⟩
                  rw [← hsn] at HSH
                  have HSN := Lib.hid hsn
                  have hs9 : (sn : Int) ≤ 3000 := by have h1 := shards_len L t; have h2 := HKN.out; omega
                  have HZZ : Hid (decide ((kn : Int) = 0) = decide ((sn : Int) = 0)) := by
                    have h := shards_none L t
                    rw [← HKN.out, ← hsn] at h
                    have e1 : decide ((kn : Int) = 0) = decide (kn = 0) := by simp
                    have e2 : decide ((sn : Int) = 0) = decide (sn = 0) := by simp
                    show _ = _
                    rw [e1, e2, h]
                  clear hb6 hne hrp hrt HO hsn HM
                  obtain ⟨z0, z1, z2, z3⟩ := HX6.out.cells
                  go_wp2_with fail
                  refine HSH.out.mono ?_
                  rintro e w7 ⟨sa, sc, rfl, hsl, hb7⟩
                  have HB7 := Lib.hid (bl_trans HB6.out hb7)
                  have HN7 := Lib.hid (bl_trans HN6.out hb7)
                  have HR7 := Lib.hid (HRT.out.below hb7)
                  have HSL := Lib.hid hsl
                  have P16 : Hid (Below w7.heap.size w7 w7) := Below.refl _ _
                  clear hb7 hsl HSH z0 z1 z2 z3 HX6 HRT
                  go_wp2_with fail
                  go_loopw [16] (fun i X => ∃ j : Nat, j ≤ sn ∧ i = .int .i64 j ∧ Hid (Below w7.heap.size w7 X)) (fun i _ => sn - (intOf i).toNat)
                  case atStart => exact ⟨0, by omega, rfl, P16⟩
                  case round => as_aux_lemma =>
                    clear P16
                    obtain ⟨j, hj, rfl, HJ⟩ := hrel
                    by_cases hlt : j < sn
                    · obtain ⟨z, hz⟩ : ∃ z, (shardsL L t)[j]? = some z := ⟨_, List.getElem?_eq_getElem (by rw [← HSN.out]; exact hlt)⟩
                      obtain ⟨sg, so, rfl, lsg, sd⟩ := LiesAt.at1 (e := fun s => .int .i64 s) HSL.out hz
                      have HSC : Hid (∀ X, Below w7.heap.size w7 X → X.cell? ⟨sg, so + j, none⟩ = some (.int .i64 z)) := fun X hX => (hX.cell (p := ⟨sg, _, none⟩) lsg).trans sd
                      have HALL : Hid (ownB L (keysT t) z kn = true) := by
                        show _ = _
                        rw [HKN.out]
                        exact ownB_all (List.mem_of_getElem? hz)
                      have HPRV : Hid (∀ i, j = i + 1 → ∃ x, x < z ∧ ∀ X, Below w7.heap.size w7 X → X.cell? ⟨sg, so + i, none⟩ = some (.int .i64 x)) := fun i hi => by
                        subst hi
                        obtain ⟨x, hx⟩ : ∃ x, (shardsL L t)[i]? = some x := ⟨_, List.getElem?_eq_getElem (by rw [← HSN.out]; omega)⟩
                        refine ⟨x, shards_next hx hz, fun X hX => ?_⟩
                        obtain ⟨g', o', e, lg', d'⟩ := LiesAt.at1 (e := fun s => .int .i64 s) HSL.out hx
                        cases e
                        exact (hX.cell (p := ⟨sg, _, none⟩) lsg).trans d'
                      have hj0 : (0 : Int) ≤ (j : Int) := by omega
                      have hj1 : (j : Int) < (sn : Int) := by omega
                      have hjs : j + 1 ≤ sn := hlt
                      have P18 : Hid (Below w7.heap.size w7 wr) := HJ.out
                      clear hz lsg sd hlt
                      go_wp2_with fail
                      go_loopw [17, 18] (fun b i X => ∃ (m : Nat) (q : Bool), m ≤ kn ∧ b = .bool q ∧ i = .int .i64 m ∧ Hid (q = ownB L (keysT t) z m ∧ Below w7.heap.size w7 X)) (fun _ i _ => kn - (intOf i).toNat)
                      case atStart => exact ⟨0, false, by omega, rfl, rfl, rfl, P18.out⟩
                      case round => as_aux_lemma =>
                        clear P18 HJ
                        obtain ⟨m, b, hm, rfl, rfl, HM⟩ := hrel
                        by_cases hlm : m < kn
                        · obtain ⟨k, hk⟩ : ∃ k, (keysT t)[m]? = some k := ⟨_, List.getElem?_eq_getElem (by rw [← HKN.out]; exact hlm)⟩
                          obtain ⟨kg, ko, rfl, lkg, kd⟩ := LiesAt.at1 (e := fun s => .string s) (HKL.out.below (bl_trans HN7.out HM.out.2)) hk
                          have HO := Route.owner_12 r ra' rc' L k wr (HR7.out.below HM.out.2)
                          unfold Route.PcLeft Route.pcA at HO
                          obtain ⟨⟨pk, sh, ep⟩, hp⟩ : ∃ p, p = Route.ow Route.pc0 L k := ⟨_, rfl⟩
                          have HSH : Hid (ownS L k = sh) := by
                            show (Route.ow Route.pc0 L k).sh = sh
                            rw [← hp]
                          rw [← hp] at HO
                          simp only at HO
                          have HOO := Lib.hid HO
                          have hst := ownB_step (L := L) (z := z) hk
                          rw [← HM.out.1, HSH.out] at hst
                          have HST := Lib.hid hst
                          have hm0 : (0 : Int) ≤ (m : Int) := by omega
                          have hm1 : (m : Int) < (kn : Int) := by omega
                          have hms : m + 1 ≤ kn := hlm
                          clear hk lkg HO hp hst hlm
                          go_wp2_with fail
                          refine HOO.out.mono ?_
                          rintro e w9 ⟨rfl, hb9⟩
                          obtain ⟨W10, hW10⟩ : ∃ W : World, W = w9.alloc (.cells #[.string pk, .int .i64 sh, .int .i64 ep] 66) := ⟨_, rfl⟩
                          obtain ⟨b10, hb10⟩ : ∃ b, b = w9.heap.size := ⟨_, rfl⟩
                          have hbb : Below w9.heap.size w9 W10 := by rw [hW10]; exact bl_alloc _ _
                          have hbx : W10.heap[b10]? = some (.cells #[.string pk, .int .i64 sh, .int .i64 ep] 66 (0, 0)) := by rw [hW10, hb10]; exact heap_alloc_new w9 _
                          have HW10 : Hid (w9.alloc (.cells #[.string pk, .int .i64 sh, .int .i64 ep] 66) = W10 ∧ w9.heap.size = b10) := ⟨hW10.symm, hb10.symm⟩
                          have HB10 : Hid (Below w7.heap.size w7 W10) := bl_trans (bl_trans HM.out.2 hb9) hbb
                          have y1 : W10.cell? ⟨b10, 1, none⟩ = some (.int .i64 sh) := by rw [cell_of_row _ _ _ _ _ _ hbx]; rfl
                          have s0 := HSC.out _ HB10.out
                          have HND : Hid (∀ nq, Below w7.heap.size w7 (W10.drewN nq)) := fun nq => HB10.out.trans ⟨rfl, rfl, rfl, by simp, fun _ _ => rfl⟩
                          clear kd hb9 hW10 hb10 hbb hbx HOO
                          go_upto_region 41 with fail
                          rw [HW10.out.1, HW10.out.2]
                          cases b with
                          | true =>
                            have HWN : Hid (∀ nq, Hid (true = ownB L (keysT t) z (m + 1) ∧ Below w7.heap.size w7 (W10.drewN nq))) := fun nq => ⟨by rw [HST.out]; rfl, HND.out nq⟩
                            clear HST
                            go_quiet (fail)
                            go_wp2_with fail
                            exact ⟨⟨m + 1, true, hms, rfl, by simp, HWN.out _⟩, by simp [intOf]; omega⟩
                          | false =>
                            by_cases hk : sh = z
                            · have hkk : (sh == z) = true := by simpa using hk
                              have HWN : Hid (∀ nq, Hid (true = ownB L (keysT t) z (m + 1) ∧ Below w7.heap.size w7 (W10.drewN nq))) := fun nq => ⟨by rw [HST.out]; simp [hk], HND.out nq⟩
                              clear HST HSH hk
                              go_quiet (fail)
                              go_wp2_with fail
                              exact ⟨⟨m + 1, true, hms, rfl, by simp, HWN.out _⟩, by simp [intOf]; omega⟩
                            · have hkk : (sh == z) = false := by simpa using hk
                              have HWN : Hid (∀ nq, Hid (false = ownB L (keysT t) z (m + 1) ∧ Below w7.heap.size w7 (W10.drewN nq))) := fun nq => ⟨by rw [HST.out]; simp [hk], HND.out nq⟩
                              clear HST HSH hk
                              go_quiet (fail)
                              go_wp2_with fail
                              exact ⟨⟨m + 1, false, hms, rfl, by simp, HWN.out _⟩, by simp [intOf]; omega⟩
                        · obtain rfl : kn = m := by omega
                          have hbt : b = true := HM.out.1.trans HALL.out
                          subst hbt
                          have s0 := HSC.out _ HM.out.2
                          have HND : Hid (∀ nq, Hid (Below w7.heap.size w7 (wr.drewN nq))) := fun nq => HM.out.2.trans ⟨rfl, rfl, rfl, by simp, fun _ _ => rfl⟩
                          rcases Nat.eq_zero_or_pos j with hj00 | hjp
                          · subst hj00
                            simp only [Nat.add_zero] at s0
                            go_wp2_with fail
                            go_quiet (fail)
                            go_wp2_with fail
                            exact ⟨⟨1, hjs, by simp, HND.out _⟩, by simp [intOf]; omega⟩
                          · obtain ⟨i, hji⟩ : ∃ i, j = i + 1 := ⟨j - 1, by omega⟩
                            obtain ⟨x, hlx, hcx⟩ := HPRV.out i hji
                            have y0 := hcx _ HM.out.2
                            have hl2 : decide (z ≤ x) = false := decide_eq_false (by omega)
                            have hsub : IntKind.i64.wrap ((j : Int) - 1) = (i : Int) := by rw [IntKind.wrap_i64]; omega
                            have hi0 : (0 : Int) ≤ (i : Int) := by omega
                            have hi1 : (i : Int) < (sn : Int) := by omega
                            have hjn : decide (0 < j) = true := decide_eq_true hjp
                            have hjp3 : (0 : Int) < (j : Int) := by omega
                            have hjp2 : ¬ (j : Int) = 0 := by omega
                            have hjn0 : ¬ j = 0 := by omega
                            clear hji hlx hcx
                            go_wp2_with fail
                            go_quiet (fail)
                            go_wp2_with fail
                            exact ⟨⟨j + 1, hjs, by simp, HND.out _⟩, by simp [intOf]; omega⟩
                    · obtain rfl : sn = j := by omega
                      have HEND : Hid (Below w.heap.size w wr) := bl_trans HB7.out HJ.out
                      by_cases hk0 : (kn : Int) = 0
                      · have hs0 : (sn : Int) = 0 := by
                          have h := HZZ.out
                          rw [decide_eq_true hk0] at h
                          exact of_decide_eq_true h.symm
                        obtain rfl : kn = 0 := by omega
                        obtain rfl : sn = 0 := by omega
                        go_wp2_with fail
                        go_ret
                        exact ⟨rfl, HEND.out⟩
                      · have hs0 : ¬ (sn : Int) = 0 := by
                          have h := HZZ.out
                          rw [decide_eq_false hk0] at h
                          exact of_decide_eq_false h.symm
                        have hk1 : ((kn : Int) == 0) = false := by simpa using hk0
                        have hs1 : ((sn : Int) == 0) = false := by simpa using hs0
                        have hk2 : ¬ kn = 0 := by omega
                        have hs2 : ¬ sn = 0 := by omega
                        go_wp2_with fail
                        go_ret
                        exact ⟨rfl, HEND.out⟩
end Go.Proofs.YtaifmfnmgnmgbaaGreatDoor.Txn
