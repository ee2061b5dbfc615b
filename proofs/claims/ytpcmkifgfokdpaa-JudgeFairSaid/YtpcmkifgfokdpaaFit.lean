/- The model: how many fit. -/
import Derived.Test.YtpcmkifgfokdpaaHand
namespace Go.Proofs.Ytpcmkifgfokdpaa
open Go.RowKit Go.My Go.My.Model

/-- reads in memory -/
def ReadsIn (w : World) (a : Option Addr) (rs : List (ByteArray × Int)) : Prop := ∀ (j : Nat) r, rs[j]? = some r → ∃ g o, a = some ⟨g, o, none⟩ ∧ g < w.heap.size ∧ w.cell? ⟨g, o + j * 2, none⟩ = some (.string r.1) ∧ w.cell? ⟨g, o + j * 2 + 1, none⟩ = some (.int .i64 r.2)
def IdxLeft (w : World) (m : St) (rs : List (ByteArray × Int)) (e : Ending) (w' : World) : Prop := ∃ z : Int, e = .returned (.int .i64 z) ∧ decide (0 ≤ z) = (!readsB m rs) ∧ Below w.heap.size w w'
set_option maxRecDepth 100000 in
set_option maxHeartbeats 1600000 in
theorem index_any (a : Option Addr) (cap : Nat) (rs : List (ByteArray × Int)) (w : World) (pm b : Nat) (m : St) (ha : ReadsIn w a rs) (hp : w.heap[pm]? = some (.cells #[.map (some b)] 80 (0, 0))) (hm : MapAt w b bs entV m) (hl : rs.length ≤ 1000000) :
    Calls Try.prog 43 #[.slice a rs.length cap, .func (.func 30) #[] #[.pointer (some ⟨pm, 0, none⟩)]] w (IdxLeft w m rs) := by
  have HA := Lib.hid ha
  have HR1 : Hid (∀ (r : ByteArray × Int) W, Below w.heap.size w W → Calls Try.prog 30 #[.agg #[.string r.1, .int .i64 r.2], .pointer (some ⟨pm, 0, none⟩)] W fun e w' => e = .returned (.bool (!decide (ver m r.1 = r.2))) ∧ Below W.heap.size W w') := fun r W hW =>
    read1_any r W pm b m ((hW.block _ (lt_of_heap hp)).trans hp) (hm.keep (hW.block _ hm.lt))
  obtain ⟨n, hn⟩ : ∃ n, n = rs.length := ⟨_, rfl⟩
  have HN := Lib.hid hn
  rw [← hn] at hl ⊢
  clear ha hp hm hn
  have hl9 : (n : Int) ≤ 1000000 := by omega
  clear hl
  go_enter Try.func43, Try.ntmps43
  go_wp2_with fail
  go_loopw [8] (fun i wr => ∃ j : Nat, j ≤ n ∧ i = .int .i64 j ∧ Hid (Below w.heap.size w wr ∧ readsB m (rs.take j) = true)) (fun i _ => n - (intOf i).toNat)
  case atStart => exact ⟨0, by omega, rfl, Below.refl _ _, rfl⟩
  case round =>
    obtain ⟨j, hj, rfl, HB⟩ := hrel
    by_cases hlt : j < n
    · obtain ⟨r, hr⟩ : ∃ r, rs[j]? = some r := ⟨_, List.getElem?_eq_getElem (by rw [← HN.out]; exact hlt)⟩
      obtain ⟨g, o, rfl, hg, c0, c1⟩ := HA.out j r hr
      have e0 := (HB.out.1.cell (p := ⟨g, o + j * 2, none⟩) hg).trans c0
      have e1 := (HB.out.1.cell (p := ⟨g, o + j * 2 + 1, none⟩) hg).trans c1
      have HC := Lib.hid (HR1.out r wr HB.out.1)
      have HT : Hid (readsB m (rs.take (j + 1)) = (readsB m (rs.take j) && decide (ver m r.1 = r.2))) := by
        show _ = _
        unfold readsB
        rw [List.take_add_one, hr]
        simp
      have HRR := Lib.hid hr
      clear c0 c1 hr
      cases hd : decide (ver m r.1 = r.2) with
      | true =>
        rw [hd] at HC HT
        clear hd
        go_wp2_with fail
        refine HC.out.mono ?_
        rintro e w1 ⟨rfl, hb1⟩
        have HB1 : Hid (Below w.heap.size w w1 ∧ readsB m (rs.take (j + 1)) = true) := ⟨HB.out.1.trans (hb1.mono HB.out.1.size), by rw [HT.out, HB.out.2]; rfl⟩
        clear hb1
        go_wp2_with fail
        go_roundw
        case rel => exact ⟨j + 1, by omega, by go_num, HB1⟩
        case measure => simp [intOf]; omega
      | false =>
        rw [hd] at HC HT
        clear hd
        go_wp2_with fail
        refine HC.out.mono ?_
        rintro e w1 ⟨rfl, hb1⟩
        have HB1 := Lib.hid (HB.out.1.trans (hb1.mono HB.out.1.size))
        clear hb1
        go_wp2_with fail
        go_ret
        have hf : readsB m rs = false := by
          have h1 := HT.out
          rw [Bool.and_false] at h1
          cases hh : readsB m rs with
          | false => rfl
          | true =>
            unfold readsB at hh h1
            rw [List.all_eq_true] at hh
            have : (rs.take (j + 1)).all (fun r => decide (ver m r.1 = r.2)) = true := List.all_eq_true.2 fun x hx => hh x (List.mem_of_mem_take hx)
            rw [h1] at this
            cases this
        exact ⟨(j : Int), rfl, by rw [hf]; simp, HB1.out⟩
    · obtain rfl : j = n := by omega
      go_wp2_with fail
      go_ret
      have ht := HB.out.2
      rw [List.take_of_length_le (by rw [← HN.out]; exact Nat.le_refl _)] at ht
      exact ⟨-1, rfl, by rw [ht]; rfl, HB.out.1⟩

set_option maxRecDepth 100000 in
theorem contains_any (a : Option Addr) (cap : Nat) (rs : List (ByteArray × Int)) (w : World) (pm b : Nat) (m : St) (ha : ReadsIn w a rs) (hp : w.heap[pm]? = some (.cells #[.map (some b)] 80 (0, 0))) (hm : MapAt w b bs entV m) (hl : rs.length ≤ 1000000) :
    Calls Try.prog 29 #[.slice a rs.length cap, .func (.func 30) #[] #[.pointer (some ⟨pm, 0, none⟩)]] w fun e w' => e = .returned (.bool (!readsB m rs)) ∧ Below w.heap.size w w' := by
  have HC := Lib.hid (index_any a cap rs w pm b m ha hp hm hl)
  generalize rs.length = n at HC ⊢
  clear ha hp hm
  go_enter Try.func29, Try.ntmps29
  go_wp2_with (go_at_call 43; refine HC.out.mono ?_; rintro e w1 ⟨z, rfl, hz, hb⟩; have HZ := Lib.hid hz; have HB := Lib.hid hb; clear hz hb)
  go_ret
  exact ⟨by rw [← HZ.out]; rfl, HB.out⟩

/-- Between two transactions: so many fitted. -/
structure FitAt (w : World) (a : Option Addr) (cap : Nat) (T : List Tx) (co cn : Nat) (i : Nat) (z : Int) (W : World) : Prop where
  wrote : Wrote [w.heap.size, cn] w W
  bo : W.heap[co]? = some (.cells #[.slice a T.length cap] 22 (0, 0))
  bn : W.heap[cn]? = some (.cells #[.int .i64 z] 3 (0, 0))
  so : ∀ j, j < i → okB T j = true
theorem FitAt.wr {w : World} {a : Option Addr} {cap : Nat} {T : List Tx} {co cn i : Nat} {z : Int} {W W' : World} (h : FitAt w a cap T co cn i z W) (hW : Wrote [w.heap.size] W W') (_h1 : co < w.heap.size) (_h2 : cn < w.heap.size) : FitAt w a cap T co cn i z W' :=
  ⟨h.wrote.trans (hW.mono (by simp)), hW.heap h.bo (by simp; omega), hW.heap h.bn (by simp; omega), h.so⟩

theorem okB_eq {T : List Tx} {i : Nat} {t : Tx} (h : T[i]? = some t) : okB T i = readsB (stateOf (flat T i)) t.reads := by
  unfold okB
  rw [h]
  rfl

set_option maxRecDepth 100000 in
set_option maxHeartbeats 1600000 in
theorem fits1_any (a : Option Addr) (cap : Nat) (T : List Tx) (w : World) (co cn b : Nat) (i : Nat) (W : World) (ho : OrdFar [cn] w a T) (_h1 : co < w.heap.size) (_h2 : cn < w.heap.size) (h12 : co ≠ cn) (hi : i < T.length) (hl : T.length ≤ 2000) (hrl : ∀ t ∈ T, t.reads.length ≤ 1000000)
    (h : FitAt w a cap T co cn i (i : Int) W) (hm : MapAt W b bs entV (stateOf (flat T i))) :
    Calls Try.prog 28 #[.int .i64 (i : Int), .map (some b), .pointer (some ⟨co, 0, none⟩), .pointer (some ⟨cn, 0, none⟩)] W fun e W' => e = .returned (.bool (okB T i)) ∧ Wrote [cn] W W' ∧ (okB T i = true → FitAt w a cap T co cn (i + 1) ((i : Int) + 1) W') ∧ (okB T i = false → FitAt w a cap T co cn i (i : Int) W') := by
  obtain ⟨t, ht⟩ : ∃ t, T[i]? = some t := ⟨_, List.getElem?_eq_getElem hi⟩
  obtain ⟨g, o, rfl, hx⟩ := ho i t ht
  obtain ⟨ra, rc, x2, hr⟩ := hx.c2
  have ce : ∀ g j, g < w.heap.size → g ∉ [cn] → W.cell? ⟨g, j, none⟩ = w.cell? ⟨g, j, none⟩ := fun g j q1 q2 => h.wrote.cell (p := ⟨g, j, none⟩) q1 (by simp only [List.mem_cons]; rintro (e | e | e); omega; exact q2 (by simp [e]); simp at e)
  have c2 := (ce g _ hx.lt hx.far).trans x2
  have hgW : g < W.heap.size := Nat.lt_of_lt_of_le hx.lt h.wrote.size
  have HRD : Hid (ReadsIn (W.alloc (.cells #[.map (some b)] 80)) ra t.reads) := by
    intro j r hj
    obtain ⟨g', o', ha', hg', hf', d0, d1⟩ := hr j r hj
    have hgw : g' < W.heap.size := Nat.lt_of_lt_of_le hg' h.wrote.size
    have e1 : ∀ j, (W.alloc (.cells #[.map (some b)] 80)).cell? ⟨g', j, none⟩ = W.cell? ⟨g', j, none⟩ := fun j => ((Below.refl _ W).alloc (Nat.le_refl _) _).cell (p := ⟨g', j, none⟩) hgw
    exact ⟨g', o', ha', by simp; omega, by rw [e1, ce _ _ hg' hf']; exact d0, by rw [e1, ce _ _ hg' hf']; exact d1⟩
  have hbp : (W.alloc (.cells #[.map (some b)] 80)).heap[W.heap.size]? = some (.cells #[.map (some b)] 80 (0, 0)) := heap_alloc_new W _
  have HCC := Lib.hid (contains_any ra rc t.reads _ W.heap.size b _ HRD.out hbp (hm.alloc _) (hrl t (List.mem_of_getElem? ht)))
  rw [← okB_eq ht] at HCC
  have q1 : W.cell? ⟨co, 0, none⟩ = some (.slice (some ⟨g, o, none⟩) T.length cap) := by rw [cell_of_row _ _ _ _ _ _ h.bo]; rfl
  have l1 := lt_of_heap h.bo
  have l2 := lt_of_heap h.bn
  have H := Lib.hid h
  have hi0 : (0 : Int) ≤ (i : Int) := by omega
  have hi1 : (i : Int) < (T.length : Int) := by omega
  have hl9 : (T.length : Int) ≤ 2000 := by omega
  have HNB : Hid (∀ W2, Below (W.heap.size + 1) (W.alloc (.cells #[.map (some b)] 80)) W2 → Below W.heap.size W W2) := fun W2 hb => ((Below.refl _ W).alloc (Nat.le_refl _) _).trans (hb.mono (by omega))
  generalize t.reads.length = rl at c2 HCC
  obtain ⟨n, hn⟩ : ∃ n, n = T.length := ⟨_, rfl⟩
  rw [← hn] at q1 hi1 hl9
  clear hn ht hx hr x2 ce hbp h hm hl hrl ho HRD hi
  cases hk : okB T i with
  | true =>
    rw [hk] at HCC
    simp only [Bool.not_true] at HCC
    have HK := Lib.hid hk
    clear hk
    go_enter Try.func28, Try.ntmps28
    go_wp2_with fail
    refine HCC.out.mono ?_
    rintro e w1 ⟨rfl, hb⟩
    have hbW := HNB.out _ (by simpa using hb)
    have hbn := (hbW.block _ l2).trans H.out.bn
    have hbo := (hbW.block _ l1).trans H.out.bo
    have k1 : w1.cell? ⟨cn, 0, none⟩ = some (.int .i64 (i : Int)) := by rw [cell_of_row _ _ _ _ _ _ hbn]; rfl
    have fz : w1.frozen? ⟨cn, 0, none⟩ = false := by simp [World.frozen?, hbn]
    have HBN := Lib.hid hbn
    have HBO := Lib.hid hbo
    have HB := Lib.hid hbW
    clear hb hbW hbn hbo q1 c2
    go_wp2_with fail
    go_ret
    have hw0 : Wrote [cn] W w1 := (Wrote.of_below (S := []) HB.out).mono (by simp)
    have hw : Wrote [cn] W (w1.setCell ⟨cn, 0, none⟩ (.int .i64 ((i : Int) + 1))) := hw0.setCell (.inl (List.mem_singleton.2 rfl)) _
    refine ⟨rfl, hw, fun _ => ⟨H.out.wrote.trans (hw.mono (by simp)), (Below.heap_setCell _ _ _ _ h12).trans HBO.out, heap_setCell_same _ cn 0 _ _ _ HBN.out, fun j hj => ?_⟩, fun h => by cases h⟩
    by_cases e : j = i
    · subst e
      exact HK.out
    · exact H.out.so j (by omega)
  | false =>
    rw [hk] at HCC
    simp only [Bool.not_false] at HCC
    clear hk
    go_enter Try.func28, Try.ntmps28
    go_wp2_with fail
    refine HCC.out.mono ?_
    rintro e w1 ⟨rfl, hb⟩
    have HB := Lib.hid (HNB.out _ (by simpa using hb))
    clear hb q1 c2
    go_wp2_with fail
    go_ret
    have hw : Wrote [cn] W w1 := (Wrote.of_below (S := []) HB.out).mono (by simp)
    exact ⟨rfl, hw, (fun h => by cases h), fun _ => ⟨H.out.wrote.trans (hw.mono (by simp)), (HB.out.block _ l1).trans H.out.bo, (HB.out.block _ l2).trans H.out.bn, H.out.so⟩⟩

def FitsLeft (w : World) (T : List Tx) (e : Ending) (w' : World) : Prop := e = .returned (.int .i64 (fitsN T : Nat)) ∧ Below w.heap.size w w'
set_option maxRecDepth 100000 in
set_option maxHeartbeats 1600000 in
theorem fits_any (a : Option Addr) (cap : Nat) (T : List Tx) (w : World) (ho : OrdFar [] w a T) (hl : T.length ≤ 2000) (ht : (flat T T.length).length ≤ 1000000) (hrl : ∀ t ∈ T, t.reads.length ≤ 1000000) :
    Calls Try.prog 16 #[.slice a T.length cap] w (FitsLeft w T) := by
  obtain ⟨W, hW⟩ : ∃ W, W = (w.alloc (.cells #[.slice a T.length cap] 22)).alloc (.cells #[.int .i64 0] 3) := ⟨_, rfl⟩
  have hbW : Below w.heap.size w W := by rw [hW]; exact ((Below.refl _ w).alloc (Nat.le_refl _) _).alloc (by simp) _
  have hsz : W.heap.size = w.heap.size + 2 := by rw [hW]; simp
  have hoW : OrdFar [w.heap.size + 1] W a T := by
    intro i t hi
    obtain ⟨g, o, ha, hx⟩ := ho i t hi
    have ce : ∀ g j, g < w.heap.size → W.cell? ⟨g, j, none⟩ = w.cell? ⟨g, j, none⟩ := fun g j hg => hbW.cell (p := ⟨g, j, none⟩) hg
    have far : ∀ g, g < w.heap.size → g ∉ [w.heap.size + 1] := fun g hg => by simp; omega
    refine ⟨g, o, ha, by have := hx.lt; omega, far _ hx.lt, (ce _ _ hx.lt).trans hx.c0, (ce _ _ hx.lt).trans hx.c1, ?_, ?_⟩
    · obtain ⟨ra, rc, c2, hr⟩ := hx.c2
      refine ⟨ra, rc, (ce _ _ hx.lt).trans c2, fun j r hj => ?_⟩
      obtain ⟨g', o', ha', hg', _, d0, d1⟩ := hr j r hj
      exact ⟨g', o', ha', by omega, far _ hg', (ce _ _ hg').trans d0, (ce _ _ hg').trans d1⟩
    · obtain ⟨wa, wc, c3, hr⟩ := hx.c3
      refine ⟨wa, wc, (ce _ _ hx.lt).trans c3, fun j x hj => ?_⟩
      obtain ⟨g', o', ha', hg', _, d0, d1, dm⟩ := hr j x hj
      exact ⟨g', o', ha', by omega, far _ hg', (ce _ _ hg').trans d0, (ce _ _ hg').trans d1, dm⟩
  have b0 : W.heap[w.heap.size]? = some (.cells #[.slice a T.length cap] 22 (0, 0)) := by rw [hW]; exact (Below.heap_alloc _ _ _ (by simp)).trans (heap_alloc_new w _)
  have b1 : W.heap[w.heap.size + 1]? = some (.cells #[.int .i64 0] 3 (0, 0)) := by rw [hW]; simpa using heap_alloc_new (w.alloc _) (.cells #[.int .i64 0] 3)
  have hands : Hands W a T [w.heap.size + 1] (fun i W' => FitAt W a cap T w.heap.size (w.heap.size + 1) i (i : Int) W') (fun i _ W' => FitAt W a cap T w.heap.size (w.heap.size + 1) (i + 1) ((i : Int) + 1) W')
      (fun _ W' => ∃ i, FitAt W a cap T w.heap.size (w.heap.size + 1) i (i : Int) W' ∧ fitsN T = i) (okB T) (fun _ => true) 28 31 [.pointer (some ⟨w.heap.size, 0, none⟩), .pointer (some ⟨w.heap.size + 1, 0, none⟩)] [] := by
    refine ⟨by simp; omega, hoW, fun i W' b hi hj hm => ?_, fun i ds x W' _ _ hj => ?_, fun i W' _ hj => by simpa using hj, fun W' hj => ⟨_, hj, fits_all hj.so⟩, fun i W' W2 hj hw => hj.wr hw (by omega) (by omega), fun i _ W' W2 hj hw => hj.wr hw (by omega) (by omega), ⟨Wrote.refl _ _, b0, b1, fun j hj => by omega⟩⟩
    · refine (fits1_any a cap T W w.heap.size (w.heap.size + 1) b i W' hoW (by omega) (by omega) (by omega) hi hl hrl hj hm).mono ?_
      rintro e W2 ⟨he, hw, h1, h2⟩
      exact ⟨he, hw, h1, fun hf => ⟨i, h2 hf, fits_stop hi (h2 hf).so hf⟩⟩
    · refine (all_any _ W').mono ?_
      rintro e W2 ⟨he, hb⟩
      have hw : Wrote [W.heap.size] W' W2 := (Wrote.of_below (S := []) hb).mono (by simp)
      exact ⟨he, (Wrote.of_below (S := []) hb).mono (by simp), fun _ => hj.wr hw (by omega) (by omega), fun h => by cases h⟩
  have HRUN := Lib.hid (run_25_21 _ _ a cap T W _ _ _ _ _ _ hands hl ht)
  generalize T.length = n at HRUN hW hl ⊢
  have HW := Lib.hid hW
  have HBW := Lib.hid hbW
  clear hands b0 b1 hoW hbW ho hl ht hrl hsz
  rw [HW.out] at HRUN
  clear hW
  go_enter Try.func16, Try.ntmps16
  go_wp2_with fail
  refine HRUN.out.mono ?_
  rintro e w2 ⟨ds, rfl, hm, ⟨i, hf, hfit⟩, hw⟩
  have hbn := hf.bn
  have k1 : w2.cell? ⟨w.heap.size + 1, 0, none⟩ = some (.int .i64 (i : Int)) := by rw [cell_of_row _ _ _ _ _ _ hbn]; rfl
  have HF := Lib.hid hfit
  have HB2 : Hid (Below w.heap.size w w2) := by
    rw [HW.out] at HBW
    exact HBW.out.trans (hw.below HBW.out.size (by simp))
  clear hf hm hw hfit hbn
  go_wp2_with fail
  go_ret
  exact ⟨by rw [HF.out]; rfl, HB2.out⟩
end Go.Proofs.Ytpcmkifgfokdpaa
