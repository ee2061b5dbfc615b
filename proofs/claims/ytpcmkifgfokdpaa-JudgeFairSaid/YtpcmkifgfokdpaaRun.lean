/- The model: run, with each of the functions that are handed to it. -/
import Derived.Test.YtpcmkifgfokdpaaAt
namespace Go.Proofs.Ytpcmkifgfokdpaa
open Go.RowKit Go.My Go.My.Model

def ReadOf (_ : World) (cs : List Value) (r : ByteArray × Int) : Prop := cs = [.string r.1, .int .i64 r.2]
def WriOf (_ : World) (cs : List Value) (x : Wri) : Prop := cs = [.string x.1, .string x.2] ∧ x.1.size ≤ maxLen
def TxOf (w : World) (cs : List Value) (t : Tx) : Prop :=
  ∃ ra rc wa wc, cs = [.int .i64 t.client, .int .i64 t.num, .slice ra t.reads.length rc, .slice wa t.writes.length wc] ∧ ListAt w ra 2 ReadOf t.reads ∧ ListAt w wa 2 WriOf t.writes
theorem TxOf.below {w w' : World} {cs : List Value} {t : Tx} (h : TxOf w cs t) (hb : Below w.heap.size w w') : TxOf w' cs t := by
  obtain ⟨ra, rc, wa, wc, h1, h2, h3⟩ := h
  exact ⟨ra, rc, wa, wc, h1, h2.below (fun _ _ h => h) hb, h3.below (fun _ _ h => h) hb⟩
def OrdAt (w : World) (a : Option Addr) (T : List Tx) : Prop := ListAt w a 4 TxOf T
theorem OrdAt.below {w w' : World} {a : Option Addr} {T : List Tx} (h : OrdAt w a T) (hb : Below w.heap.size w w') : OrdAt w' a T := ListAt.below h (fun _ _ h => h.below hb) hb
theorem ord_at {w : World} {a : Option Addr} {T : List Tx} (h : OrdAt w a T) {i : Nat} {t : Tx} (hi : T[i]? = some t) :
    ∃ g o ra rc wa wc, a = some ⟨g, o, none⟩ ∧ g < w.heap.size ∧ w.cell? ⟨g, o + i * 4, none⟩ = some (.int .i64 t.client) ∧ w.cell? ⟨g, o + i * 4 + 1, none⟩ = some (.int .i64 t.num) ∧
      w.cell? ⟨g, o + i * 4 + 2, none⟩ = some (.slice ra t.reads.length rc) ∧ w.cell? ⟨g, o + i * 4 + 3, none⟩ = some (.slice wa t.writes.length wc) ∧ ListAt w ra 2 ReadOf t.reads ∧ ListAt w wa 2 WriOf t.writes := by
  obtain ⟨g, o, cs, ha, hg, _, hc, ra, rc, wa, wc, rfl, h1, h2⟩ := h i t hi
  exact ⟨g, o, ra, rc, wa, wc, ha, hg, hc 0 _ rfl, hc 1 _ rfl, hc 2 _ rfl, hc 3 _ rfl, h1, h2⟩
theorem wri_at {w : World} {a : Option Addr} {l : List Wri} (h : ListAt w a 2 WriOf l) {i : Nat} {x : Wri} (hi : l[i]? = some x) :
    ∃ g o, a = some ⟨g, o, none⟩ ∧ g < w.heap.size ∧ w.cell? ⟨g, o + i * 2, none⟩ = some (.string x.1) ∧ w.cell? ⟨g, o + i * 2 + 1, none⟩ = some (.string x.2) ∧ x.1.size ≤ maxLen := by
  obtain ⟨g, o, cs, ha, hg, _, hc, rfl, hm⟩ := h i x hi
  exact ⟨g, o, ha, hg, hc 0 _ rfl, hc 1 _ rfl, hm⟩

/-- The transactions, apart from some blocks. -/
structure TxFar (S : List Nat) (w : World) (g o : Nat) (t : Tx) : Prop where
  lt : g < w.heap.size
  far : g ∉ S
  c0 : w.cell? ⟨g, o, none⟩ = some (.int .i64 t.client)
  c1 : w.cell? ⟨g, o + 1, none⟩ = some (.int .i64 t.num)
  c2 : ∃ ra rc, w.cell? ⟨g, o + 2, none⟩ = some (.slice ra t.reads.length rc) ∧ ∀ (j : Nat) r, t.reads[j]? = some r → ∃ g' o', ra = some ⟨g', o', none⟩ ∧ g' < w.heap.size ∧ g' ∉ S ∧ w.cell? ⟨g', o' + j * 2, none⟩ = some (.string r.1) ∧ w.cell? ⟨g', o' + j * 2 + 1, none⟩ = some (.int .i64 r.2)
  c3 : ∃ wa wc, w.cell? ⟨g, o + 3, none⟩ = some (.slice wa t.writes.length wc) ∧ ∀ (j : Nat) x, t.writes[j]? = some x → ∃ g' o', wa = some ⟨g', o', none⟩ ∧ g' < w.heap.size ∧ g' ∉ S ∧ w.cell? ⟨g', o' + j * 2, none⟩ = some (.string x.1) ∧ w.cell? ⟨g', o' + j * 2 + 1, none⟩ = some (.string x.2) ∧ x.1.size ≤ maxLen
def OrdFar (S : List Nat) (w : World) (a : Option Addr) (T : List Tx) : Prop := ∀ (i : Nat) t, T[i]? = some t → ∃ g o, a = some ⟨g, o, none⟩ ∧ TxFar S w g (o + i * 4) t
theorem ord_far {S : List Nat} {w w' : World} {a : Option Addr} {T : List Tx} (h : OrdAt w a T) (hb : Below w.heap.size w w') (hS : ∀ g ∈ S, w.heap.size ≤ g) : OrdFar S w' a T := by
  intro i t hi
  obtain ⟨g, o, ra, rc, wa, wc, ha, hg, c0, c1, c2, c3, h1, h2⟩ := ord_at h hi
  have far : ∀ g, g < w.heap.size → g ∉ S := fun g hg hm => by have := hS g hm; omega
  have ce : ∀ g i, g < w.heap.size → w'.cell? ⟨g, i, none⟩ = w.cell? ⟨g, i, none⟩ := fun g i hg => hb.cell (p := ⟨g, i, none⟩) hg
  refine ⟨g, o, ha, Nat.lt_of_lt_of_le hg hb.size, far g hg, (ce _ _ hg).trans c0, (ce _ _ hg).trans c1, ⟨ra, rc, (ce _ _ hg).trans c2, fun j r hj => ?_⟩, ⟨wa, wc, (ce _ _ hg).trans c3, fun j x hj => ?_⟩⟩
  · obtain ⟨g', o', cs, ha', hg', _, hc, rfl⟩ := h1 j r hj
    exact ⟨g', o', ha', Nat.lt_of_lt_of_le hg' hb.size, far g' hg', (ce _ _ hg').trans (hc 0 _ rfl), (ce _ _ hg').trans (hc 1 _ rfl)⟩
  · obtain ⟨g', o', ha', hg', d0, d1, hm⟩ := wri_at h2 hj
    exact ⟨g', o', ha', Nat.lt_of_lt_of_le hg' hb.size, far g' hg', (ce _ _ hg').trans d0, (ce _ _ hg').trans d1, hm⟩
theorem OrdFar.take {S : List Nat} {w : World} {a : Option Addr} {T : List Tx} (h : OrdFar S w a T) (k : Nat) : OrdFar S w a (T.take k) := by
  intro i t hi
  rw [List.getElem?_take] at hi
  split at hi
  · exact h i t hi
  · cases hi

/-- What the functions that are handed to 'run' do. -/
structure Hands (w : World) (a : Option Addr) (T : List Tx) (S : List Nat) (JA : Nat → World → Prop) (JM : Nat → List Wri → World → Prop) (E : List Wri → World → Prop) (A : Nat → Bool) (Mb : List Wri → Bool) (FA FM : Nat) (capsA capsM : List Value) : Prop where
  old : ∀ g ∈ S, g < w.heap.size
  ord : OrdFar S w a T
  ahead : ∀ i W b, i < T.length → JA i W → MapAt W b bs entV (stateOf (flat T i)) → Calls Try.prog FA ([Value.int .i64 (i : Int), .map (some b)] ++ capsA).toArray W fun e W' => e = .returned (.bool (A i)) ∧ Wrote S W W' ∧ (A i = true → JM i (flat T i) W') ∧ (A i = false → E (flat T i) W')
  made : ∀ i ds x W, i < T.length → (ds ++ [x]) <+: flat T T.length → JM i ds W → Calls Try.prog FM ([entV (nextE (stateOf ds) x)] ++ capsM).toArray W fun e W' => e = .returned (.bool (Mb (ds ++ [x]))) ∧ Wrote S W W' ∧ (Mb (ds ++ [x]) = true → JM i (ds ++ [x]) W') ∧ (Mb (ds ++ [x]) = false → E (ds ++ [x]) W')
  next : ∀ i W, i < T.length → JM i (flat T (i + 1)) W → JA (i + 1) W
  last : ∀ W, JA T.length W → E (flat T T.length) W
  stA : ∀ i W W', JA i W → Wrote [w.heap.size] W W' → JA i W'
  stM : ∀ i ds W W', JM i ds W → Wrote [w.heap.size] W W' → JM i ds W'
  start : JA 0 w
def RunLeft (w : World) (S : List Nat) (E : List Wri → World → Prop) (e : Ending) (w' : World) : Prop :=
  ∃ ds, e = .returned (.map (some w.heap.size)) ∧ MapAt w' w.heap.size bs entV (stateOf ds) ∧ E ds w' ∧ Wrote S w w'
structure OutRel (w : World) (T : List Tx) (S : List Nat) (JA : Nat → World → Prop) (i : Nat) (wr : World) : Prop where
  j : JA i wr
  map : MapAt wr w.heap.size bs entV (stateOf (flat T i))
  wrote : Wrote (w.heap.size :: S) w wr
structure InRel (w : World) (S : List Nat) (JM : Nat → List Wri → World → Prop) (i : Nat) (ds : List Wri) (wr : World) : Prop where
  j : JM i ds wr
  map : MapAt wr w.heap.size bs entV (stateOf ds)
  wrote : Wrote (w.heap.size :: S) w wr
theorem take_step {l : List Wri} {j : Nat} {x : Wri} (h : l[j]? = some x) (pre : List Wri) : pre ++ l.take (j + 1) = (pre ++ l.take j) ++ [x] := by
  rw [List.take_add_one, h]
  simp
theorem ver_small (ds : List Wri) (k : ByteArray) (h : ds.length ≤ 1000000) : 0 ≤ ver (stateOf ds) k ∧ ver (stateOf ds) k ≤ 1000000 := by
  rw [ver_state]
  have := countK_le ds k
  omega
theorem flat_pre (T : List Tx) (i : Nat) : flat T i <+: flat T T.length := by
  unfold flat
  rw [List.take_of_length_le (Nat.le_refl _)]
  refine ⟨(T.drop i).flatMap Tx.writes, ?_⟩
  rw [← List.flatMap_append, List.take_append_drop]
theorem flat_le (T : List Tx) (i : Nat) : (flat T i).length ≤ (flat T T.length).length := by
  unfold flat
  rw [List.take_of_length_le (Nat.le_refl _)]
  have h : (T.flatMap Tx.writes).length = ((T.take i).flatMap Tx.writes).length + ((T.drop i).flatMap Tx.writes).length := by
    rw [← List.length_append, ← List.flatMap_append, List.take_append_drop]
  omega

set_option maxRecDepth 100000 in
set_option maxHeartbeats 3200000 in
theorem run_19_21 (a : Option Addr) (cap : Nat) (T : List Tx) (w : World) (S : List Nat) (JA : Nat → World → Prop) (JM : Nat → List Wri → World → Prop) (E : List Wri → World → Prop) (A : Nat → Bool) (Mb : List Wri → Bool)
    (h : Hands w a T S JA JM E A Mb 32 31 [] []) (hl : T.length ≤ 2000) (ht : (flat T T.length).length ≤ 1000000) :
    Calls Try.prog 27 #[.slice a T.length cap, .func (.func 32) #[] #[], .func (.func 31) #[] #[]] w (RunLeft w S E) := by
  have H := Lib.hid h
  have HTOT := Lib.hid ht
  have hmm := @run_makeMap Try.prog
  obtain ⟨n, hn⟩ : ∃ n, n = T.length := ⟨_, rfl⟩
  have HN := Lib.hid hn
  rw [← hn] at hl ⊢
  clear h hn ht
  have R0 : Hid (OutRel w T S JA 0 (w.alloc (.map #[] 0))) := ⟨H.out.stA 0 _ _ H.out.start ((Wrote.refl _ _).alloc _), MapAt.new w bs entV, (Wrote.refl _ _).alloc _⟩
  go_enter Try.func27, Try.ntmps27
  go_wp2_with fail
  go_loopw [15] (fun i wr => ∃ k : Nat, k ≤ n ∧ i = .int .i64 k ∧ OutRel w T S JA k wr) (fun i _ => n - (intOf i).toNat)
  case atStart => exact ⟨0, by omega, rfl, R0.out⟩
  case round =>
    clear R0 hmm
    obtain ⟨k, hk, rfl, hr⟩ := hrel
    have HR := Lib.hid hr
    clear hr
    have hsz : w.heap.size < wr.heap.size := HR.out.map.lt
    by_cases hlt : k < n
    · obtain ⟨t, ht⟩ : ∃ t, T[k]? = some t := ⟨_, List.getElem?_eq_getElem (by rw [← HN.out]; exact hlt)⟩
      obtain ⟨g, o, rfl, hx⟩ := H.out.ord k t ht
      have ce : ∀ W, Wrote (w.heap.size :: S) w W → ∀ g i, g < w.heap.size → g ∉ S → W.cell? ⟨g, i, none⟩ = w.cell? ⟨g, i, none⟩ := fun W hW g i h1 h2 => hW.cell (p := ⟨g, i, none⟩) h1 (by simp only [List.mem_cons]; rintro (e | e); omega; exact h2 e)
      have CE := Lib.hid ce
      obtain ⟨ra, rc, x2, _⟩ := hx.c2
      obtain ⟨wa, wc, x3, hwr⟩ := hx.c3
      have HWR := Lib.hid hwr
      have c0 := (ce _ HR.out.wrote g _ hx.lt hx.far).trans hx.c0
      have c1 := (ce _ HR.out.wrote g _ hx.lt hx.far).trans hx.c1
      have c2 := (ce _ HR.out.wrote g _ hx.lt hx.far).trans x2
      have c3 := (ce _ HR.out.wrote g _ hx.lt hx.far).trans x3
      have HFS := Lib.hid (flat_succ ht)
      obtain ⟨m, hm⟩ : ∃ m, m = t.writes.length := ⟨_, rfl⟩
      have hm9 : (m : Int) ≤ 1000000 := by
        have h1 := HTOT.out
        have h2 := flat_le T (k + 1)
        rw [HFS.out, List.length_append] at h2
        omega
      rw [← hm] at c3
      have HMM := Lib.hid hm
      generalize t.reads.length = rl at c2
      clear hm ht hx ce x2 x3 hwr
      have hbS : w.heap.size ∉ S := fun e => by have := H.out.old _ e; omega
      have HBS := Lib.hid hbS
      have HAH : Hid (∀ W, Below wr.heap.size wr W → Calls Try.prog 32 #[.int .i64 (k : Int), .map (some w.heap.size)] W fun e W' => e = .returned (.bool (A k)) ∧ Wrote S W W' ∧ (A k = true → JM k (flat T k) W') ∧ (A k = false → E (flat T k) W')) := fun W hW =>
        H.out.ahead k W w.heap.size (by rw [← HN.out]; exact hlt) (H.out.stA _ _ _ HR.out.j ((Wrote.of_below (S := []) hW).mono (by simp))) (HR.out.map.keep (hW.block _ HR.out.map.lt))
      clear hbS
      go_wp2_with fail
      refine (HAH.out _ ((Below.refl _ _).alloc (Nat.le_refl _) _)).mono ?_
      rintro e w4 ⟨rfl, hw4, hj4, he4⟩
      have HM4 := Lib.hid ((HR.out.map.alloc _).touch hw4 HBS.out)
      have HW4 := Lib.hid ((HR.out.wrote.alloc _).trans (hw4.mono (by simp; intro k hk; exact .inr hk)))
      have HK9 : Hid (∀ W, Wrote (w.heap.size :: S) w4 W → W.cell? ⟨wr.heap.size, 3, none⟩ = some (.slice wa m wc)) := fun W hW => by
        have hn : wr.heap.size ∉ w.heap.size :: S := by
          simp only [List.mem_cons]
          rintro (e | e)
          · omega
          · have := H.out.old _ e
            omega
        have h1 := (hw4.mono (T := w.heap.size :: S) (by simp; intro k hk; exact .inr hk)).trans hW
        rw [h1.cell (p := ⟨wr.heap.size, 3, none⟩) (by simp) hn, cell_of_row _ _ _ _ _ _ (heap_alloc_new wr _)]
        rfl
      have HJ4 := Lib.hid hj4
      have HE4 := Lib.hid he4
      clear hw4 hj4 he4
      have c9 := HK9.out _ (Wrote.refl _ _)
      clear c0 c1 c2 c3
      cases hA : A k with
      | false =>
        have HE := Lib.hid (HE4.out hA)
        clear hA
        go_wp2_with fail
        go_ret
        exact ⟨_, rfl, HM4.out, HE.out, HW4.out.of_new (by simp; intro k hk; exact .inl hk)⟩
      | true =>
        have I0 : Hid (InRel w S JM k (flat T k ++ t.writes.take 0) w4) := by
          show InRel _ _ _ _ _ _
          rw [List.take_zero, List.append_nil]
          exact ⟨HJ4.out hA, HM4.out, HW4.out⟩
        clear hA HAH HE4 HJ4 HM4
        go_wp2_with fail
        go_loopw [28] (fun i wq => ∃ j : Nat, j ≤ m ∧ i = .int .i64 j ∧ InRel w S JM k (flat T k ++ t.writes.take j) wq) (fun i _ => m - (intOf i).toNat)
        case atStart => exact ⟨0, by omega, rfl, I0.out⟩
        case round =>
          clear I0 c9 HK9 HW4
          obtain ⟨j, hj, rfl, hq⟩ := hrel
          have HQ := Lib.hid hq
          clear hq
          by_cases hjm : j < m
          · obtain ⟨x, hx⟩ : ∃ x, t.writes[j]? = some x := ⟨_, List.getElem?_eq_getElem (by rw [← HMM.out]; exact hjm)⟩
            obtain ⟨g', o', rfl, hg', hf', d0, d1, _⟩ := HWR.out j x hx
            have e0 := (CE.out _ HQ.out.wrote g' (o' + j * 2) hg' hf').trans d0
            have e1 := (CE.out _ HQ.out.wrote g' (o' + j * 2 + 1) hg' hf').trans d1
            obtain ⟨ds, hds⟩ : ∃ ds, ds = flat T k ++ t.writes.take j := ⟨_, rfl⟩
            have HD : Hid (flat T k ++ t.writes.take (j + 1) = ds ++ [x]) := by show _ = _; rw [take_step hx, hds]
            have hdl : ds.length ≤ 1000000 := by
              have h1 := HTOT.out
              have h2 := flat_le T (k + 1)
              rw [HFS.out, List.length_append] at h2
              have h3 : (t.writes.take j).length ≤ t.writes.length := by rw [List.length_take]; exact Nat.min_le_right _ _
              rw [hds, List.length_append]
              omega
            rw [← hds] at HQ
            have HPF : Hid ((ds ++ [x]) <+: flat T T.length) := by
              show _ <+: _
              rw [← HD.out]
              refine List.IsPrefix.trans (l₂ := flat T (k + 1)) ?_ (flat_pre T (k + 1))
              rw [HFS.out]
              exact (List.prefix_append_right_inj _).2 (List.take_prefix _ _)
            have HV := Lib.hid (ver_small ds x.1 hdl)
            clear hds hdl d0 d1 hx
            have HWT : Hid (∀ W, Below wr.heap.size wr W → Calls Try.prog 42 #[.map (some w.heap.size), .agg #[.string x.1, .string x.2]] W (WriteLeft W w.heap.size (stateOf ds) x)) := fun W hW => write_any _ _ x W (HQ.out.map.keep (hW.block _ HQ.out.map.lt)) HV.out.1 HV.out.2
            go_wp2_with fail
            refine (HWT.out _ ((Below.refl _ _).alloc (Nat.le_refl _) _)).mono ?_
            rintro e w5 ⟨rfl, hm5, hw5⟩
            have HJ5 := Lib.hid (H.out.stM _ _ _ _ (H.out.stM _ _ _ _ HQ.out.j ((Wrote.refl _ _).alloc _)) hw5)
            have HMD := Lib.hid (H.out.made k ds x w5 (by rw [← HN.out]; exact hlt) HPF.out HJ5.out)
            have HM5 : Hid (MapAt w5 w.heap.size bs entV (stateOf (ds ++ [x]))) := by show MapAt _ _ _ _ _; rw [stateOf_snoc]; exact hm5
            have HW5 := Lib.hid ((HQ.out.wrote.alloc _).trans (hw5.mono (T := w.heap.size :: S) (by simp)))
            clear hm5 hw5 e0 e1
            obtain ⟨ee, hee⟩ : ∃ ee, ee = entV (nextE (stateOf ds) x) := ⟨_, rfl⟩
            simp only [List.cons_append, List.nil_append] at HMD
            rw [← hee] at HMD ⊢
            clear hee
            go_wp2_with fail
            refine HMD.out.mono ?_
            rintro e w6 ⟨rfl, hw6, hj6, he6⟩
            have HM6 := Lib.hid (HM5.out.touch hw6 HBS.out)
            have HW6 := Lib.hid (HW5.out.trans (hw6.mono (T := w.heap.size :: S) (by simp; intro k hk; exact .inr hk)))
            have HJ6 := Lib.hid hj6
            have HE6 := Lib.hid he6
            clear hw6 hj6 he6
            cases hB : Mb (ds ++ [x]) with
            | false =>
              have HE := Lib.hid (HE6.out hB)
              clear hB
              go_wp2_with fail
              go_ret
              exact ⟨_, rfl, HM6.out, HE.out, HW6.out.of_new (by simp; intro k hk; exact .inl hk)⟩
            | true =>
              have HI : Hid (InRel w S JM k (flat T k ++ t.writes.take (j + 1)) w6) := by
                show InRel _ _ _ _ _ _
                rw [HD.out]
                exact ⟨HJ6.out hB, HM6.out, HW6.out⟩
              clear hB
              go_wp2_with fail
              go_roundw
              case rel => exact ⟨j + 1, by omega, by go_num, HI.out⟩
              case measure => simp [intOf]; omega
          · have HO : Hid (OutRel w T S JA (k + 1) wr) := by
              have e : flat T k ++ t.writes.take j = flat T (k + 1) := by rw [HFS.out, List.take_of_length_le (by rw [← HMM.out]; omega)]
              have hq := HQ.out
              rw [e] at hq
              exact ⟨H.out.next k _ (by rw [← HN.out]; exact hlt) hq.j, hq.map, hq.wrote⟩
            go_wp2_with fail
            exact ⟨⟨k + 1, by omega, by simp, HO.out⟩, by simp [intOf]; omega⟩
    · obtain rfl : k = n := by omega
      have HE : Hid (E (flat T k) wr) := by
        have h1 := HR.out.j
        rw [HN.out] at h1 ⊢
        exact H.out.last wr h1
      go_wp2_with fail
      go_ret
      exact ⟨_, rfl, HR.out.map, HE.out, HR.out.wrote.of_new (by simp; intro k hk; exact .inl hk)⟩

set_option maxRecDepth 100000 in
set_option maxHeartbeats 3200000 in
theorem run_19_20 (ck cv cf : Value) (a : Option Addr) (cap : Nat) (T : List Tx) (w : World) (S : List Nat) (JA : Nat → World → Prop) (JM : Nat → List Wri → World → Prop) (E : List Wri → World → Prop) (A : Nat → Bool) (Mb : List Wri → Bool)
    (h : Hands w a T S JA JM E A Mb 32 33 [] [ck, cv, cf]) (hl : T.length ≤ 2000) (ht : (flat T T.length).length ≤ 1000000) :
    Calls Try.prog 27 #[.slice a T.length cap, .func (.func 32) #[] #[], .func (.func 33) #[] #[ck, cv, cf]] w (RunLeft w S E) := by
  have H := Lib.hid h
  have HTOT := Lib.hid ht
  have hmm := @run_makeMap Try.prog
  obtain ⟨n, hn⟩ : ∃ n, n = T.length := ⟨_, rfl⟩
  have HN := Lib.hid hn
  rw [← hn] at hl ⊢
  clear h hn ht
  have R0 : Hid (OutRel w T S JA 0 (w.alloc (.map #[] 0))) := ⟨H.out.stA 0 _ _ H.out.start ((Wrote.refl _ _).alloc _), MapAt.new w bs entV, (Wrote.refl _ _).alloc _⟩
  go_enter Try.func27, Try.ntmps27
  go_wp2_with fail
  go_loopw [15] (fun i wr => ∃ k : Nat, k ≤ n ∧ i = .int .i64 k ∧ OutRel w T S JA k wr) (fun i _ => n - (intOf i).toNat)
  case atStart => exact ⟨0, by omega, rfl, R0.out⟩
  case round =>
    clear R0 hmm
    obtain ⟨k, hk, rfl, hr⟩ := hrel
    have HR := Lib.hid hr
    clear hr
    have hsz : w.heap.size < wr.heap.size := HR.out.map.lt
    by_cases hlt : k < n
    · obtain ⟨t, ht⟩ : ∃ t, T[k]? = some t := ⟨_, List.getElem?_eq_getElem (by rw [← HN.out]; exact hlt)⟩
      obtain ⟨g, o, rfl, hx⟩ := H.out.ord k t ht
      have ce : ∀ W, Wrote (w.heap.size :: S) w W → ∀ g i, g < w.heap.size → g ∉ S → W.cell? ⟨g, i, none⟩ = w.cell? ⟨g, i, none⟩ := fun W hW g i h1 h2 => hW.cell (p := ⟨g, i, none⟩) h1 (by simp only [List.mem_cons]; rintro (e | e); omega; exact h2 e)
      have CE := Lib.hid ce
      obtain ⟨ra, rc, x2, _⟩ := hx.c2
      obtain ⟨wa, wc, x3, hwr⟩ := hx.c3
      have HWR := Lib.hid hwr
      have c0 := (ce _ HR.out.wrote g _ hx.lt hx.far).trans hx.c0
      have c1 := (ce _ HR.out.wrote g _ hx.lt hx.far).trans hx.c1
      have c2 := (ce _ HR.out.wrote g _ hx.lt hx.far).trans x2
      have c3 := (ce _ HR.out.wrote g _ hx.lt hx.far).trans x3
      have HFS := Lib.hid (flat_succ ht)
      obtain ⟨m, hm⟩ : ∃ m, m = t.writes.length := ⟨_, rfl⟩
      have hm9 : (m : Int) ≤ 1000000 := by
        have h1 := HTOT.out
        have h2 := flat_le T (k + 1)
        rw [HFS.out, List.length_append] at h2
        omega
      rw [← hm] at c3
      have HMM := Lib.hid hm
      generalize t.reads.length = rl at c2
      clear hm ht hx ce x2 x3 hwr
      have hbS : w.heap.size ∉ S := fun e => by have := H.out.old _ e; omega
      have HBS := Lib.hid hbS
      have HAH : Hid (∀ W, Below wr.heap.size wr W → Calls Try.prog 32 #[.int .i64 (k : Int), .map (some w.heap.size)] W fun e W' => e = .returned (.bool (A k)) ∧ Wrote S W W' ∧ (A k = true → JM k (flat T k) W') ∧ (A k = false → E (flat T k) W')) := fun W hW =>
        H.out.ahead k W w.heap.size (by rw [← HN.out]; exact hlt) (H.out.stA _ _ _ HR.out.j ((Wrote.of_below (S := []) hW).mono (by simp))) (HR.out.map.keep (hW.block _ HR.out.map.lt))
      clear hbS
      go_wp2_with fail
      refine (HAH.out _ ((Below.refl _ _).alloc (Nat.le_refl _) _)).mono ?_
      rintro e w4 ⟨rfl, hw4, hj4, he4⟩
      have HM4 := Lib.hid ((HR.out.map.alloc _).touch hw4 HBS.out)
      have HW4 := Lib.hid ((HR.out.wrote.alloc _).trans (hw4.mono (by simp; intro k hk; exact .inr hk)))
      have HK9 : Hid (∀ W, Wrote (w.heap.size :: S) w4 W → W.cell? ⟨wr.heap.size, 3, none⟩ = some (.slice wa m wc)) := fun W hW => by
        have hn : wr.heap.size ∉ w.heap.size :: S := by
          simp only [List.mem_cons]
          rintro (e | e)
          · omega
          · have := H.out.old _ e
            omega
        have h1 := (hw4.mono (T := w.heap.size :: S) (by simp; intro k hk; exact .inr hk)).trans hW
        rw [h1.cell (p := ⟨wr.heap.size, 3, none⟩) (by simp) hn, cell_of_row _ _ _ _ _ _ (heap_alloc_new wr _)]
        rfl
      have HJ4 := Lib.hid hj4
      have HE4 := Lib.hid he4
      clear hw4 hj4 he4
      have c9 := HK9.out _ (Wrote.refl _ _)
      clear c0 c1 c2 c3
      cases hA : A k with
      | false =>
        have HE := Lib.hid (HE4.out hA)
        clear hA
        go_wp2_with fail
        go_ret
        exact ⟨_, rfl, HM4.out, HE.out, HW4.out.of_new (by simp; intro k hk; exact .inl hk)⟩
      | true =>
        have I0 : Hid (InRel w S JM k (flat T k ++ t.writes.take 0) w4) := by
          show InRel _ _ _ _ _ _
          rw [List.take_zero, List.append_nil]
          exact ⟨HJ4.out hA, HM4.out, HW4.out⟩
        clear hA HAH HE4 HJ4 HM4
        go_wp2_with fail
        go_loopw [28] (fun i wq => ∃ j : Nat, j ≤ m ∧ i = .int .i64 j ∧ InRel w S JM k (flat T k ++ t.writes.take j) wq) (fun i _ => m - (intOf i).toNat)
        case atStart => exact ⟨0, by omega, rfl, I0.out⟩
        case round =>
          clear I0 c9 HK9 HW4
          obtain ⟨j, hj, rfl, hq⟩ := hrel
          have HQ := Lib.hid hq
          clear hq
          by_cases hjm : j < m
          · obtain ⟨x, hx⟩ : ∃ x, t.writes[j]? = some x := ⟨_, List.getElem?_eq_getElem (by rw [← HMM.out]; exact hjm)⟩
            obtain ⟨g', o', rfl, hg', hf', d0, d1, _⟩ := HWR.out j x hx
            have e0 := (CE.out _ HQ.out.wrote g' (o' + j * 2) hg' hf').trans d0
            have e1 := (CE.out _ HQ.out.wrote g' (o' + j * 2 + 1) hg' hf').trans d1
            obtain ⟨ds, hds⟩ : ∃ ds, ds = flat T k ++ t.writes.take j := ⟨_, rfl⟩
            have HD : Hid (flat T k ++ t.writes.take (j + 1) = ds ++ [x]) := by show _ = _; rw [take_step hx, hds]
            have hdl : ds.length ≤ 1000000 := by
              have h1 := HTOT.out
              have h2 := flat_le T (k + 1)
              rw [HFS.out, List.length_append] at h2
              have h3 : (t.writes.take j).length ≤ t.writes.length := by rw [List.length_take]; exact Nat.min_le_right _ _
              rw [hds, List.length_append]
              omega
            rw [← hds] at HQ
            have HPF : Hid ((ds ++ [x]) <+: flat T T.length) := by
              show _ <+: _
              rw [← HD.out]
              refine List.IsPrefix.trans (l₂ := flat T (k + 1)) ?_ (flat_pre T (k + 1))
              rw [HFS.out]
              exact (List.prefix_append_right_inj _).2 (List.take_prefix _ _)
            have HV := Lib.hid (ver_small ds x.1 hdl)
            clear hds hdl d0 d1 hx
            have HWT : Hid (∀ W, Below wr.heap.size wr W → Calls Try.prog 42 #[.map (some w.heap.size), .agg #[.string x.1, .string x.2]] W (WriteLeft W w.heap.size (stateOf ds) x)) := fun W hW => write_any _ _ x W (HQ.out.map.keep (hW.block _ HQ.out.map.lt)) HV.out.1 HV.out.2
            go_wp2_with fail
            refine (HWT.out _ ((Below.refl _ _).alloc (Nat.le_refl _) _)).mono ?_
            rintro e w5 ⟨rfl, hm5, hw5⟩
            have HJ5 := Lib.hid (H.out.stM _ _ _ _ (H.out.stM _ _ _ _ HQ.out.j ((Wrote.refl _ _).alloc _)) hw5)
            have HMD := Lib.hid (H.out.made k ds x w5 (by rw [← HN.out]; exact hlt) HPF.out HJ5.out)
            have HM5 : Hid (MapAt w5 w.heap.size bs entV (stateOf (ds ++ [x]))) := by show MapAt _ _ _ _ _; rw [stateOf_snoc]; exact hm5
            have HW5 := Lib.hid ((HQ.out.wrote.alloc _).trans (hw5.mono (T := w.heap.size :: S) (by simp)))
            clear hm5 hw5 e0 e1
            obtain ⟨ee, hee⟩ : ∃ ee, ee = entV (nextE (stateOf ds) x) := ⟨_, rfl⟩
            simp only [List.cons_append, List.nil_append] at HMD
            rw [← hee] at HMD ⊢
            clear hee
            go_wp2_with fail
            refine HMD.out.mono ?_
            rintro e w6 ⟨rfl, hw6, hj6, he6⟩
            have HM6 := Lib.hid (HM5.out.touch hw6 HBS.out)
            have HW6 := Lib.hid (HW5.out.trans (hw6.mono (T := w.heap.size :: S) (by simp; intro k hk; exact .inr hk)))
            have HJ6 := Lib.hid hj6
            have HE6 := Lib.hid he6
            clear hw6 hj6 he6
            cases hB : Mb (ds ++ [x]) with
            | false =>
              have HE := Lib.hid (HE6.out hB)
              clear hB
              go_wp2_with fail
              go_ret
              exact ⟨_, rfl, HM6.out, HE.out, HW6.out.of_new (by simp; intro k hk; exact .inl hk)⟩
            | true =>
              have HI : Hid (InRel w S JM k (flat T k ++ t.writes.take (j + 1)) w6) := by
                show InRel _ _ _ _ _ _
                rw [HD.out]
                exact ⟨HJ6.out hB, HM6.out, HW6.out⟩
              clear hB
              go_wp2_with fail
              go_roundw
              case rel => exact ⟨j + 1, by omega, by go_num, HI.out⟩
              case measure => simp [intOf]; omega
          · have HO : Hid (OutRel w T S JA (k + 1) wr) := by
              have e : flat T k ++ t.writes.take j = flat T (k + 1) := by rw [HFS.out, List.take_of_length_le (by rw [← HMM.out]; omega)]
              have hq := HQ.out
              rw [e] at hq
              exact ⟨H.out.next k _ (by rw [← HN.out]; exact hlt) hq.j, hq.map, hq.wrote⟩
            go_wp2_with fail
            exact ⟨⟨k + 1, by omega, by simp, HO.out⟩, by simp [intOf]; omega⟩
    · obtain rfl : k = n := by omega
      have HE : Hid (E (flat T k) wr) := by
        have h1 := HR.out.j
        rw [HN.out] at h1 ⊢
        exact H.out.last wr h1
      go_wp2_with fail
      go_ret
      exact ⟨_, rfl, HR.out.map, HE.out, HR.out.wrote.of_new (by simp; intro k hk; exact .inl hk)⟩

set_option maxRecDepth 100000 in
set_option maxHeartbeats 3200000 in
theorem run_25_21 (co cn : Value) (a : Option Addr) (cap : Nat) (T : List Tx) (w : World) (S : List Nat) (JA : Nat → World → Prop) (JM : Nat → List Wri → World → Prop) (E : List Wri → World → Prop) (A : Nat → Bool) (Mb : List Wri → Bool)
    (h : Hands w a T S JA JM E A Mb 28 31 [co, cn] []) (hl : T.length ≤ 2000) (ht : (flat T T.length).length ≤ 1000000) :
    Calls Try.prog 27 #[.slice a T.length cap, .func (.func 28) #[] #[co, cn], .func (.func 31) #[] #[]] w (RunLeft w S E) := by
  have H := Lib.hid h
  have HTOT := Lib.hid ht
  have hmm := @run_makeMap Try.prog
  obtain ⟨n, hn⟩ : ∃ n, n = T.length := ⟨_, rfl⟩
  have HN := Lib.hid hn
  rw [← hn] at hl ⊢
  clear h hn ht
  have R0 : Hid (OutRel w T S JA 0 (w.alloc (.map #[] 0))) := ⟨H.out.stA 0 _ _ H.out.start ((Wrote.refl _ _).alloc _), MapAt.new w bs entV, (Wrote.refl _ _).alloc _⟩
  go_enter Try.func27, Try.ntmps27
  go_wp2_with fail
  go_loopw [15] (fun i wr => ∃ k : Nat, k ≤ n ∧ i = .int .i64 k ∧ OutRel w T S JA k wr) (fun i _ => n - (intOf i).toNat)
  case atStart => exact ⟨0, by omega, rfl, R0.out⟩
  case round =>
    clear R0 hmm
    obtain ⟨k, hk, rfl, hr⟩ := hrel
    have HR := Lib.hid hr
    clear hr
    have hsz : w.heap.size < wr.heap.size := HR.out.map.lt
    by_cases hlt : k < n
    · obtain ⟨t, ht⟩ : ∃ t, T[k]? = some t := ⟨_, List.getElem?_eq_getElem (by rw [← HN.out]; exact hlt)⟩
      obtain ⟨g, o, rfl, hx⟩ := H.out.ord k t ht
      have ce : ∀ W, Wrote (w.heap.size :: S) w W → ∀ g i, g < w.heap.size → g ∉ S → W.cell? ⟨g, i, none⟩ = w.cell? ⟨g, i, none⟩ := fun W hW g i h1 h2 => hW.cell (p := ⟨g, i, none⟩) h1 (by simp only [List.mem_cons]; rintro (e | e); omega; exact h2 e)
      have CE := Lib.hid ce
      obtain ⟨ra, rc, x2, _⟩ := hx.c2
      obtain ⟨wa, wc, x3, hwr⟩ := hx.c3
      have HWR := Lib.hid hwr
      have c0 := (ce _ HR.out.wrote g _ hx.lt hx.far).trans hx.c0
      have c1 := (ce _ HR.out.wrote g _ hx.lt hx.far).trans hx.c1
      have c2 := (ce _ HR.out.wrote g _ hx.lt hx.far).trans x2
      have c3 := (ce _ HR.out.wrote g _ hx.lt hx.far).trans x3
      have HFS := Lib.hid (flat_succ ht)
      obtain ⟨m, hm⟩ : ∃ m, m = t.writes.length := ⟨_, rfl⟩
      have hm9 : (m : Int) ≤ 1000000 := by
        have h1 := HTOT.out
        have h2 := flat_le T (k + 1)
        rw [HFS.out, List.length_append] at h2
        omega
      rw [← hm] at c3
      have HMM := Lib.hid hm
      generalize t.reads.length = rl at c2
      clear hm ht hx ce x2 x3 hwr
      have hbS : w.heap.size ∉ S := fun e => by have := H.out.old _ e; omega
      have HBS := Lib.hid hbS
      have HAH : Hid (∀ W, Below wr.heap.size wr W → Calls Try.prog 28 #[.int .i64 (k : Int), .map (some w.heap.size), co, cn] W fun e W' => e = .returned (.bool (A k)) ∧ Wrote S W W' ∧ (A k = true → JM k (flat T k) W') ∧ (A k = false → E (flat T k) W')) := fun W hW =>
        H.out.ahead k W w.heap.size (by rw [← HN.out]; exact hlt) (H.out.stA _ _ _ HR.out.j ((Wrote.of_below (S := []) hW).mono (by simp))) (HR.out.map.keep (hW.block _ HR.out.map.lt))
      clear hbS
      go_wp2_with fail
      refine (HAH.out _ ((Below.refl _ _).alloc (Nat.le_refl _) _)).mono ?_
      rintro e w4 ⟨rfl, hw4, hj4, he4⟩
      have HM4 := Lib.hid ((HR.out.map.alloc _).touch hw4 HBS.out)
      have HW4 := Lib.hid ((HR.out.wrote.alloc _).trans (hw4.mono (by simp; intro k hk; exact .inr hk)))
      have HK9 : Hid (∀ W, Wrote (w.heap.size :: S) w4 W → W.cell? ⟨wr.heap.size, 3, none⟩ = some (.slice wa m wc)) := fun W hW => by
        have hn : wr.heap.size ∉ w.heap.size :: S := by
          simp only [List.mem_cons]
          rintro (e | e)
          · omega
          · have := H.out.old _ e
            omega
        have h1 := (hw4.mono (T := w.heap.size :: S) (by simp; intro k hk; exact .inr hk)).trans hW
        rw [h1.cell (p := ⟨wr.heap.size, 3, none⟩) (by simp) hn, cell_of_row _ _ _ _ _ _ (heap_alloc_new wr _)]
        rfl
      have HJ4 := Lib.hid hj4
      have HE4 := Lib.hid he4
      clear hw4 hj4 he4
      have c9 := HK9.out _ (Wrote.refl _ _)
      clear c0 c1 c2 c3
      cases hA : A k with
      | false =>
        have HE := Lib.hid (HE4.out hA)
        clear hA
        go_wp2_with fail
        go_ret
        exact ⟨_, rfl, HM4.out, HE.out, HW4.out.of_new (by simp; intro k hk; exact .inl hk)⟩
      | true =>
        have I0 : Hid (InRel w S JM k (flat T k ++ t.writes.take 0) w4) := by
          show InRel _ _ _ _ _ _
          rw [List.take_zero, List.append_nil]
          exact ⟨HJ4.out hA, HM4.out, HW4.out⟩
        clear hA HAH HE4 HJ4 HM4
        go_wp2_with fail
        go_loopw [28] (fun i wq => ∃ j : Nat, j ≤ m ∧ i = .int .i64 j ∧ InRel w S JM k (flat T k ++ t.writes.take j) wq) (fun i _ => m - (intOf i).toNat)
        case atStart => exact ⟨0, by omega, rfl, I0.out⟩
        case round =>
          clear I0 c9 HK9 HW4
          obtain ⟨j, hj, rfl, hq⟩ := hrel
          have HQ := Lib.hid hq
          clear hq
          by_cases hjm : j < m
          · obtain ⟨x, hx⟩ : ∃ x, t.writes[j]? = some x := ⟨_, List.getElem?_eq_getElem (by rw [← HMM.out]; exact hjm)⟩
            obtain ⟨g', o', rfl, hg', hf', d0, d1, _⟩ := HWR.out j x hx
            have e0 := (CE.out _ HQ.out.wrote g' (o' + j * 2) hg' hf').trans d0
            have e1 := (CE.out _ HQ.out.wrote g' (o' + j * 2 + 1) hg' hf').trans d1
            obtain ⟨ds, hds⟩ : ∃ ds, ds = flat T k ++ t.writes.take j := ⟨_, rfl⟩
            have HD : Hid (flat T k ++ t.writes.take (j + 1) = ds ++ [x]) := by show _ = _; rw [take_step hx, hds]
            have hdl : ds.length ≤ 1000000 := by
              have h1 := HTOT.out
              have h2 := flat_le T (k + 1)
              rw [HFS.out, List.length_append] at h2
              have h3 : (t.writes.take j).length ≤ t.writes.length := by rw [List.length_take]; exact Nat.min_le_right _ _
              rw [hds, List.length_append]
              omega
            rw [← hds] at HQ
            have HPF : Hid ((ds ++ [x]) <+: flat T T.length) := by
              show _ <+: _
              rw [← HD.out]
              refine List.IsPrefix.trans (l₂ := flat T (k + 1)) ?_ (flat_pre T (k + 1))
              rw [HFS.out]
              exact (List.prefix_append_right_inj _).2 (List.take_prefix _ _)
            have HV := Lib.hid (ver_small ds x.1 hdl)
            clear hds hdl d0 d1 hx
            have HWT : Hid (∀ W, Below wr.heap.size wr W → Calls Try.prog 42 #[.map (some w.heap.size), .agg #[.string x.1, .string x.2]] W (WriteLeft W w.heap.size (stateOf ds) x)) := fun W hW => write_any _ _ x W (HQ.out.map.keep (hW.block _ HQ.out.map.lt)) HV.out.1 HV.out.2
            go_wp2_with fail
            refine (HWT.out _ ((Below.refl _ _).alloc (Nat.le_refl _) _)).mono ?_
            rintro e w5 ⟨rfl, hm5, hw5⟩
            have HJ5 := Lib.hid (H.out.stM _ _ _ _ (H.out.stM _ _ _ _ HQ.out.j ((Wrote.refl _ _).alloc _)) hw5)
            have HMD := Lib.hid (H.out.made k ds x w5 (by rw [← HN.out]; exact hlt) HPF.out HJ5.out)
            have HM5 : Hid (MapAt w5 w.heap.size bs entV (stateOf (ds ++ [x]))) := by show MapAt _ _ _ _ _; rw [stateOf_snoc]; exact hm5
            have HW5 := Lib.hid ((HQ.out.wrote.alloc _).trans (hw5.mono (T := w.heap.size :: S) (by simp)))
            clear hm5 hw5 e0 e1
            obtain ⟨ee, hee⟩ : ∃ ee, ee = entV (nextE (stateOf ds) x) := ⟨_, rfl⟩
            simp only [List.cons_append, List.nil_append] at HMD
            rw [← hee] at HMD ⊢
            clear hee
            go_wp2_with fail
            refine HMD.out.mono ?_
            rintro e w6 ⟨rfl, hw6, hj6, he6⟩
            have HM6 := Lib.hid (HM5.out.touch hw6 HBS.out)
            have HW6 := Lib.hid (HW5.out.trans (hw6.mono (T := w.heap.size :: S) (by simp; intro k hk; exact .inr hk)))
            have HJ6 := Lib.hid hj6
            have HE6 := Lib.hid he6
            clear hw6 hj6 he6
            cases hB : Mb (ds ++ [x]) with
            | false =>
              have HE := Lib.hid (HE6.out hB)
              clear hB
              go_wp2_with fail
              go_ret
              exact ⟨_, rfl, HM6.out, HE.out, HW6.out.of_new (by simp; intro k hk; exact .inl hk)⟩
            | true =>
              have HI : Hid (InRel w S JM k (flat T k ++ t.writes.take (j + 1)) w6) := by
                show InRel _ _ _ _ _ _
                rw [HD.out]
                exact ⟨HJ6.out hB, HM6.out, HW6.out⟩
              clear hB
              go_wp2_with fail
              go_roundw
              case rel => exact ⟨j + 1, by omega, by go_num, HI.out⟩
              case measure => simp [intOf]; omega
          · have HO : Hid (OutRel w T S JA (k + 1) wr) := by
              have e : flat T k ++ t.writes.take j = flat T (k + 1) := by rw [HFS.out, List.take_of_length_le (by rw [← HMM.out]; omega)]
              have hq := HQ.out
              rw [e] at hq
              exact ⟨H.out.next k _ (by rw [← HN.out]; exact hlt) hq.j, hq.map, hq.wrote⟩
            go_wp2_with fail
            exact ⟨⟨k + 1, by omega, by simp, HO.out⟩, by simp [intOf]; omega⟩
    · obtain rfl : k = n := by omega
      have HE : Hid (E (flat T k) wr) := by
        have h1 := HR.out.j
        rw [HN.out] at h1 ⊢
        exact H.out.last wr h1
      go_wp2_with fail
      go_ret
      exact ⟨_, rfl, HR.out.map, HE.out, HR.out.wrote.of_new (by simp; intro k hk; exact .inl hk)⟩
end Go.Proofs.Ytpcmkifgfokdpaa
