/- The open numbers: shut, Cut. -/
import Derived.Test.YtelmgaaofighpaaAt
import Derived.Deep.DeepCutAuto
import Derived.Deep.LoopGhost
namespace Go.Proofs.Ytelmgaaofighpaa
open Go.RowKit Go.My Go.My.Slots

def without {V : Type} (n : Int) (l : List (Int × V)) : List (Int × V) := adel l n
def shutV (n : Int) (k : Nat) (l : List ((Int × Int × Int) × Int)) : List ((Int × Int × Int) × Int) :=
  match k with
  | 0 => l
  | k + 1 => adel (adel (shutV n k l) (1, n, (k : Int))) (2, n, (k : Int))
def shutS (s : St) (n : Int) : St := ⟨s.low, s.view, adel s.acc n, adel s.dec n, shutV n 10 s.votes, adel s.proofs n⟩

def ShutRel (w : World) (I : Ids) (s : St) (n : Int) (k : Nat) (wr : World) : Prop :=
  SlotsAt wr I { s with votes := shutV n k s.votes } ∧ Wrote I.list w wr

theorem shut_round {wr : World} {I : Ids} {s : St} (n : Int) (k : Nat) (h : SlotsAt wr I s) :
    ∃ w1 w2, (Builtin.delete_ #[58, 64] 0 #[.map (some I.bv), .agg #[.int .i64 1, .int .i64 n, .int .i64 (k : Int)]]).run Try.prog wr = .ok (.tuple #[]) w1 ∧
      (Builtin.delete_ #[58, 64] 0 #[.map (some I.bv), .agg #[.int .i64 2, .int .i64 n, .int .i64 (k : Int)]]).run Try.prog w1 = .ok (.tuple #[]) w2 ∧
      w1.cell? ⟨I.b, 4, none⟩ = some (.map (some I.bv)) ∧
      SlotsAt w2 I { s with votes := adel (adel s.votes (1, n, (k : Int))) (2, n, (k : Int)) } ∧ Wrote I.list wr w2 := by
  obtain ⟨w1, hr1, hm1, ht1⟩ := h.votes.delete (ty := 0) (t2 := 64) kBal Try.underlying58 (1, n, (k : Int))
  have h1 := h.setVotes ht1 hm1
  obtain ⟨w2, hr2, hm2, ht2⟩ := h1.votes.delete (ty := 0) (t2 := 64) kBal Try.underlying58 (2, n, (k : Int))
  have h2 := h1.setVotes ht2 hm2
  exact ⟨w1, w2, hr1, hr2, h1.c4, h2, (ht1.mono (by simp [Ids.list])).trans (ht2.mono (by simp [Ids.list]))⟩

set_option maxRecDepth 100000 in
set_option maxHeartbeats 1600000 in
theorem shut_any (I : Ids) (s : St) (n : Int) (w : World) (h : SlotsAt w I s) :
    Calls Try.prog 33 #[.pointer (some ⟨I.b, 0, none⟩), .int .i64 n] w fun e w' => e = .returned (.tuple #[]) ∧ SlotsAt w' I (shutS s n) ∧ Wrote I.list w w' := by
  obtain ⟨w1, hr1, hm1, ht1⟩ := h.acc.delete (ty := 0) (t2 := 2) kInt Try.underlying57 n
  have h1 := h.setAcc ht1 hm1
  obtain ⟨w2, hr2, hm2, ht2⟩ := h1.dec.delete (ty := 0) (t2 := 2) kInt Try.underlying57 n
  have h2 := h1.setDec ht2 hm2
  obtain ⟨w3, hr3, hm3, ht3⟩ := h2.proofs.delete (ty := 0) (t2 := 2) kInt Try.underlying59 n
  have h3 := h2.setProofs ht3 hm3
  have HW := Lib.hid (((ht1.mono (T := I.list) (by simp [Ids.list])).trans (ht2.mono (by simp [Ids.list]))).trans (ht3.mono (by simp [Ids.list])))
  have c2 := h.c2
  have c3 := h1.c3
  have c5 := h2.c5
  simp only [i64] at hr1 hr2 hr3
  have H3 := Lib.hid h3
  clear h h1 h2 h3 hm1 hm2 hm3 ht1 ht2 ht3
  go_enter Try.func33, Try.ntmps33
  go_wp2_with fail
  go_loopw [20] (fun i wr => ∃ k : Nat, k ≤ 10 ∧ i = .int .i64 k ∧ ShutRel w3 I ⟨s.low, s.view, adel s.acc n, adel s.dec n, s.votes, adel s.proofs n⟩ n k wr) (fun i _ => 10 - (intOf i).toNat)
  case atStart => exact ⟨0, by omega, rfl, H3.out, Wrote.refl _ _⟩
  case round =>
    obtain ⟨k, hk, rfl, hrel⟩ := hrel
    have H := Lib.hid hrel
    clear hrel hr1 hr2 hr3 c2 c3 c5
    by_cases hlt : k < 10
    · obtain ⟨x1, x2, hd1, hd2, hc1, hs2, ht2⟩ := shut_round n k H.out.1
      have c4 := H.out.1.c4
      have HR : Hid (ShutRel w3 I ⟨s.low, s.view, adel s.acc n, adel s.dec n, s.votes, adel s.proofs n⟩ n (k + 1) x2) := ⟨hs2, H.out.2.trans ht2⟩
      clear hs2 ht2
      go_wp2_with fail
      go_roundw
      case rel => exact ⟨k + 1, by omega, by go_num, HR.out⟩
      case measure => simp [intOf]; omega
    · go_wp2_with fail
      go_end0
      have hk10 : k = 10 := by omega
      subst hk10
      exact ⟨rfl, H.out.1, HW.out.trans H.out.2⟩

/-! ### Cut -/
theorem nodup_len {α : Type} [DecidableEq α] : ∀ {l m : List α}, l.Nodup → (∀ x ∈ l, x ∈ m) → l.length ≤ m.length
  | [], m, _, _ => by simp
  | x :: l, m, hn, hs => by
    obtain ⟨h1, h2⟩ := List.nodup_cons.1 hn
    have hx := hs x (by simp)
    have := nodup_len (m := m.erase x) h2 (fun y hy => by
      rw [List.mem_erase_of_ne (by rintro rfl; exact h1 hy)]
      exact hs y (by simp [hy]))
    rw [List.length_erase_of_mem hx] at this
    have hp : 0 < m.length := List.length_pos_of_mem hx
    simp
    omega

def opens (low : Int) : List Int := [low + 1, low + 2, low + 3, low + 4, low + 5, low + 6, low + 7, low + 8, low + 9, low + 10, low + 11, low + 12, low + 13, low + 14, low + 15, low + 16]
theorem mem_opens {s : St} {n : Int} (h : openB s n = true) : n ∈ opens s.low := by
  rw [openB_iff] at h
  simp [opens]
  omega
theorem short_of {V : Type} {s : St} {l : List (Int × V)} (hn : (l.map (·.1)).Nodup) (ho : ∀ p ∈ l, openB s p.1 = true) : l.length ≤ 16 := by
  have := nodup_len (m := opens s.low) hn (fun x hx => by
    obtain ⟨p, hp, rfl⟩ := List.mem_map.1 hx
    exact mem_opens (ho p hp))
  simpa [opens] using this
def ballots (low : Int) : List (Int × Int × Int) := (opens low).flatMap fun n => ([1, 2] : List Int).flatMap fun k => nums.map fun w => (k, n, w)
theorem length_flat {α β : Type} (f : α → List β) (c : Nat) (h : ∀ x, (f x).length = c) : ∀ l : List α, (l.flatMap f).length = l.length * c
  | [] => by simp
  | x :: l => by rw [List.flatMap_cons, List.length_append, length_flat f c h l, h x, List.length_cons, Nat.succ_mul, Nat.add_comm]
theorem ballots_len (low : Int) : (ballots low).length = 320 := by
  unfold ballots
  rw [length_flat _ 20 (fun n => by rw [length_flat _ 10 (fun k => by simp [nums])]; rfl)]
  simp [opens]
theorem short_votes {s : St} (h : Inv s) : s.votes.length ≤ 320 := by
  have := nodup_len (m := ballots s.low) h.nvotes (fun x hx => by
    obtain ⟨p, hp, rfl⟩ := List.mem_map.1 hx
    obtain ⟨h1, h2, h3, h4, _⟩ := h.votes p hp
    obtain ⟨⟨k, n, who⟩, d⟩ := p
    refine List.mem_flatMap.2 ⟨n, mem_opens h1, ?_⟩
    refine List.mem_flatMap.2 ⟨k, by simpa using h2, ?_⟩
    refine List.mem_map.2 ⟨who, ?_, rfl⟩
    simp [nums]
    simp at h3 h4
    omega)
  rw [ballots_len] at this
  simpa using this

theorem inv_cutTo {s : St} (h : Inv s) {low : Int} (h1 : s.low ≤ low) (h2 : low ≤ 1099511627776) : Inv (cutTo s low) := by
  have := inv_cut h low
  unfold cut at this
  rwa [if_pos (by simp [cutB, h1, h2])] at this
theorem above_step {V : Type} (l : List (Int × V)) (low : Int) : adel (above low l) (low + 1) = above (low + 1) l := by
  unfold adel above
  rw [List.filter_filter]
  congr 1
  funext p
  rw [Bool.eq_iff_iff]
  simp
  omega
theorem shutV_filter (n : Int) (l : List ((Int × Int × Int) × Int)) : ∀ k, shutV n k l = l.filter fun p => !(decide (p.1.1 = 1 ∨ p.1.1 = 2) && decide (p.1.2.1 = n) && decide (0 ≤ p.1.2.2) && decide (p.1.2.2 < (k : Int)))
  | 0 => by
    unfold shutV
    symm
    rw [List.filter_eq_self]
    intro p _
    simp
    omega
  | k + 1 => by
    unfold shutV adel
    rw [shutV_filter n l k, List.filter_filter, List.filter_filter]
    congr 1
    funext p
    obtain ⟨⟨a, b, c⟩, d⟩ := p
    rw [Bool.eq_iff_iff]
    simp
    omega
theorem aboveV_step {s : St} (h : Inv s) (low : Int) : shutV (low + 1) 10 (aboveV low s.votes) = aboveV (low + 1) s.votes := by
  rw [shutV_filter]
  unfold aboveV
  rw [List.filter_filter]
  apply List.filter_congr
  intro p hp
  obtain ⟨_, h2, h3, h4, _⟩ := h.votes p hp
  rw [Bool.eq_iff_iff]
  simp
  omega
theorem shut_cutTo {s : St} (h : Inv s) (low : Int) : { shutS (cutTo s low) (low + 1) with low := low + 1 } = cutTo s (low + 1) := by
  unfold shutS cutTo
  simp only [above_step, aboveV_step h]
theorem cutTo_self {s : St} (h : Inv s) : cutTo s s.low = s := by
  unfold cutTo above aboveV
  obtain ⟨low, view, acc, dec, votes, proofs⟩ := s
  have e1 : acc.filter (fun p => decide (low < p.1)) = acc := List.filter_eq_self.2 fun p hp => by have := openB_iff.1 (h.acc p hp).1; simpa using this.1
  have e2 : dec.filter (fun p => decide (low < p.1)) = dec := List.filter_eq_self.2 fun p hp => by have := openB_iff.1 (h.dec p hp).1; simpa using this.1
  have e3 : votes.filter (fun p => decide (low < p.1.2.1)) = votes := List.filter_eq_self.2 fun p hp => by have := openB_iff.1 (h.votes p hp).1; simpa using this.1
  have e4 : proofs.filter (fun p => decide (low < p.1)) = proofs := List.filter_eq_self.2 fun p hp => by have := openB_iff.1 (h.proofs p hp).1; simpa using this.1
  simp only [e1, e2, e3, e4]
theorem above_nil {V : Type} {l : List (Int × V)} {low low' : Int} (h : above low l = []) (hl : low ≤ low') : above low' l = [] := by
  unfold above at *
  rw [List.filter_eq_nil_iff] at *
  intro p hp
  have := h p hp
  simp at *
  omega
theorem aboveV_nil {l : List ((Int × Int × Int) × Int)} {low low' : Int} (h : aboveV low l = []) (hl : low ≤ low') : aboveV low' l = [] := by
  unfold aboveV at *
  rw [List.filter_eq_nil_iff] at *
  intro p hp
  have := h p hp
  simp at *
  omega
theorem cutTo_empty {s : St} {low low' : Int} (hl : low ≤ low') (h : (cutTo s low).acc.length + (cutTo s low).dec.length + (cutTo s low).proofs.length + (cutTo s low).votes.length = 0) :
    { cutTo s low with low := low' } = cutTo s low' := by
  have e1 : (cutTo s low).acc = [] := List.eq_nil_of_length_eq_zero (by omega)
  have e2 : (cutTo s low).dec = [] := List.eq_nil_of_length_eq_zero (by omega)
  have e3 : (cutTo s low).proofs = [] := List.eq_nil_of_length_eq_zero (by omega)
  have e4 : (cutTo s low).votes = [] := List.eq_nil_of_length_eq_zero (by omega)
  unfold cutTo at *
  simp only at e1 e2 e3 e4
  simp only [e1, e2, e3, e4, above_nil e1 hl, above_nil e2 hl, above_nil e3 hl, aboveV_nil e4 hl]

theorem len_at {K V : Type} [DecidableEq K] {w : World} {b : Nat} {ek : K → Value} {ev : V → Value} {l : List (K × V)} (h : MapAt w b ek ev l) {t ty : TypeId} {k e : TypeId} (ht : Try.prog.underlying t = some (.map k e)) (n : Nat) (hn : n = l.length) :
    ∀ j, (Builtin.len_ #[t] ty #[.map (some b)]).run Try.prog (w.drewN j) = .ok (.int .i64 (n : Int)) (w.drewN j) := fun j => by
  subst hn
  exact lenMap_run (h.drewN j) ht

def CutRel (w : World) (I : Ids) (s : St) (low' : Int) (lowk : Int) (wr : World) : Prop := s.low ≤ lowk ∧ lowk ≤ low' ∧ SlotsAt wr I (cutTo s lowk) ∧ Wrote I.list w wr
theorem cut_no {I : Ids} {s : St} {low : Int} {w : World} (h : SlotsAt w I s) (hv : cutB s low = false) : Left w I (cutB s low) (cut s low) (.returned (.bool false)) w := by
  unfold cut; rw [hv]; exact ⟨rfl, h, Wrote.refl _ _⟩

theorem below_drewN' {B : Nat} {a w : World} (h : Below B a w) (n : Nat) : Below B a (w.drewN n) := ⟨h.os, h.tape, h.output, h.size, h.block⟩
theorem SlotsAt.setLow {w : World} {I : Ids} {s : St} (h : SlotsAt w I s) (v : Int) : SlotsAt (w.setCell ⟨I.b, 0, none⟩ (.int .i64 v)) I { s with low := v } := by
  have hn := h.nd
  simp [Ids.list] at hn
  have k : ∀ b : Nat, b ≠ I.b → (w.setCell ⟨I.b, 0, none⟩ (.int .i64 v)).heap[b]? = w.heap[b]? := fun b hb => Below.heap_setCell _ _ _ _ hb
  refine ⟨?_, h.acc.keep (k _ (by omega)), h.dec.keep (k _ (by omega)), h.votes.keep (k _ (by omega)), h.proofs.keep (k _ (by omega)), h.nd⟩
  exact heap_setCell_same w I.b 0 _ _ _ h.blk
theorem cut_yes {I : Ids} {s : St} {low' lowk : Int} {w wr : World} (_h : SlotsAt w I s) (_hi : Inv s) (nq : Nat) (_k1 : s.low ≤ lowk) (k2 : lowk ≤ low')
    (hd : lowk = low' ∨ (cutTo s lowk).acc.length + (cutTo s lowk).dec.length + (cutTo s lowk).proofs.length + (cutTo s lowk).votes.length = 0)
    (hs : SlotsAt wr I (cutTo s lowk)) (ht : Wrote I.list w wr) (hv : cutB s low' = true) :
    Left w I (cutB s low') (cut s low') (.returned (.bool true)) ((wr.drewN nq).setCell ⟨I.b, 0, none⟩ (.int .i64 low')) := by
  unfold cut
  rw [hv]
  have h1 := (hs.below (below_drewN' (Below.refl _ _) nq)).setLow low'
  have h2 : { cutTo s lowk with low := low' } = cutTo s low' := by
    rcases hd with rfl | hd
    · rfl
    · exact cutTo_empty k2 hd
  rw [h2] at h1
  exact ⟨rfl, h1, (ht.drewN nq).setCell (.inl (by simp [Ids.list])) _⟩
theorem cut_step {I : Ids} {s : St} {low' lowk : Int} {w wr w1 : World} {nq : Nat} (hi : Inv s) (k1 : s.low ≤ lowk) (hlt : lowk < low') (hs1 : SlotsAt w1 I (shutS (cutTo s lowk) (lowk + 1))) (ht : Wrote I.list w wr)
    (ht1 : Wrote I.list (wr.drewN nq) w1) : CutRel w I s low' (lowk + 1) (w1.setCell ⟨I.b, 0, none⟩ (.int .i64 (lowk + 1))) := by
  have h1 := hs1.setLow (lowk + 1)
  rw [shut_cutTo hi] at h1
  exact ⟨by omega, by omega, h1, ((ht.drewN nq).trans ht1).setCell (.inl (by simp [Ids.list])) _⟩

set_option maxRecDepth 100000 in
set_option maxHeartbeats 3200000 in
theorem cut_any (I : Ids) (s : St) (low' : Int) (w : World) (h : SlotsAt w I s) (hi : Inv s) :
    Calls Try.prog 19 #[.pointer (some ⟨I.b, 0, none⟩), .int .i64 low'] w (Left w I (cutB s low') (cut s low')) := by
  have c0 := h.c0
  have HN := Lib.hid h
  have HI := Lib.hid hi
  have l0 := hi.low0
  clear h hi
  by_cases a1 : low' < s.low
  · have HV : Hid (cutB s low' = false) := by show cutB s low' = false; simp [cutB]; omega
    go_enter Try.func19, Try.ntmps19
    go_wp2_with fail
    go_ret
    exact cut_no HN.out HV.out
  · by_cases a2 : 1099511627776 < low'
    · have HV : Hid (cutB s low' = false) := by show cutB s low' = false; simp [cutB]; omega
      go_enter Try.func19, Try.ntmps19
      go_wp2_with fail
      go_ret
      exact cut_no HN.out HV.out
    · have HV : Hid (cutB s low' = true) := by show cutB s low' = true; simp [cutB]; omega
      go_enter Try.func19, Try.ntmps19
      go_wp2_with fail
      go_loopg [46] (low' - s.low).toNat (fun g _ wr => ∃ lowk : Int, g = (low' - lowk).toNat ∧ CutRel w I s low' lowk wr)
      case atStart =>
        refine ⟨s.low, rfl, Int.le_refl _, by omega, ?_, Wrote.refl _ _⟩
        rw [cutTo_self HI.out]
        exact HN.out
      case round =>
        obtain ⟨lowk, hg, k1, k2, hs, ht⟩ := hrel
        have hk2 : lowk ≤ 1099511627776 := by omega
        have hI := inv_cutTo HI.out k1 hk2
        have b1 := short_of hI.nacc fun p hp => (hI.acc p hp).1
        have b2 := short_of hI.ndec fun p hp => (hI.dec p hp).1
        have b3 := short_of hI.nproofs fun p hp => (hI.proofs p hp).1
        have b4 := short_votes hI
        have c0' := hs.c0
        have c2 := hs.c2
        have c3 := hs.c3
        have c4 := hs.c4
        have c5 := hs.c5
        have f0 := hs.fz 0
        obtain ⟨n1, e1⟩ : ∃ n, n = (cutTo s lowk).acc.length := ⟨_, rfl⟩
        obtain ⟨n2, e2⟩ : ∃ n, n = (cutTo s lowk).dec.length := ⟨_, rfl⟩
        obtain ⟨n3, e3⟩ : ∃ n, n = (cutTo s lowk).proofs.length := ⟨_, rfl⟩
        obtain ⟨n4, e4⟩ : ∃ n, n = (cutTo s lowk).votes.length := ⟨_, rfl⟩
        have r1 := len_at (ty := 3) hs.acc Try.underlying57 n1 e1
        have r2 := len_at (ty := 3) hs.dec Try.underlying57 n2 e2
        have r3 := len_at (ty := 3) hs.proofs Try.underlying59 n3 e3
        have r4 := len_at (ty := 3) hs.votes Try.underlying58 n4 e4
        rw [← e1] at b1
        rw [← e2] at b2
        rw [← e3] at b3
        rw [← e4] at b4
        have HE := Lib.hid (show n1 + n2 + n3 + n4 = (cutTo s lowk).acc.length + (cutTo s lowk).dec.length + (cutTo s lowk).proofs.length + (cutTo s lowk).votes.length by rw [e1, e2, e3, e4])
        have HG := Lib.hid hg
        have HS := Lib.hid hs
        have HT := Lib.hid ht
        have HV2 := Lib.hid hI
        clear hs ht hg e1 e2 e3 e4 hI c0
        have c0 : wr.cell? ⟨I.b, 0, none⟩ = some (.int .i64 lowk) := c0'
        clear c0'
        by_cases hlt : lowk < low'
        · have w1 : IntKind.i64.wrap ((n1 : Int) + n2) = (n1 : Int) + n2 := IntWalk.i64_in _ (by omega)
          have w2 : IntKind.i64.wrap ((n1 : Int) + n2 + n3) = (n1 : Int) + n2 + n3 := IntWalk.i64_in _ (by omega)
          have w3 : IntKind.i64.wrap ((n1 : Int) + n2 + n3 + n4) = (n1 : Int) + n2 + n3 + n4 := IntWalk.i64_in _ (by omega)
          by_cases hz : n1 + n2 + n3 + n4 = 0
          · have hd : decide (0 < (n1 : Int) + n2 + n3 + n4) = false := by simp; omega
            go_wp2_with fail
            go_quiet (fail)
            go_wp2_with fail
            go_ret
            exact cut_yes HN.out HI.out nq k1 k2 (.inr (by rw [← HE.out]; exact hz)) HS.out HT.out HV.out
          · have hd : decide (0 < (n1 : Int) + n2 + n3 + n4) = true := by simp; omega
            go_wp2_with fail
            go_quiet (fail)
            go_wp2_with fail
            refine (shut_any I (cutTo s lowk) (lowk + 1) _ (HS.out.below (below_drewN' (Below.refl _ _) _))).mono ?_
            rintro e w1 ⟨rfl, hs1, ht1⟩
            have HS1 := Lib.hid hs1
            have HT1 := Lib.hid ht1
            have c0 : w1.cell? ⟨I.b, 0, none⟩ = some (.int .i64 lowk) := hs1.c0
            have f0 := hs1.fz 0
            clear hs1 ht1
            go_wp2_with fail
            go_roundg (low' - (lowk + 1)).toNat
            case measure => rw [HG.out]; omega
            case rel => exact ⟨lowk + 1, rfl, cut_step HI.out k1 hlt HS1.out HT.out HT1.out⟩
        · have hd : decide (lowk < low') = false := by simp; omega
          go_wp2_with fail
          go_quiet (fail)
          go_wp2_with fail
          go_ret
          exact cut_yes HN.out HI.out nq k1 k2 (.inl (by omega)) HS.out HT.out HV.out
end Go.Proofs.Ytelmgaaofighpaa
