/- A judge: the order of a member. -/
import Derived.Test.YtpcmkifgfokdpaaJgreat
import Derived.Deep.AppendLies

namespace Go.Proofs.Ytpcmkifgfokdpaa
open Go.RowKit Go.My Go.My.Model Go.Deep
def toDone (x : Say) : Bool := decide (x.kind = 3) && x.yes
def doneStep (K : List Int) (x : Say) : List Int := if (toDone x && !(K.any fun t => decide (x.txn = t))) = true then K ++ [x.txn] else K
def doneL (l : List Say) : List Int := l.foldl doneStep []
def hasRec (R : List Rec) (t : Int) : Bool := R.any fun r => decide (r.txn = t)
def orderN (s : Seen) : Nat := ((doneL s.says).filter (hasRec s.recs)).length
theorem done_succ {l : List Say} {j : Nat} {x : Say} (h : l[j]? = some x) : doneL (l.take (j + 1)) = doneStep (doneL (l.take j)) x := by
  unfold doneL
  rw [List.take_add_one, h]
  simp
theorem done_len (l : List Say) : (doneL l).length ≤ l.length := by
  unfold doneL
  have : ∀ (l : List Say) (K : List Int), (l.foldl doneStep K).length ≤ K.length + l.length := by
    intro l
    induction l with
    | nil => intro K; simp
    | cons x l ih =>
      intro K
      rw [List.foldl_cons]
      have h := ih (doneStep K x)
      have h2 : (doneStep K x).length ≤ K.length + 1 := by unfold doneStep; split <;> simp
      simp only [List.length_cons]
      omega
  simpa using this l []
set_option maxRecDepth 100000 in
theorem index_41 (a : Option Addr) (cap : Nat) (l : List Int) (v : Int) (w : World) (ha : Lies w a 1 intL l) (hl : l.length ≤ 1000) :
    Calls Try.prog 41 #[.slice a l.length cap, .int .i64 v] w (IdxB w (l.any fun t => decide (v = t))) := by
  have HA := Lib.hid ha
  obtain ⟨n, hn⟩ : ∃ n, n = l.length := ⟨_, rfl⟩
  have HN := Lib.hid hn
  have hn9 : (n : Int) ≤ 1000 := by omega
  rw [← hn]
  have P0 : Hid (Below w.heap.size w w ∧ (l.take 0).any (fun t => decide (v = t)) = false) := ⟨Below.refl _ _, rfl⟩
  clear ha hn hl
  go_enter Try.func41, Try.ntmps41
  go_wp2_with fail
  go_loopw [8] (fun i wr => ∃ j : Nat, j ≤ n ∧ i = .int .i64 j ∧ Hid (Below w.heap.size w wr ∧ (l.take j).any (fun t => decide (v = t)) = false)) (fun i _ => n - (intOf i).toNat)
  case atStart => exact ⟨0, by omega, rfl, P0⟩
  case round =>
    clear P0
    obtain ⟨j, hj, rfl, HB⟩ := hrel
    by_cases hlt : j < n
    · obtain ⟨r, hr⟩ : ∃ r, l[j]? = some r := ⟨_, List.getElem?_eq_getElem (by rw [← HN.out]; exact hlt)⟩
      obtain ⟨g, o, rfl, hg, hc⟩ := HA.out.below HB.out.1 j r hr
      have d0 : wr.cell? ⟨g, o + j * 1, none⟩ = some (.int .i64 r) := hc 0 _ rfl
      rw [Nat.mul_one] at d0
      have HT := any_take (p := fun t => decide (v = t)) hr
      rw [HB.out.2] at HT
      have HRR := Lib.hid hr
      have hj0 : (0 : Int) ≤ (j : Int) := by omega
      have hj1 : (j : Int) < (n : Int) := by omega
      clear hr hc
      by_cases hv : v = r
      · have hd : (v == r) = true := by simpa using hv
        have HANY : Hid (l.any (fun t => decide (v = t)) = true) := any_idx HRR.out (by simpa using hv)
        clear hv HT
        go_wp2_with fail
        go_ret
        exact ⟨(j : Int), rfl, by rw [HANY.out]; simp, HB.out.1⟩
      · have hd : (v == r) = false := by simpa using hv
        have HB1 : Hid (Below w.heap.size w wr ∧ (l.take (j + 1)).any (fun t => decide (v = t)) = false) := ⟨HB.out.1, by rw [HT]; simpa using hv⟩
        clear hv HT
        go_wp2_with fail
        exact ⟨⟨j + 1, by omega, by simp, HB1⟩, by simp [intOf]; omega⟩
    · obtain rfl : j = n := by omega
      go_wp2_with fail
      go_ret
      have ht := HB.out.2
      rw [List.take_of_length_le (by rw [← HN.out]; exact Nat.le_refl _)] at ht
      exact ⟨-1, rfl, by rw [ht]; rfl, HB.out.1⟩
set_option maxRecDepth 100000 in
theorem contains_24 (a : Option Addr) (cap : Nat) (l : List Int) (v : Int) (w : World) (ha : Lies w a 1 intL l) (hl : l.length ≤ 1000) :
    Calls Try.prog 24 #[.slice a l.length cap, .int .i64 v] w (BoolLeft w (l.any fun t => decide (v = t))) := by
  have HC := Lib.hid (index_41 a cap l v w ha hl)
  generalize l.length = n at HC ⊢
  clear ha
  go_enter Try.func24, Try.ntmps24
  go_wp2_with (go_at_call 41; refine HC.out.mono ?_; rintro e w1 ⟨z, rfl, hz, hb⟩; have HZ := Lib.hid hz; have HB := Lib.hid hb; clear hz hb)
  go_ret
  exact ⟨by rw [← HZ.out]; rfl, HB.out⟩
set_option maxRecDepth 100000 in
theorem is_26 (r : Rec) (tx : Int) (p : Nat) (w : World) (hp : p < w.heap.size) (hx : w.cell? ⟨p, 1, none⟩ = some (.int .i64 tx)) :
    Calls Try.prog 26 #[recA r, .pointer (some ⟨p, 0, none⟩)] w (BoolLeft w (decide (r.txn = tx))) := by
  have HB0 : Hid (∀ o, Below w.heap.size w (w.alloc o)) := fun o => (Below.refl _ w).alloc (Nat.le_refl _) o
  unfold recA
  by_cases h : r.txn = tx
  · have e1 : (r.txn == tx) = true := by simpa using h
    have HE : Hid (decide (r.txn = tx) = true) := decide_eq_true h
    rw [HE.out]
    clear h
    go_enter Try.func26, Try.ntmps26
    go_wp2_with fail
    go_ret
    exact ⟨rfl, HB0.out _⟩
  · have e1 : (r.txn == tx) = false := by simpa using h
    have HE : Hid (decide (r.txn = tx) = false) := decide_eq_false h
    rw [HE.out]
    clear h
    go_enter Try.func26, Try.ntmps26
    go_wp2_with fail
    go_ret
    exact ⟨rfl, HB0.out _⟩
def IdxAt (w : World) (n : Nat) (b : Bool) (e : Ending) (w' : World) : Prop := ∃ z : Int, e = .returned (.int .i64 z) ∧ ((b = false ∧ z = -1) ∨ (b = true ∧ ∃ j : Nat, z = (j : Int) ∧ j < n)) ∧ Below w.heap.size w w'
set_option maxRecDepth 100000 in
set_option maxHeartbeats 1600000 in
theorem index_26 (a : Option Addr) (cap : Nat) (l : List Rec) (w : World) (p : Nat) (tx : Int) (c0 c2 c3 c4 c5 c6 c7 c8 : Value) (ha : Lies w a 10 recL l) (hl : l.length ≤ 1000) (hp : w.heap[p]? = some (.cells #[c0, .int .i64 tx, c2, c3, c4, c5, c6, c7, c8] 53 (0, 0))) :
    Calls Try.prog 25 #[.slice a l.length cap, .func (.func 26) #[] #[.pointer (some ⟨p, 0, none⟩)]] w (IdxAt w l.length (hasRec l tx)) := by
  have HA := Lib.hid ha
  have HC : Hid (∀ r W, Below w.heap.size w W → Calls Try.prog 26 #[recA r, .pointer (some ⟨p, 0, none⟩)] W (BoolLeft W (decide (r.txn = tx)))) := fun r W hb =>
    is_26 r tx p W (lt_of_heap ((hb.block _ (lt_of_heap hp)).trans hp)) (by rw [cell_of_row _ _ _ _ _ _ ((hb.block _ (lt_of_heap hp)).trans hp)]; rfl)
  unfold hasRec
  obtain ⟨n, hn⟩ : ∃ n, n = l.length := ⟨_, rfl⟩
  have HN := Lib.hid hn
  have hn9 : (n : Int) ≤ 1000 := by omega
  rw [← hn]
  have P0 : Hid (Below w.heap.size w w ∧ (l.take 0).any (fun r => decide (r.txn = tx)) = false) := ⟨Below.refl _ _, rfl⟩
  clear ha hn hl hp
  go_enter Try.func25, Try.ntmps25
  go_wp2_with fail
  go_loopw [8] (fun i wr => ∃ j : Nat, j ≤ n ∧ i = .int .i64 j ∧ Hid (Below w.heap.size w wr ∧ (l.take j).any (fun r => decide (r.txn = tx)) = false)) (fun i _ => n - (intOf i).toNat)
  case atStart => exact ⟨0, by omega, rfl, P0⟩
  case round =>
    clear P0
    obtain ⟨j, hj, rfl, HB⟩ := hrel
    by_cases hlt : j < n
    · obtain ⟨r, hr⟩ : ∃ r, l[j]? = some r := ⟨_, List.getElem?_eq_getElem (by rw [← HN.out]; exact hlt)⟩
      obtain ⟨g, o, rfl, hg, hc⟩ := HA.out.below HB.out.1 j r hr
      have d0 : wr.cell? ⟨g, o + j * 10, none⟩ = some (.int .i64 r.txn) := hc 0 _ rfl
      have d1 : wr.cell? ⟨g, o + j * 10 + 1, none⟩ = some (.int .i64 r.state) := hc 1 _ rfl
      have d2 : wr.cell? ⟨g, o + j * 10 + 2, none⟩ = some (.slice r.keys.a r.keys.n r.keys.cap) := hc 2 _ rfl
      have d3 : wr.cell? ⟨g, o + j * 10 + 3, none⟩ = some (.slice r.shards.a r.shards.n r.shards.cap) := hc 3 _ rfl
      have d4 : wr.cell? ⟨g, o + j * 10 + 4, none⟩ = some (.slice r.voted.a r.voted.n r.voted.cap) := hc 4 _ rfl
      have d5 : wr.cell? ⟨g, o + j * 10 + 5, none⟩ = some (.slice r.roots.a r.roots.n r.roots.cap) := hc 5 _ rfl
      have d6 : wr.cell? ⟨g, o + j * 10 + 6, none⟩ = some (.int .i64 r.client) := hc 6 _ rfl
      have d7 : wr.cell? ⟨g, o + j * 10 + 7, none⟩ = some (.int .i64 r.num) := hc 7 _ rfl
      have d8 : wr.cell? ⟨g, o + j * 10 + 8, none⟩ = some (.slice r.reads.a r.reads.n r.reads.cap) := hc 8 _ rfl
      have d9 : wr.cell? ⟨g, o + j * 10 + 9, none⟩ = some (.slice r.writes.a r.writes.n r.writes.cap) := hc 9 _ rfl
      have HT := any_take (p := fun r => decide (r.txn = tx)) hr
      have HCC : Hid (Calls Try.prog 26 #[.agg #[.int .i64 r.txn, .int .i64 r.state, .slice r.keys.a r.keys.n r.keys.cap, .slice r.shards.a r.shards.n r.shards.cap, .slice r.voted.a r.voted.n r.voted.cap, .slice r.roots.a r.roots.n r.roots.cap, .int .i64 r.client, .int .i64 r.num, .slice r.reads.a r.reads.n r.reads.cap, .slice r.writes.a r.writes.n r.writes.cap], .pointer (some ⟨p, 0, none⟩)] wr (BoolLeft wr (decide (r.txn = tx)))) := HC.out r wr HB.out.1
      have HRR := Lib.hid hr
      have hj0 : (0 : Int) ≤ (j : Int) := by omega
      have hj1 : (j : Int) < (n : Int) := by omega
      have HLT := Lib.hid hlt
      rw [HB.out.2] at HT
      clear hr hc
      cases hp : decide (r.txn = tx) with
      | true =>
        rw [hp] at HCC
        have HANY : Hid (l.any (fun r => decide (r.txn = tx)) = true) := any_idx HRR.out hp
        clear hp HT
        go_wp2_with fail
        refine HCC.out.mono ?_
        rintro e w1 ⟨rfl, hb1⟩
        have HB1 := Lib.hid (HB.out.1.trans (hb1.mono HB.out.1.size))
        clear hb1
        go_wp2_with fail
        go_ret
        exact ⟨(j : Int), rfl, .inr ⟨HANY.out, j, rfl, HLT.out⟩, HB1.out⟩
      | false =>
        rw [hp] at HCC HT
        have HTT := Lib.hid HT
        clear hp HT
        go_wp2_with fail
        refine HCC.out.mono ?_
        rintro e w1 ⟨rfl, hb1⟩
        have HB1 : Hid (Below w.heap.size w w1 ∧ (l.take (j + 1)).any (fun r => decide (r.txn = tx)) = false) := ⟨HB.out.1.trans (hb1.mono HB.out.1.size), by rw [HTT.out]; rfl⟩
        clear hb1
        go_wp2_with fail
        exact ⟨⟨j + 1, by omega, by simp, HB1⟩, by simp [intOf]; omega⟩
    · obtain rfl : j = n := by omega
      go_wp2_with fail
      go_ret
      have ht := HB.out.2
      rw [List.take_of_length_le (by rw [← HN.out]; exact Nat.le_refl _)] at ht
      exact ⟨-1, rfl, .inl ⟨ht, rfl⟩, HB.out.1⟩
end Go.Proofs.Ytpcmkifgfokdpaa
