/- A judge: is something so of one of some things, and one of others? -/
import Derived.Test.YtpcmkifgfokdpaaJis
namespace Go.Proofs.Ytpcmkifgfokdpaa
open Go.RowKit Go.My Go.My.Model Go.Deep
set_option maxRecDepth 100000 in
theorem inner_46 (y x : Ran) (w : World) (pi px : Nat) (hi : w.heap[pi]? = some (.cells #[.func (.func 35) #[] #[]] 88 (0, 0))) (hx : w.heap[px]? = some (.cells #[.int .i64 x.num, .int .i64 x.digest] 47 (0, 0))) :
    Calls Try.prog 46 #[ranA y, .pointer (some ⟨pi, 0, none⟩), .pointer (some ⟨px, 0, none⟩)] w (BoolLeft w (ranDiff x y)) := by
  have q : w.cell? ⟨pi, 0, none⟩ = some (.func (.func 35) #[] #[]) := by rw [cell_of_row _ _ _ _ _ _ hi]; rfl
  have x0 : w.cell? ⟨px, 0, none⟩ = some (.int .i64 x.num) := by rw [cell_of_row _ _ _ _ _ _ hx]; rfl
  have x1 : w.cell? ⟨px, 1, none⟩ = some (.int .i64 x.digest) := by rw [cell_of_row _ _ _ _ _ _ hx]; rfl
  have HC : Hid (∀ W, Calls Try.prog 35 #[.agg #[.int .i64 x.num, .int .i64 x.digest], .agg #[.int .i64 y.num, .int .i64 y.digest]] W (BoolLeft W (ranDiff x y))) := fun W => is_35 x y W
  have li := lt_of_heap hi
  have lx := lt_of_heap hx
  have HB0 : Hid (∀ o, Below w.heap.size w (w.alloc o)) := fun o => (Below.refl _ w).alloc (Nat.le_refl _) o
  obtain ⟨b, hb⟩ : ∃ b, b = ranDiff x y := ⟨_, rfl⟩
  rw [← hb] at HC ⊢
  clear hi hx hb
  unfold ranA
  go_enter Try.func46, Try.ntmps46
  go_wp2_with fail
  refine (HC.out _).mono ?_
  rintro e w1 ⟨rfl, hb⟩
  have HB : Hid (Below w.heap.size w w1) := (HB0.out _).trans (hb.mono (by simp))
  clear hb
  go_wp2_with fail
  go_ret
  exact ⟨rfl, HB.out⟩
set_option maxRecDepth 100000 in
set_option maxHeartbeats 1600000 in
theorem index_53_46 (a : Option Addr) (cap : Nat) (l : List Ran) (w : World) (q1 q2 : Option Addr) (p : Ran → Bool) (ha : Lies w a 2 ranL l) (hl : l.length ≤ 1000)
    (hc : ∀ r W, Below w.heap.size w W → Calls Try.prog 46 #[ranA r, .pointer q1, .pointer q2] W (BoolLeft W (p r))) :
    Calls Try.prog 53 #[.slice a l.length cap, .func (.func 46) #[] #[.pointer q1, .pointer q2]] w (IdxB w (l.any p)) := by
  have HA := Lib.hid ha
  have HC := Lib.hid hc
  obtain ⟨n, hn⟩ : ∃ n, n = l.length := ⟨_, rfl⟩
  have HN := Lib.hid hn
  have hn9 : (n : Int) ≤ 1000 := by omega
  rw [← hn]
  have P0 : Hid (Below w.heap.size w w ∧ (l.take 0).any p = false) := ⟨Below.refl _ _, rfl⟩
  clear ha hc hn hl
  go_enter Try.func53, Try.ntmps53
  go_wp2_with fail
  go_loopw [8] (fun i wr => ∃ j : Nat, j ≤ n ∧ i = .int .i64 j ∧ Hid (Below w.heap.size w wr ∧ (l.take j).any p = false)) (fun i _ => n - (intOf i).toNat)
  case atStart => exact ⟨0, by omega, rfl, P0⟩
  case round =>
    clear P0
    obtain ⟨j, hj, rfl, HB⟩ := hrel
    by_cases hlt : j < n
    · obtain ⟨r, hr⟩ : ∃ r, l[j]? = some r := ⟨_, List.getElem?_eq_getElem (by rw [← HN.out]; exact hlt)⟩
      obtain ⟨g, o, rfl, hg, hc⟩ := HA.out.below HB.out.1 j r hr
      have d0 : wr.cell? ⟨g, o + j * 2, none⟩ = some (.int .i64 r.num) := hc 0 _ rfl
      have d1 : wr.cell? ⟨g, o + j * 2 + 1, none⟩ = some (.int .i64 r.digest) := hc 1 _ rfl
      have HT := any_take (p := p) hr
      have HCC : Hid (Calls Try.prog 46 #[.agg #[.int .i64 r.num, .int .i64 r.digest], .pointer q1, .pointer q2] wr (BoolLeft wr (p r))) := HC.out r wr HB.out.1
      have HRR := Lib.hid hr
      have hj0 : (0 : Int) ≤ (j : Int) := by omega
      have hj1 : (j : Int) < (n : Int) := by omega
      rw [HB.out.2] at HT
      clear hr hc
      cases hp : p r with
      | true =>
        rw [hp] at HCC
        have HANY : Hid (l.any p = true) := any_idx HRR.out hp
        clear hp HT
        go_wp2_with fail
        refine HCC.out.mono ?_
        rintro e w1 ⟨rfl, hb1⟩
        have HB1 := Lib.hid (HB.out.1.trans (hb1.mono HB.out.1.size))
        clear hb1
        go_wp2_with fail
        go_ret
        exact ⟨(j : Int), rfl, by rw [HANY.out]; simp, HB1.out⟩
      | false =>
        rw [hp] at HCC HT
        have HTT := Lib.hid HT
        clear hp HT
        go_wp2_with fail
        refine HCC.out.mono ?_
        rintro e w1 ⟨rfl, hb1⟩
        have HB1 : Hid (Below w.heap.size w w1 ∧ (l.take (j + 1)).any p = false) := ⟨HB.out.1.trans (hb1.mono HB.out.1.size), by rw [HTT.out]; rfl⟩
        clear hb1
        go_wp2_with fail
        exact ⟨⟨j + 1, by omega, by simp, HB1⟩, by simp [intOf]; omega⟩
    · obtain rfl : j = n := by omega
      go_wp2_with fail
      go_ret
      have ht := HB.out.2
      rw [List.take_of_length_le (by rw [← HN.out]; exact Nat.le_refl _)] at ht
      exact ⟨-1, rfl, by rw [ht]; rfl, HB.out.1⟩
set_option maxRecDepth 100000 in
theorem contains_44_46 (a : Option Addr) (cap : Nat) (l : List Ran) (w : World) (q1 q2 : Option Addr) (p : Ran → Bool) (ha : Lies w a 2 ranL l) (hl : l.length ≤ 1000)
    (hc : ∀ r W, Below w.heap.size w W → Calls Try.prog 46 #[ranA r, .pointer q1, .pointer q2] W (BoolLeft W (p r))) :
    Calls Try.prog 44 #[.slice a l.length cap, .func (.func 46) #[] #[.pointer q1, .pointer q2]] w (BoolLeft w (l.any p)) := by
  have HC := Lib.hid (index_53_46 a cap l w q1 q2 p ha hl hc)
  generalize l.length = n at HC ⊢
  clear ha hc
  go_enter Try.func44, Try.ntmps44
  go_wp2_with (go_at_call 53; refine HC.out.mono ?_; rintro e w1 ⟨z, rfl, hz, hb⟩; have HZ := Lib.hid hz; have HB := Lib.hid hb; clear hz hb)
  go_ret
  exact ⟨by rw [← HZ.out]; rfl, HB.out⟩
set_option maxRecDepth 100000 in
theorem outer_45 (x : Ran) (w : World) (pm pi : Nat) (ma : Option Addr) (mcap : Nat) (m : List Ran) (hm : w.heap[pm]? = some (.cells #[.slice ma m.length mcap] 34 (0, 0))) (hi : w.heap[pi]? = some (.cells #[.func (.func 35) #[] #[]] 88 (0, 0))) (ha : Lies w ma 2 ranL m) (hl : m.length ≤ 1000) :
    Calls Try.prog 45 #[ranA x, .pointer (some ⟨pm, 0, none⟩), .pointer (some ⟨pi, 0, none⟩)] w (BoolLeft w (m.any (ranDiff x))) := by
  have q : w.cell? ⟨pm, 0, none⟩ = some (.slice ma m.length mcap) := by rw [cell_of_row _ _ _ _ _ _ hm]; rfl
  have HB0 : Hid (∀ o, Below w.heap.size w (w.alloc o)) := fun o => (Below.refl _ w).alloc (Nat.le_refl _) o
  have HC : Hid (Calls Try.prog 44 #[.slice ma m.length mcap, .func (.func 46) #[] #[.pointer (some ⟨pi, 0, none⟩), .pointer (some ⟨w.heap.size, 0, none⟩)]] (w.alloc (.cells #[.int .i64 x.num, .int .i64 x.digest] 47)) (BoolLeft (w.alloc (.cells #[.int .i64 x.num, .int .i64 x.digest] 47)) (m.any (ranDiff x)))) :=
    contains_44_46 ma mcap m _ _ _ _ (ha.below (HB0.out _)) hl fun y W hW => inner_46 y x W pi w.heap.size (((HB0.out _).block _ (lt_of_heap hi)).trans hi |> (hW.block _ (by simp; have := lt_of_heap hi; omega)).trans) ((hW.block _ (by simp)).trans (heap_alloc_new w _))
  have lm := lt_of_heap hm
  have li := lt_of_heap hi
  generalize m.length = n at q HC
  obtain ⟨b, hb⟩ : ∃ b, b = m.any (ranDiff x) := ⟨_, rfl⟩
  rw [← hb] at HC ⊢
  clear hm hi ha hb
  unfold ranA
  go_enter Try.func45, Try.ntmps45
  go_wp2_with fail
  refine HC.out.mono ?_
  rintro e w1 ⟨rfl, hb⟩
  have HB : Hid (Below w.heap.size w w1) := (HB0.out _).trans (hb.mono (by simp))
  clear hb
  go_wp2_with fail
  go_ret
  exact ⟨rfl, HB.out⟩
set_option maxRecDepth 100000 in
set_option maxHeartbeats 1600000 in
theorem index_53_45 (a : Option Addr) (cap : Nat) (l : List Ran) (w : World) (q1 q2 : Option Addr) (p : Ran → Bool) (ha : Lies w a 2 ranL l) (hl : l.length ≤ 1000)
    (hc : ∀ r W, Below w.heap.size w W → Calls Try.prog 45 #[ranA r, .pointer q1, .pointer q2] W (BoolLeft W (p r))) :
    Calls Try.prog 53 #[.slice a l.length cap, .func (.func 45) #[] #[.pointer q1, .pointer q2]] w (IdxB w (l.any p)) := by
  have HA := Lib.hid ha
  have HC := Lib.hid hc
  obtain ⟨n, hn⟩ : ∃ n, n = l.length := ⟨_, rfl⟩
  have HN := Lib.hid hn
  have hn9 : (n : Int) ≤ 1000 := by omega
  rw [← hn]
  have P0 : Hid (Below w.heap.size w w ∧ (l.take 0).any p = false) := ⟨Below.refl _ _, rfl⟩
  clear ha hc hn hl
  go_enter Try.func53, Try.ntmps53
  go_wp2_with fail
  go_loopw [8] (fun i wr => ∃ j : Nat, j ≤ n ∧ i = .int .i64 j ∧ Hid (Below w.heap.size w wr ∧ (l.take j).any p = false)) (fun i _ => n - (intOf i).toNat)
  case atStart => exact ⟨0, by omega, rfl, P0⟩
  case round =>
    clear P0
    obtain ⟨j, hj, rfl, HB⟩ := hrel
    by_cases hlt : j < n
    · obtain ⟨r, hr⟩ : ∃ r, l[j]? = some r := ⟨_, List.getElem?_eq_getElem (by rw [← HN.out]; exact hlt)⟩
      obtain ⟨g, o, rfl, hg, hc⟩ := HA.out.below HB.out.1 j r hr
      have d0 : wr.cell? ⟨g, o + j * 2, none⟩ = some (.int .i64 r.num) := hc 0 _ rfl
      have d1 : wr.cell? ⟨g, o + j * 2 + 1, none⟩ = some (.int .i64 r.digest) := hc 1 _ rfl
      have HT := any_take (p := p) hr
      have HCC : Hid (Calls Try.prog 45 #[.agg #[.int .i64 r.num, .int .i64 r.digest], .pointer q1, .pointer q2] wr (BoolLeft wr (p r))) := HC.out r wr HB.out.1
      have HRR := Lib.hid hr
      have hj0 : (0 : Int) ≤ (j : Int) := by omega
      have hj1 : (j : Int) < (n : Int) := by omega
      rw [HB.out.2] at HT
      clear hr hc
      cases hp : p r with
      | true =>
        rw [hp] at HCC
        have HANY : Hid (l.any p = true) := any_idx HRR.out hp
        clear hp HT
        go_wp2_with fail
        refine HCC.out.mono ?_
        rintro e w1 ⟨rfl, hb1⟩
        have HB1 := Lib.hid (HB.out.1.trans (hb1.mono HB.out.1.size))
        clear hb1
        go_wp2_with fail
        go_ret
        exact ⟨(j : Int), rfl, by rw [HANY.out]; simp, HB1.out⟩
      | false =>
        rw [hp] at HCC HT
        have HTT := Lib.hid HT
        clear hp HT
        go_wp2_with fail
        refine HCC.out.mono ?_
        rintro e w1 ⟨rfl, hb1⟩
        have HB1 : Hid (Below w.heap.size w w1 ∧ (l.take (j + 1)).any p = false) := ⟨HB.out.1.trans (hb1.mono HB.out.1.size), by rw [HTT.out]; rfl⟩
        clear hb1
        go_wp2_with fail
        exact ⟨⟨j + 1, by omega, by simp, HB1⟩, by simp [intOf]; omega⟩
    · obtain rfl : j = n := by omega
      go_wp2_with fail
      go_ret
      have ht := HB.out.2
      rw [List.take_of_length_le (by rw [← HN.out]; exact Nat.le_refl _)] at ht
      exact ⟨-1, rfl, by rw [ht]; rfl, HB.out.1⟩
set_option maxRecDepth 100000 in
theorem contains_44_45 (a : Option Addr) (cap : Nat) (l : List Ran) (w : World) (q1 q2 : Option Addr) (p : Ran → Bool) (ha : Lies w a 2 ranL l) (hl : l.length ≤ 1000)
    (hc : ∀ r W, Below w.heap.size w W → Calls Try.prog 45 #[ranA r, .pointer q1, .pointer q2] W (BoolLeft W (p r))) :
    Calls Try.prog 44 #[.slice a l.length cap, .func (.func 45) #[] #[.pointer q1, .pointer q2]] w (BoolLeft w (l.any p)) := by
  have HC := Lib.hid (index_53_45 a cap l w q1 q2 p ha hl hc)
  generalize l.length = n at HC ⊢
  clear ha hc
  go_enter Try.func44, Try.ntmps44
  go_wp2_with (go_at_call 53; refine HC.out.mono ?_; rintro e w1 ⟨z, rfl, hz, hb⟩; have HZ := Lib.hid hz; have HB := Lib.hid hb; clear hz hb)
  go_ret
  exact ⟨by rw [← HZ.out]; rfl, HB.out⟩
set_option maxRecDepth 100000 in
theorem cross_34 (a ma : Option Addr) (cap mcap : Nat) (l m : List Ran) (w : World) (hl : Lies w a 2 ranL l) (hm : Lies w ma 2 ranL m) (hl9 : l.length ≤ 1000) (hm9 : m.length ≤ 1000) :
    Calls Try.prog 34 #[.slice a l.length cap, .slice ma m.length mcap, .func (.func 35) #[] #[]] w (BoolLeft w (l.any fun x => m.any (ranDiff x))) := by
  obtain ⟨W, hW⟩ : ∃ W, W = (w.alloc (.cells #[.slice ma m.length mcap] 34)).alloc (.cells #[.func (.func 35) #[] #[]] 88) := ⟨_, rfl⟩
  have hbW : Below w.heap.size w W := by rw [hW]; exact ((Below.refl _ w).alloc (Nat.le_refl _) _).alloc (by simp) _
  have b0 : W.heap[w.heap.size]? = some (.cells #[.slice ma m.length mcap] 34 (0, 0)) := by rw [hW]; exact (Below.heap_alloc _ _ _ (by simp)).trans (heap_alloc_new w _)
  have b1 : W.heap[w.heap.size + 1]? = some (.cells #[.func (.func 35) #[] #[]] 88 (0, 0)) := by rw [hW]; simpa using heap_alloc_new (w.alloc (.cells #[.slice ma m.length mcap] 34)) (.cells #[.func (.func 35) #[] #[]] 88)
  have HC : Hid (Calls Try.prog 44 #[.slice a l.length cap, .func (.func 45) #[] #[.pointer (some ⟨w.heap.size, 0, none⟩), .pointer (some ⟨w.heap.size + 1, 0, none⟩)]] W (BoolLeft W (l.any fun x => m.any (ranDiff x)))) :=
    contains_44_45 a cap l W _ _ _ (hl.below hbW) hl9 fun x W' hW' => outer_45 x W' _ _ ma mcap m ((hW'.block _ (lt_of_heap b0)).trans b0) ((hW'.block _ (lt_of_heap b1)).trans b1) ((hm.below hbW).below hW') hm9
  have HBW := Lib.hid hbW
  generalize (l.any fun x => m.any (ranDiff x)) = b at HC ⊢
  generalize l.length = n at HC ⊢
  generalize m.length = mn at HC hW ⊢
  clear b0 b1 hbW hl hm
  go_enter Try.func34, Try.ntmps34
  go_wp2_with fail
  rw [← hW]
  refine HC.out.mono ?_
  rintro e w1 ⟨rfl, hb⟩
  have HB : Hid (Below w.heap.size w w1) := HBW.out.trans (hb.mono HBW.out.size)
  clear hb
  go_wp2_with fail
  go_ret
  exact ⟨rfl, HB.out⟩
set_option maxRecDepth 100000 in
theorem inner_49 (y x : Rec) (w : World) (pi px : Nat) (hi : w.heap[pi]? = some (.cells #[.func (.func 37) #[] #[]] 90 (0, 0))) (hx : w.heap[px]? = some (.cells #[.int .i64 x.txn, .int .i64 x.state, .slice x.keys.a x.keys.n x.keys.cap, .slice x.shards.a x.shards.n x.shards.cap, .slice x.voted.a x.voted.n x.voted.cap, .slice x.roots.a x.roots.n x.roots.cap, .int .i64 x.client, .int .i64 x.num, .slice x.reads.a x.reads.n x.reads.cap, .slice x.writes.a x.writes.n x.writes.cap] 59 (0, 0))) :
    Calls Try.prog 49 #[recA y, .pointer (some ⟨pi, 0, none⟩), .pointer (some ⟨px, 0, none⟩)] w (BoolLeft w (recDiff x y)) := by
  have q : w.cell? ⟨pi, 0, none⟩ = some (.func (.func 37) #[] #[]) := by rw [cell_of_row _ _ _ _ _ _ hi]; rfl
  have x0 : w.cell? ⟨px, 0, none⟩ = some (.int .i64 x.txn) := by rw [cell_of_row _ _ _ _ _ _ hx]; rfl
  have x1 : w.cell? ⟨px, 1, none⟩ = some (.int .i64 x.state) := by rw [cell_of_row _ _ _ _ _ _ hx]; rfl
  have x2 : w.cell? ⟨px, 2, none⟩ = some (.slice x.keys.a x.keys.n x.keys.cap) := by rw [cell_of_row _ _ _ _ _ _ hx]; rfl
  have x3 : w.cell? ⟨px, 3, none⟩ = some (.slice x.shards.a x.shards.n x.shards.cap) := by rw [cell_of_row _ _ _ _ _ _ hx]; rfl
  have x4 : w.cell? ⟨px, 4, none⟩ = some (.slice x.voted.a x.voted.n x.voted.cap) := by rw [cell_of_row _ _ _ _ _ _ hx]; rfl
  have x5 : w.cell? ⟨px, 5, none⟩ = some (.slice x.roots.a x.roots.n x.roots.cap) := by rw [cell_of_row _ _ _ _ _ _ hx]; rfl
  have x6 : w.cell? ⟨px, 6, none⟩ = some (.int .i64 x.client) := by rw [cell_of_row _ _ _ _ _ _ hx]; rfl
  have x7 : w.cell? ⟨px, 7, none⟩ = some (.int .i64 x.num) := by rw [cell_of_row _ _ _ _ _ _ hx]; rfl
  have x8 : w.cell? ⟨px, 8, none⟩ = some (.slice x.reads.a x.reads.n x.reads.cap) := by rw [cell_of_row _ _ _ _ _ _ hx]; rfl
  have x9 : w.cell? ⟨px, 9, none⟩ = some (.slice x.writes.a x.writes.n x.writes.cap) := by rw [cell_of_row _ _ _ _ _ _ hx]; rfl
  have HC : Hid (∀ W, Calls Try.prog 37 #[.agg #[.int .i64 x.txn, .int .i64 x.state, .slice x.keys.a x.keys.n x.keys.cap, .slice x.shards.a x.shards.n x.shards.cap, .slice x.voted.a x.voted.n x.voted.cap, .slice x.roots.a x.roots.n x.roots.cap, .int .i64 x.client, .int .i64 x.num, .slice x.reads.a x.reads.n x.reads.cap, .slice x.writes.a x.writes.n x.writes.cap], .agg #[.int .i64 y.txn, .int .i64 y.state, .slice y.keys.a y.keys.n y.keys.cap, .slice y.shards.a y.shards.n y.shards.cap, .slice y.voted.a y.voted.n y.voted.cap, .slice y.roots.a y.roots.n y.roots.cap, .int .i64 y.client, .int .i64 y.num, .slice y.reads.a y.reads.n y.reads.cap, .slice y.writes.a y.writes.n y.writes.cap]] W (BoolLeft W (recDiff x y))) := fun W => is_37 x y W
  have li := lt_of_heap hi
  have lx := lt_of_heap hx
  have HB0 : Hid (∀ o, Below w.heap.size w (w.alloc o)) := fun o => (Below.refl _ w).alloc (Nat.le_refl _) o
  obtain ⟨b, hb⟩ : ∃ b, b = recDiff x y := ⟨_, rfl⟩
  rw [← hb] at HC ⊢
  clear hi hx hb
  unfold recA
  go_enter Try.func49, Try.ntmps49
  go_wp2_with fail
  refine (HC.out _).mono ?_
  rintro e w1 ⟨rfl, hb⟩
  have HB : Hid (Below w.heap.size w w1) := (HB0.out _).trans (hb.mono (by simp))
  clear hb
  go_wp2_with fail
  go_ret
  exact ⟨rfl, HB.out⟩
set_option maxRecDepth 100000 in
set_option maxHeartbeats 1600000 in
theorem index_25_49 (a : Option Addr) (cap : Nat) (l : List Rec) (w : World) (q1 q2 : Option Addr) (p : Rec → Bool) (ha : Lies w a 10 recL l) (hl : l.length ≤ 1000)
    (hc : ∀ r W, Below w.heap.size w W → Calls Try.prog 49 #[recA r, .pointer q1, .pointer q2] W (BoolLeft W (p r))) :
    Calls Try.prog 25 #[.slice a l.length cap, .func (.func 49) #[] #[.pointer q1, .pointer q2]] w (IdxB w (l.any p)) := by
  have HA := Lib.hid ha
  have HC := Lib.hid hc
  obtain ⟨n, hn⟩ : ∃ n, n = l.length := ⟨_, rfl⟩
  have HN := Lib.hid hn
  have hn9 : (n : Int) ≤ 1000 := by omega
  rw [← hn]
  have P0 : Hid (Below w.heap.size w w ∧ (l.take 0).any p = false) := ⟨Below.refl _ _, rfl⟩
  clear ha hc hn hl
  go_enter Try.func25, Try.ntmps25
  go_wp2_with fail
  go_loopw [8] (fun i wr => ∃ j : Nat, j ≤ n ∧ i = .int .i64 j ∧ Hid (Below w.heap.size w wr ∧ (l.take j).any p = false)) (fun i _ => n - (intOf i).toNat)
  case atStart => exact ⟨0, by omega, rfl, P0⟩
  case round =>
    clear P0
    obtain ⟨j, hj, rfl, HB⟩ := hrel
    by_cases hlt : j < n
    · obtain ⟨r, hr⟩ : ∃ r, l[j]? = some r := ⟨_, List.getElem?_eq_getElem (by rw [← HN.out]; exact hlt)⟩
      obtain ⟨g, o, rfl, hg, hc⟩ := HA.out.below HB.out.1 j r hr
      have d0 : wr.cell? ⟨g, o + j * 10, none⟩ = some (.int .i64 r.txn) := hc 0 _ rfl
      have d1 : wr.cell? ⟨g, o + j * 10 + 1, none⟩ = some (.int .i64 r.state) := hc 1 _ rfl
      have d2 : wr.cell? ⟨g, o + j * 10 + 2, none⟩ = some (.slice r.keys.a r.keys.n r.keys.cap) := hc 2 _ rfl
      have d3 : wr.cell? ⟨g, o + j * 10 + 3, none⟩ = some (.slice r.shards.a r.shards.n r.shards.cap) := hc 3 _ rfl
      have d4 : wr.cell? ⟨g, o + j * 10 + 4, none⟩ = some (.slice r.voted.a r.voted.n r.voted.cap) := hc 4 _ rfl
      have d5 : wr.cell? ⟨g, o + j * 10 + 5, none⟩ = some (.slice r.roots.a r.roots.n r.roots.cap) := hc 5 _ rfl
      have d6 : wr.cell? ⟨g, o + j * 10 + 6, none⟩ = some (.int .i64 r.client) := hc 6 _ rfl
      have d7 : wr.cell? ⟨g, o + j * 10 + 7, none⟩ = some (.int .i64 r.num) := hc 7 _ rfl
      have d8 : wr.cell? ⟨g, o + j * 10 + 8, none⟩ = some (.slice r.reads.a r.reads.n r.reads.cap) := hc 8 _ rfl
      have d9 : wr.cell? ⟨g, o + j * 10 + 9, none⟩ = some (.slice r.writes.a r.writes.n r.writes.cap) := hc 9 _ rfl
      have HT := any_take (p := p) hr
      have HCC : Hid (Calls Try.prog 49 #[.agg #[.int .i64 r.txn, .int .i64 r.state, .slice r.keys.a r.keys.n r.keys.cap, .slice r.shards.a r.shards.n r.shards.cap, .slice r.voted.a r.voted.n r.voted.cap, .slice r.roots.a r.roots.n r.roots.cap, .int .i64 r.client, .int .i64 r.num, .slice r.reads.a r.reads.n r.reads.cap, .slice r.writes.a r.writes.n r.writes.cap], .pointer q1, .pointer q2] wr (BoolLeft wr (p r))) := HC.out r wr HB.out.1
      have HRR := Lib.hid hr
      have hj0 : (0 : Int) ≤ (j : Int) := by omega
      have hj1 : (j : Int) < (n : Int) := by omega
      rw [HB.out.2] at HT
      clear hr hc
      cases hp : p r with
      | true =>
        rw [hp] at HCC
        have HANY : Hid (l.any p = true) := any_idx HRR.out hp
        clear hp HT
        go_wp2_with fail
        refine HCC.out.mono ?_
        rintro e w1 ⟨rfl, hb1⟩
        have HB1 := Lib.hid (HB.out.1.trans (hb1.mono HB.out.1.size))
        clear hb1
        go_wp2_with fail
        go_ret
        exact ⟨(j : Int), rfl, by rw [HANY.out]; simp, HB1.out⟩
      | false =>
        rw [hp] at HCC HT
        have HTT := Lib.hid HT
        clear hp HT
        go_wp2_with fail
        refine HCC.out.mono ?_
        rintro e w1 ⟨rfl, hb1⟩
        have HB1 : Hid (Below w.heap.size w w1 ∧ (l.take (j + 1)).any p = false) := ⟨HB.out.1.trans (hb1.mono HB.out.1.size), by rw [HTT.out]; rfl⟩
        clear hb1
        go_wp2_with fail
        exact ⟨⟨j + 1, by omega, by simp, HB1⟩, by simp [intOf]; omega⟩
    · obtain rfl : j = n := by omega
      go_wp2_with fail
      go_ret
      have ht := HB.out.2
      rw [List.take_of_length_le (by rw [← HN.out]; exact Nat.le_refl _)] at ht
      exact ⟨-1, rfl, by rw [ht]; rfl, HB.out.1⟩
set_option maxRecDepth 100000 in
theorem contains_47_49 (a : Option Addr) (cap : Nat) (l : List Rec) (w : World) (q1 q2 : Option Addr) (p : Rec → Bool) (ha : Lies w a 10 recL l) (hl : l.length ≤ 1000)
    (hc : ∀ r W, Below w.heap.size w W → Calls Try.prog 49 #[recA r, .pointer q1, .pointer q2] W (BoolLeft W (p r))) :
    Calls Try.prog 47 #[.slice a l.length cap, .func (.func 49) #[] #[.pointer q1, .pointer q2]] w (BoolLeft w (l.any p)) := by
  have HC := Lib.hid (index_25_49 a cap l w q1 q2 p ha hl hc)
  generalize l.length = n at HC ⊢
  clear ha hc
  go_enter Try.func47, Try.ntmps47
  go_wp2_with (go_at_call 25; refine HC.out.mono ?_; rintro e w1 ⟨z, rfl, hz, hb⟩; have HZ := Lib.hid hz; have HB := Lib.hid hb; clear hz hb)
  go_ret
  exact ⟨by rw [← HZ.out]; rfl, HB.out⟩
set_option maxRecDepth 100000 in
theorem outer_48 (x : Rec) (w : World) (pm pi : Nat) (ma : Option Addr) (mcap : Nat) (m : List Rec) (hm : w.heap[pm]? = some (.cells #[.slice ma m.length mcap] 36 (0, 0))) (hi : w.heap[pi]? = some (.cells #[.func (.func 37) #[] #[]] 90 (0, 0))) (ha : Lies w ma 10 recL m) (hl : m.length ≤ 1000) :
    Calls Try.prog 48 #[recA x, .pointer (some ⟨pm, 0, none⟩), .pointer (some ⟨pi, 0, none⟩)] w (BoolLeft w (m.any (recDiff x))) := by
  have q : w.cell? ⟨pm, 0, none⟩ = some (.slice ma m.length mcap) := by rw [cell_of_row _ _ _ _ _ _ hm]; rfl
  have HB0 : Hid (∀ o, Below w.heap.size w (w.alloc o)) := fun o => (Below.refl _ w).alloc (Nat.le_refl _) o
  have HC : Hid (Calls Try.prog 47 #[.slice ma m.length mcap, .func (.func 49) #[] #[.pointer (some ⟨pi, 0, none⟩), .pointer (some ⟨w.heap.size, 0, none⟩)]] (w.alloc (.cells #[.int .i64 x.txn, .int .i64 x.state, .slice x.keys.a x.keys.n x.keys.cap, .slice x.shards.a x.shards.n x.shards.cap, .slice x.voted.a x.voted.n x.voted.cap, .slice x.roots.a x.roots.n x.roots.cap, .int .i64 x.client, .int .i64 x.num, .slice x.reads.a x.reads.n x.reads.cap, .slice x.writes.a x.writes.n x.writes.cap] 59)) (BoolLeft (w.alloc (.cells #[.int .i64 x.txn, .int .i64 x.state, .slice x.keys.a x.keys.n x.keys.cap, .slice x.shards.a x.shards.n x.shards.cap, .slice x.voted.a x.voted.n x.voted.cap, .slice x.roots.a x.roots.n x.roots.cap, .int .i64 x.client, .int .i64 x.num, .slice x.reads.a x.reads.n x.reads.cap, .slice x.writes.a x.writes.n x.writes.cap] 59)) (m.any (recDiff x)))) :=
    contains_47_49 ma mcap m _ _ _ _ (ha.below (HB0.out _)) hl fun y W hW => inner_49 y x W pi w.heap.size (((HB0.out _).block _ (lt_of_heap hi)).trans hi |> (hW.block _ (by simp; have := lt_of_heap hi; omega)).trans) ((hW.block _ (by simp)).trans (heap_alloc_new w _))
  have lm := lt_of_heap hm
  have li := lt_of_heap hi
  generalize m.length = n at q HC
  obtain ⟨b, hb⟩ : ∃ b, b = m.any (recDiff x) := ⟨_, rfl⟩
  rw [← hb] at HC ⊢
  clear hm hi ha hb
  unfold recA
  go_enter Try.func48, Try.ntmps48
  go_wp2_with fail
  refine HC.out.mono ?_
  rintro e w1 ⟨rfl, hb⟩
  have HB : Hid (Below w.heap.size w w1) := (HB0.out _).trans (hb.mono (by simp))
  clear hb
  go_wp2_with fail
  go_ret
  exact ⟨rfl, HB.out⟩
set_option maxRecDepth 100000 in
set_option maxHeartbeats 1600000 in
theorem index_25_48 (a : Option Addr) (cap : Nat) (l : List Rec) (w : World) (q1 q2 : Option Addr) (p : Rec → Bool) (ha : Lies w a 10 recL l) (hl : l.length ≤ 1000)
    (hc : ∀ r W, Below w.heap.size w W → Calls Try.prog 48 #[recA r, .pointer q1, .pointer q2] W (BoolLeft W (p r))) :
    Calls Try.prog 25 #[.slice a l.length cap, .func (.func 48) #[] #[.pointer q1, .pointer q2]] w (IdxB w (l.any p)) := by
  have HA := Lib.hid ha
  have HC := Lib.hid hc
  obtain ⟨n, hn⟩ : ∃ n, n = l.length := ⟨_, rfl⟩
  have HN := Lib.hid hn
  have hn9 : (n : Int) ≤ 1000 := by omega
  rw [← hn]
  have P0 : Hid (Below w.heap.size w w ∧ (l.take 0).any p = false) := ⟨Below.refl _ _, rfl⟩
  clear ha hc hn hl
  go_enter Try.func25, Try.ntmps25
  go_wp2_with fail
  go_loopw [8] (fun i wr => ∃ j : Nat, j ≤ n ∧ i = .int .i64 j ∧ Hid (Below w.heap.size w wr ∧ (l.take j).any p = false)) (fun i _ => n - (intOf i).toNat)
  case atStart => exact ⟨0, by omega, rfl, P0⟩
  case round =>
    clear P0
    obtain ⟨j, hj, rfl, HB⟩ := hrel
    by_cases hlt : j < n
    · obtain ⟨r, hr⟩ : ∃ r, l[j]? = some r := ⟨_, List.getElem?_eq_getElem (by rw [← HN.out]; exact hlt)⟩
      obtain ⟨g, o, rfl, hg, hc⟩ := HA.out.below HB.out.1 j r hr
      have d0 : wr.cell? ⟨g, o + j * 10, none⟩ = some (.int .i64 r.txn) := hc 0 _ rfl
      have d1 : wr.cell? ⟨g, o + j * 10 + 1, none⟩ = some (.int .i64 r.state) := hc 1 _ rfl
      have d2 : wr.cell? ⟨g, o + j * 10 + 2, none⟩ = some (.slice r.keys.a r.keys.n r.keys.cap) := hc 2 _ rfl
      have d3 : wr.cell? ⟨g, o + j * 10 + 3, none⟩ = some (.slice r.shards.a r.shards.n r.shards.cap) := hc 3 _ rfl
      have d4 : wr.cell? ⟨g, o + j * 10 + 4, none⟩ = some (.slice r.voted.a r.voted.n r.voted.cap) := hc 4 _ rfl
      have d5 : wr.cell? ⟨g, o + j * 10 + 5, none⟩ = some (.slice r.roots.a r.roots.n r.roots.cap) := hc 5 _ rfl
      have d6 : wr.cell? ⟨g, o + j * 10 + 6, none⟩ = some (.int .i64 r.client) := hc 6 _ rfl
      have d7 : wr.cell? ⟨g, o + j * 10 + 7, none⟩ = some (.int .i64 r.num) := hc 7 _ rfl
      have d8 : wr.cell? ⟨g, o + j * 10 + 8, none⟩ = some (.slice r.reads.a r.reads.n r.reads.cap) := hc 8 _ rfl
      have d9 : wr.cell? ⟨g, o + j * 10 + 9, none⟩ = some (.slice r.writes.a r.writes.n r.writes.cap) := hc 9 _ rfl
      have HT := any_take (p := p) hr
      have HCC : Hid (Calls Try.prog 48 #[.agg #[.int .i64 r.txn, .int .i64 r.state, .slice r.keys.a r.keys.n r.keys.cap, .slice r.shards.a r.shards.n r.shards.cap, .slice r.voted.a r.voted.n r.voted.cap, .slice r.roots.a r.roots.n r.roots.cap, .int .i64 r.client, .int .i64 r.num, .slice r.reads.a r.reads.n r.reads.cap, .slice r.writes.a r.writes.n r.writes.cap], .pointer q1, .pointer q2] wr (BoolLeft wr (p r))) := HC.out r wr HB.out.1
      have HRR := Lib.hid hr
      have hj0 : (0 : Int) ≤ (j : Int) := by omega
      have hj1 : (j : Int) < (n : Int) := by omega
      rw [HB.out.2] at HT
      clear hr hc
      cases hp : p r with
      | true =>
        rw [hp] at HCC
        have HANY : Hid (l.any p = true) := any_idx HRR.out hp
        clear hp HT
        go_wp2_with fail
        refine HCC.out.mono ?_
        rintro e w1 ⟨rfl, hb1⟩
        have HB1 := Lib.hid (HB.out.1.trans (hb1.mono HB.out.1.size))
        clear hb1
        go_wp2_with fail
        go_ret
        exact ⟨(j : Int), rfl, by rw [HANY.out]; simp, HB1.out⟩
      | false =>
        rw [hp] at HCC HT
        have HTT := Lib.hid HT
        clear hp HT
        go_wp2_with fail
        refine HCC.out.mono ?_
        rintro e w1 ⟨rfl, hb1⟩
        have HB1 : Hid (Below w.heap.size w w1 ∧ (l.take (j + 1)).any p = false) := ⟨HB.out.1.trans (hb1.mono HB.out.1.size), by rw [HTT.out]; rfl⟩
        clear hb1
        go_wp2_with fail
        exact ⟨⟨j + 1, by omega, by simp, HB1⟩, by simp [intOf]; omega⟩
    · obtain rfl : j = n := by omega
      go_wp2_with fail
      go_ret
      have ht := HB.out.2
      rw [List.take_of_length_le (by rw [← HN.out]; exact Nat.le_refl _)] at ht
      exact ⟨-1, rfl, by rw [ht]; rfl, HB.out.1⟩
set_option maxRecDepth 100000 in
theorem contains_47_48 (a : Option Addr) (cap : Nat) (l : List Rec) (w : World) (q1 q2 : Option Addr) (p : Rec → Bool) (ha : Lies w a 10 recL l) (hl : l.length ≤ 1000)
    (hc : ∀ r W, Below w.heap.size w W → Calls Try.prog 48 #[recA r, .pointer q1, .pointer q2] W (BoolLeft W (p r))) :
    Calls Try.prog 47 #[.slice a l.length cap, .func (.func 48) #[] #[.pointer q1, .pointer q2]] w (BoolLeft w (l.any p)) := by
  have HC := Lib.hid (index_25_48 a cap l w q1 q2 p ha hl hc)
  generalize l.length = n at HC ⊢
  clear ha hc
  go_enter Try.func47, Try.ntmps47
  go_wp2_with (go_at_call 25; refine HC.out.mono ?_; rintro e w1 ⟨z, rfl, hz, hb⟩; have HZ := Lib.hid hz; have HB := Lib.hid hb; clear hz hb)
  go_ret
  exact ⟨by rw [← HZ.out]; rfl, HB.out⟩
set_option maxRecDepth 100000 in
theorem cross_36 (a ma : Option Addr) (cap mcap : Nat) (l m : List Rec) (w : World) (hl : Lies w a 10 recL l) (hm : Lies w ma 10 recL m) (hl9 : l.length ≤ 1000) (hm9 : m.length ≤ 1000) :
    Calls Try.prog 36 #[.slice a l.length cap, .slice ma m.length mcap, .func (.func 37) #[] #[]] w (BoolLeft w (l.any fun x => m.any (recDiff x))) := by
  obtain ⟨W, hW⟩ : ∃ W, W = (w.alloc (.cells #[.slice ma m.length mcap] 36)).alloc (.cells #[.func (.func 37) #[] #[]] 90) := ⟨_, rfl⟩
  have hbW : Below w.heap.size w W := by rw [hW]; exact ((Below.refl _ w).alloc (Nat.le_refl _) _).alloc (by simp) _
  have b0 : W.heap[w.heap.size]? = some (.cells #[.slice ma m.length mcap] 36 (0, 0)) := by rw [hW]; exact (Below.heap_alloc _ _ _ (by simp)).trans (heap_alloc_new w _)
  have b1 : W.heap[w.heap.size + 1]? = some (.cells #[.func (.func 37) #[] #[]] 90 (0, 0)) := by rw [hW]; simpa using heap_alloc_new (w.alloc (.cells #[.slice ma m.length mcap] 36)) (.cells #[.func (.func 37) #[] #[]] 90)
  have HC : Hid (Calls Try.prog 47 #[.slice a l.length cap, .func (.func 48) #[] #[.pointer (some ⟨w.heap.size, 0, none⟩), .pointer (some ⟨w.heap.size + 1, 0, none⟩)]] W (BoolLeft W (l.any fun x => m.any (recDiff x)))) :=
    contains_47_48 a cap l W _ _ _ (hl.below hbW) hl9 fun x W' hW' => outer_48 x W' _ _ ma mcap m ((hW'.block _ (lt_of_heap b0)).trans b0) ((hW'.block _ (lt_of_heap b1)).trans b1) ((hm.below hbW).below hW') hm9
  have HBW := Lib.hid hbW
  generalize (l.any fun x => m.any (recDiff x)) = b at HC ⊢
  generalize l.length = n at HC ⊢
  generalize m.length = mn at HC hW ⊢
  clear b0 b1 hbW hl hm
  go_enter Try.func36, Try.ntmps36
  go_wp2_with fail
  rw [← hW]
  refine HC.out.mono ?_
  rintro e w1 ⟨rfl, hb⟩
  have HB : Hid (Below w.heap.size w w1) := HBW.out.trans (hb.mono HBW.out.size)
  clear hb
  go_wp2_with fail
  go_ret
  exact ⟨rfl, HB.out⟩
set_option maxRecDepth 100000 in
theorem inner_52 (y x : Hel) (w : World) (pi px : Nat) (hi : w.heap[pi]? = some (.cells #[.func (.func 39) #[] #[]] 92 (0, 0))) (hx : w.heap[px]? = some (.cells #[.string x.frm, .string x.upto, .int .i64 x.epoch, .bool x.frozen, .int .i64 x.target] 49 (0, 0))) :
    Calls Try.prog 52 #[helA y, .pointer (some ⟨pi, 0, none⟩), .pointer (some ⟨px, 0, none⟩)] w (BoolLeft w (helDiff x y)) := by
  have q : w.cell? ⟨pi, 0, none⟩ = some (.func (.func 39) #[] #[]) := by rw [cell_of_row _ _ _ _ _ _ hi]; rfl
  have x0 : w.cell? ⟨px, 0, none⟩ = some (.string x.frm) := by rw [cell_of_row _ _ _ _ _ _ hx]; rfl
  have x1 : w.cell? ⟨px, 1, none⟩ = some (.string x.upto) := by rw [cell_of_row _ _ _ _ _ _ hx]; rfl
  have x2 : w.cell? ⟨px, 2, none⟩ = some (.int .i64 x.epoch) := by rw [cell_of_row _ _ _ _ _ _ hx]; rfl
  have x3 : w.cell? ⟨px, 3, none⟩ = some (.bool x.frozen) := by rw [cell_of_row _ _ _ _ _ _ hx]; rfl
  have x4 : w.cell? ⟨px, 4, none⟩ = some (.int .i64 x.target) := by rw [cell_of_row _ _ _ _ _ _ hx]; rfl
  have HC : Hid (∀ W, Calls Try.prog 39 #[.agg #[.string x.frm, .string x.upto, .int .i64 x.epoch, .bool x.frozen, .int .i64 x.target], .agg #[.string y.frm, .string y.upto, .int .i64 y.epoch, .bool y.frozen, .int .i64 y.target]] W (BoolLeft W (helDiff x y))) := fun W => is_39 x y W
  have li := lt_of_heap hi
  have lx := lt_of_heap hx
  have HB0 : Hid (∀ o, Below w.heap.size w (w.alloc o)) := fun o => (Below.refl _ w).alloc (Nat.le_refl _) o
  obtain ⟨b, hb⟩ : ∃ b, b = helDiff x y := ⟨_, rfl⟩
  rw [← hb] at HC ⊢
  clear hi hx hb
  unfold helA
  go_enter Try.func52, Try.ntmps52
  go_wp2_with fail
  refine (HC.out _).mono ?_
  rintro e w1 ⟨rfl, hb⟩
  have HB : Hid (Below w.heap.size w w1) := (HB0.out _).trans (hb.mono (by simp))
  clear hb
  go_wp2_with fail
  go_ret
  exact ⟨rfl, HB.out⟩
set_option maxRecDepth 100000 in
set_option maxHeartbeats 1600000 in
theorem index_54_52 (a : Option Addr) (cap : Nat) (l : List Hel) (w : World) (q1 q2 : Option Addr) (p : Hel → Bool) (ha : Lies w a 5 helL l) (hl : l.length ≤ 1000)
    (hc : ∀ r W, Below w.heap.size w W → Calls Try.prog 52 #[helA r, .pointer q1, .pointer q2] W (BoolLeft W (p r))) :
    Calls Try.prog 54 #[.slice a l.length cap, .func (.func 52) #[] #[.pointer q1, .pointer q2]] w (IdxB w (l.any p)) := by
  have HA := Lib.hid ha
  have HC := Lib.hid hc
  obtain ⟨n, hn⟩ : ∃ n, n = l.length := ⟨_, rfl⟩
  have HN := Lib.hid hn
  have hn9 : (n : Int) ≤ 1000 := by omega
  rw [← hn]
  have P0 : Hid (Below w.heap.size w w ∧ (l.take 0).any p = false) := ⟨Below.refl _ _, rfl⟩
  clear ha hc hn hl
  go_enter Try.func54, Try.ntmps54
  go_wp2_with fail
  go_loopw [8] (fun i wr => ∃ j : Nat, j ≤ n ∧ i = .int .i64 j ∧ Hid (Below w.heap.size w wr ∧ (l.take j).any p = false)) (fun i _ => n - (intOf i).toNat)
  case atStart => exact ⟨0, by omega, rfl, P0⟩
  case round =>
    clear P0
    obtain ⟨j, hj, rfl, HB⟩ := hrel
    by_cases hlt : j < n
    · obtain ⟨r, hr⟩ : ∃ r, l[j]? = some r := ⟨_, List.getElem?_eq_getElem (by rw [← HN.out]; exact hlt)⟩
      obtain ⟨g, o, rfl, hg, hc⟩ := HA.out.below HB.out.1 j r hr
      have d0 : wr.cell? ⟨g, o + j * 5, none⟩ = some (.string r.frm) := hc 0 _ rfl
      have d1 : wr.cell? ⟨g, o + j * 5 + 1, none⟩ = some (.string r.upto) := hc 1 _ rfl
      have d2 : wr.cell? ⟨g, o + j * 5 + 2, none⟩ = some (.int .i64 r.epoch) := hc 2 _ rfl
      have d3 : wr.cell? ⟨g, o + j * 5 + 3, none⟩ = some (.bool r.frozen) := hc 3 _ rfl
      have d4 : wr.cell? ⟨g, o + j * 5 + 4, none⟩ = some (.int .i64 r.target) := hc 4 _ rfl
      have HT := any_take (p := p) hr
      have HCC : Hid (Calls Try.prog 52 #[.agg #[.string r.frm, .string r.upto, .int .i64 r.epoch, .bool r.frozen, .int .i64 r.target], .pointer q1, .pointer q2] wr (BoolLeft wr (p r))) := HC.out r wr HB.out.1
      have HRR := Lib.hid hr
      have hj0 : (0 : Int) ≤ (j : Int) := by omega
      have hj1 : (j : Int) < (n : Int) := by omega
      rw [HB.out.2] at HT
      clear hr hc
      cases hp : p r with
      | true =>
        rw [hp] at HCC
        have HANY : Hid (l.any p = true) := any_idx HRR.out hp
        clear hp HT
        go_wp2_with fail
        refine HCC.out.mono ?_
        rintro e w1 ⟨rfl, hb1⟩
        have HB1 := Lib.hid (HB.out.1.trans (hb1.mono HB.out.1.size))
        clear hb1
        go_wp2_with fail
        go_ret
        exact ⟨(j : Int), rfl, by rw [HANY.out]; simp, HB1.out⟩
      | false =>
        rw [hp] at HCC HT
        have HTT := Lib.hid HT
        clear hp HT
        go_wp2_with fail
        refine HCC.out.mono ?_
        rintro e w1 ⟨rfl, hb1⟩
        have HB1 : Hid (Below w.heap.size w w1 ∧ (l.take (j + 1)).any p = false) := ⟨HB.out.1.trans (hb1.mono HB.out.1.size), by rw [HTT.out]; rfl⟩
        clear hb1
        go_wp2_with fail
        exact ⟨⟨j + 1, by omega, by simp, HB1⟩, by simp [intOf]; omega⟩
    · obtain rfl : j = n := by omega
      go_wp2_with fail
      go_ret
      have ht := HB.out.2
      rw [List.take_of_length_le (by rw [← HN.out]; exact Nat.le_refl _)] at ht
      exact ⟨-1, rfl, by rw [ht]; rfl, HB.out.1⟩
set_option maxRecDepth 100000 in
theorem contains_50_52 (a : Option Addr) (cap : Nat) (l : List Hel) (w : World) (q1 q2 : Option Addr) (p : Hel → Bool) (ha : Lies w a 5 helL l) (hl : l.length ≤ 1000)
    (hc : ∀ r W, Below w.heap.size w W → Calls Try.prog 52 #[helA r, .pointer q1, .pointer q2] W (BoolLeft W (p r))) :
    Calls Try.prog 50 #[.slice a l.length cap, .func (.func 52) #[] #[.pointer q1, .pointer q2]] w (BoolLeft w (l.any p)) := by
  have HC := Lib.hid (index_54_52 a cap l w q1 q2 p ha hl hc)
  generalize l.length = n at HC ⊢
  clear ha hc
  go_enter Try.func50, Try.ntmps50
  go_wp2_with (go_at_call 54; refine HC.out.mono ?_; rintro e w1 ⟨z, rfl, hz, hb⟩; have HZ := Lib.hid hz; have HB := Lib.hid hb; clear hz hb)
  go_ret
  exact ⟨by rw [← HZ.out]; rfl, HB.out⟩
set_option maxRecDepth 100000 in
theorem outer_51 (x : Hel) (w : World) (pm pi : Nat) (ma : Option Addr) (mcap : Nat) (m : List Hel) (hm : w.heap[pm]? = some (.cells #[.slice ma m.length mcap] 38 (0, 0))) (hi : w.heap[pi]? = some (.cells #[.func (.func 39) #[] #[]] 92 (0, 0))) (ha : Lies w ma 5 helL m) (hl : m.length ≤ 1000) :
    Calls Try.prog 51 #[helA x, .pointer (some ⟨pm, 0, none⟩), .pointer (some ⟨pi, 0, none⟩)] w (BoolLeft w (m.any (helDiff x))) := by
  have q : w.cell? ⟨pm, 0, none⟩ = some (.slice ma m.length mcap) := by rw [cell_of_row _ _ _ _ _ _ hm]; rfl
  have HB0 : Hid (∀ o, Below w.heap.size w (w.alloc o)) := fun o => (Below.refl _ w).alloc (Nat.le_refl _) o
  have HC : Hid (Calls Try.prog 50 #[.slice ma m.length mcap, .func (.func 52) #[] #[.pointer (some ⟨pi, 0, none⟩), .pointer (some ⟨w.heap.size, 0, none⟩)]] (w.alloc (.cells #[.string x.frm, .string x.upto, .int .i64 x.epoch, .bool x.frozen, .int .i64 x.target] 49)) (BoolLeft (w.alloc (.cells #[.string x.frm, .string x.upto, .int .i64 x.epoch, .bool x.frozen, .int .i64 x.target] 49)) (m.any (helDiff x)))) :=
    contains_50_52 ma mcap m _ _ _ _ (ha.below (HB0.out _)) hl fun y W hW => inner_52 y x W pi w.heap.size (((HB0.out _).block _ (lt_of_heap hi)).trans hi |> (hW.block _ (by simp; have := lt_of_heap hi; omega)).trans) ((hW.block _ (by simp)).trans (heap_alloc_new w _))
  have lm := lt_of_heap hm
  have li := lt_of_heap hi
  generalize m.length = n at q HC
  obtain ⟨b, hb⟩ : ∃ b, b = m.any (helDiff x) := ⟨_, rfl⟩
  rw [← hb] at HC ⊢
  clear hm hi ha hb
  unfold helA
  go_enter Try.func51, Try.ntmps51
  go_wp2_with fail
  refine HC.out.mono ?_
  rintro e w1 ⟨rfl, hb⟩
  have HB : Hid (Below w.heap.size w w1) := (HB0.out _).trans (hb.mono (by simp))
  clear hb
  go_wp2_with fail
  go_ret
  exact ⟨rfl, HB.out⟩
set_option maxRecDepth 100000 in
set_option maxHeartbeats 1600000 in
theorem index_54_51 (a : Option Addr) (cap : Nat) (l : List Hel) (w : World) (q1 q2 : Option Addr) (p : Hel → Bool) (ha : Lies w a 5 helL l) (hl : l.length ≤ 1000)
    (hc : ∀ r W, Below w.heap.size w W → Calls Try.prog 51 #[helA r, .pointer q1, .pointer q2] W (BoolLeft W (p r))) :
    Calls Try.prog 54 #[.slice a l.length cap, .func (.func 51) #[] #[.pointer q1, .pointer q2]] w (IdxB w (l.any p)) := by
  have HA := Lib.hid ha
  have HC := Lib.hid hc
  obtain ⟨n, hn⟩ : ∃ n, n = l.length := ⟨_, rfl⟩
  have HN := Lib.hid hn
  have hn9 : (n : Int) ≤ 1000 := by omega
  rw [← hn]
  have P0 : Hid (Below w.heap.size w w ∧ (l.take 0).any p = false) := ⟨Below.refl _ _, rfl⟩
  clear ha hc hn hl
  go_enter Try.func54, Try.ntmps54
  go_wp2_with fail
  go_loopw [8] (fun i wr => ∃ j : Nat, j ≤ n ∧ i = .int .i64 j ∧ Hid (Below w.heap.size w wr ∧ (l.take j).any p = false)) (fun i _ => n - (intOf i).toNat)
  case atStart => exact ⟨0, by omega, rfl, P0⟩
  case round =>
    clear P0
    obtain ⟨j, hj, rfl, HB⟩ := hrel
    by_cases hlt : j < n
    · obtain ⟨r, hr⟩ : ∃ r, l[j]? = some r := ⟨_, List.getElem?_eq_getElem (by rw [← HN.out]; exact hlt)⟩
      obtain ⟨g, o, rfl, hg, hc⟩ := HA.out.below HB.out.1 j r hr
      have d0 : wr.cell? ⟨g, o + j * 5, none⟩ = some (.string r.frm) := hc 0 _ rfl
      have d1 : wr.cell? ⟨g, o + j * 5 + 1, none⟩ = some (.string r.upto) := hc 1 _ rfl
      have d2 : wr.cell? ⟨g, o + j * 5 + 2, none⟩ = some (.int .i64 r.epoch) := hc 2 _ rfl
      have d3 : wr.cell? ⟨g, o + j * 5 + 3, none⟩ = some (.bool r.frozen) := hc 3 _ rfl
      have d4 : wr.cell? ⟨g, o + j * 5 + 4, none⟩ = some (.int .i64 r.target) := hc 4 _ rfl
      have HT := any_take (p := p) hr
      have HCC : Hid (Calls Try.prog 51 #[.agg #[.string r.frm, .string r.upto, .int .i64 r.epoch, .bool r.frozen, .int .i64 r.target], .pointer q1, .pointer q2] wr (BoolLeft wr (p r))) := HC.out r wr HB.out.1
      have HRR := Lib.hid hr
      have hj0 : (0 : Int) ≤ (j : Int) := by omega
      have hj1 : (j : Int) < (n : Int) := by omega
      rw [HB.out.2] at HT
      clear hr hc
      cases hp : p r with
      | true =>
        rw [hp] at HCC
        have HANY : Hid (l.any p = true) := any_idx HRR.out hp
        clear hp HT
        go_wp2_with fail
        refine HCC.out.mono ?_
        rintro e w1 ⟨rfl, hb1⟩
        have HB1 := Lib.hid (HB.out.1.trans (hb1.mono HB.out.1.size))
        clear hb1
        go_wp2_with fail
        go_ret
        exact ⟨(j : Int), rfl, by rw [HANY.out]; simp, HB1.out⟩
      | false =>
        rw [hp] at HCC HT
        have HTT := Lib.hid HT
        clear hp HT
        go_wp2_with fail
        refine HCC.out.mono ?_
        rintro e w1 ⟨rfl, hb1⟩
        have HB1 : Hid (Below w.heap.size w w1 ∧ (l.take (j + 1)).any p = false) := ⟨HB.out.1.trans (hb1.mono HB.out.1.size), by rw [HTT.out]; rfl⟩
        clear hb1
        go_wp2_with fail
        exact ⟨⟨j + 1, by omega, by simp, HB1⟩, by simp [intOf]; omega⟩
    · obtain rfl : j = n := by omega
      go_wp2_with fail
      go_ret
      have ht := HB.out.2
      rw [List.take_of_length_le (by rw [← HN.out]; exact Nat.le_refl _)] at ht
      exact ⟨-1, rfl, by rw [ht]; rfl, HB.out.1⟩
set_option maxRecDepth 100000 in
theorem contains_50_51 (a : Option Addr) (cap : Nat) (l : List Hel) (w : World) (q1 q2 : Option Addr) (p : Hel → Bool) (ha : Lies w a 5 helL l) (hl : l.length ≤ 1000)
    (hc : ∀ r W, Below w.heap.size w W → Calls Try.prog 51 #[helA r, .pointer q1, .pointer q2] W (BoolLeft W (p r))) :
    Calls Try.prog 50 #[.slice a l.length cap, .func (.func 51) #[] #[.pointer q1, .pointer q2]] w (BoolLeft w (l.any p)) := by
  have HC := Lib.hid (index_54_51 a cap l w q1 q2 p ha hl hc)
  generalize l.length = n at HC ⊢
  clear ha hc
  go_enter Try.func50, Try.ntmps50
  go_wp2_with (go_at_call 54; refine HC.out.mono ?_; rintro e w1 ⟨z, rfl, hz, hb⟩; have HZ := Lib.hid hz; have HB := Lib.hid hb; clear hz hb)
  go_ret
  exact ⟨by rw [← HZ.out]; rfl, HB.out⟩
set_option maxRecDepth 100000 in
theorem cross_38 (a ma : Option Addr) (cap mcap : Nat) (l m : List Hel) (w : World) (hl : Lies w a 5 helL l) (hm : Lies w ma 5 helL m) (hl9 : l.length ≤ 1000) (hm9 : m.length ≤ 1000) :
    Calls Try.prog 38 #[.slice a l.length cap, .slice ma m.length mcap, .func (.func 39) #[] #[]] w (BoolLeft w (l.any fun x => m.any (helDiff x))) := by
  obtain ⟨W, hW⟩ : ∃ W, W = (w.alloc (.cells #[.slice ma m.length mcap] 38)).alloc (.cells #[.func (.func 39) #[] #[]] 92) := ⟨_, rfl⟩
  have hbW : Below w.heap.size w W := by rw [hW]; exact ((Below.refl _ w).alloc (Nat.le_refl _) _).alloc (by simp) _
  have b0 : W.heap[w.heap.size]? = some (.cells #[.slice ma m.length mcap] 38 (0, 0)) := by rw [hW]; exact (Below.heap_alloc _ _ _ (by simp)).trans (heap_alloc_new w _)
  have b1 : W.heap[w.heap.size + 1]? = some (.cells #[.func (.func 39) #[] #[]] 92 (0, 0)) := by rw [hW]; simpa using heap_alloc_new (w.alloc (.cells #[.slice ma m.length mcap] 38)) (.cells #[.func (.func 39) #[] #[]] 92)
  have HC : Hid (Calls Try.prog 50 #[.slice a l.length cap, .func (.func 51) #[] #[.pointer (some ⟨w.heap.size, 0, none⟩), .pointer (some ⟨w.heap.size + 1, 0, none⟩)]] W (BoolLeft W (l.any fun x => m.any (helDiff x)))) :=
    contains_50_51 a cap l W _ _ _ (hl.below hbW) hl9 fun x W' hW' => outer_51 x W' _ _ ma mcap m ((hW'.block _ (lt_of_heap b0)).trans b0) ((hW'.block _ (lt_of_heap b1)).trans b1) ((hm.below hbW).below hW') hm9
  have HBW := Lib.hid hbW
  generalize (l.any fun x => m.any (helDiff x)) = b at HC ⊢
  generalize l.length = n at HC ⊢
  generalize m.length = mn at HC hW ⊢
  clear b0 b1 hbW hl hm
  go_enter Try.func38, Try.ntmps38
  go_wp2_with fail
  rw [← hW]
  refine HC.out.mono ?_
  rintro e w1 ⟨rfl, hb⟩
  have HB : Hid (Below w.heap.size w w1) := HBW.out.trans (hb.mono HBW.out.size)
  clear hb
  go_wp2_with fail
  go_ret
  exact ⟨rfl, HB.out⟩
end Go.Proofs.Ytpcmkifgfokdpaa