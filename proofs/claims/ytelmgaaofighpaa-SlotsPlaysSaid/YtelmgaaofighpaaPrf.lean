/- The open numbers: Proofs. -/
import Derived.Test.YtelmgaaofighpaaDoes
import Derived.Test.YtelmgaaofighpaaIter
import Derived.Test.YtelmgaaofighpaaOpen
import Derived.Deep.AppendLies
namespace Go.Proofs.Ytelmgaaofighpaa
open Go.RowKit Go.My Go.My.Slots

def prepL (p : Int × Int × Int) : List Value := (prepCells p).toList
def provedK (s : St) (k : Nat) : List (Int × Int × Int) := ((sortK s.proofs).take k).map fun n => (aget s.proofs n).getD (0, 0, 0)
def proofsL (s : St) : List (Int × Int × Int) := (sortK s.proofs).map fun n => (aget s.proofs n).getD (0, 0, 0)
theorem sortK_len (s : St) : (sortK s.proofs).length = s.proofs.length := by simp [sortK]
theorem provedK_succ {s : St} {k : Nat} {n : Int} (h : (sortK s.proofs)[k]? = some n) : provedK s (k + 1) = provedK s k ++ [(aget s.proofs n).getD (0, 0, 0)] := by
  unfold provedK
  rw [List.take_add_one, h]
  simp
theorem prep_info : (Try.prog.info? 44).map (fun i => (i.zero, i.size, i.bytes)) = some (some (prep (0, 0, 0)), 6, 64) := by kernel_rfl

structure PrfRel (w : World) (s : St) (kv : Value) (k : Nat) (v : Value) (wr : World) : Prop where
  out : wr.ownsRow w.heap.size 44 6 v k ((provedK s k).flatMap prepL)
  keys : wr.ownsRow w.heap.size 2 1 kv s.proofs.length ((sortK s.proofs).map i64)
  below : Below w.heap.size w wr
def PrfLeft (w : World) (s : St) (e : Ending) (w' : World) : Prop :=
  ∃ v, e = .returned v ∧ w'.ownsRow w.heap.size 44 6 v (proofsL s).length ((proofsL s).flatMap prepL) ∧ Below w.heap.size w w'

theorem PrfRel.append {w wr w1 : World} {s : St} {kv v v1 : Value} {k : Nat} {n : Int} {o : Obj} (h : PrfRel w s kv k v wr) (hn : (sortK s.proofs)[k]? = some n)
    (hown : w1.ownsRow w.heap.size 44 6 v1 (k + 1) ((provedK s k).flatMap prepL ++ prepL ((aget s.proofs n).getD (0, 0, 0)))) (hg : (wr.alloc o).grownBy w1 v.ownBlock) : PrfRel w s kv (k + 1) v1 w1 := by
  have hb : Below wr.heap.size wr (wr.alloc o) := (Below.refl _ wr).alloc (Nat.le_refl _) o
  have h1 := row_below h.out hb
  have h2 := row_below h.keys hb
  have hW : Wrote v.ownBlock.toList (wr.alloc o) w1 := Wrote.of_grown hg
  refine ⟨?_, row_wrote h2 hW fun g hg' => ?_, (h.below.alloc h.below.size o).trans (hW.below (h.below.alloc h.below.size o).size fun g hg' => ?_)⟩
  · rw [provedK_succ hn, List.flatMap_append]
    simpa using hown
  · simp only [Option.mem_toList]
    exact rows_apart h2 h1 (by decide) hg'
  · simp only [Option.mem_toList] at hg'
    exact (row_block h1 hg').1

set_option maxRecDepth 100000 in
set_option maxHeartbeats 1600000 in
theorem proofs_any (I : Ids) (s : St) (w : World) (h : SlotsAt w I s) (hw : ∀ p ∈ s.proofs, (Lit.int .i64 p.1).wf = true) (hl : s.proofs.length ≤ 1000) :
    Calls Try.prog 18 #[.pointer (some ⟨I.b, 0, none⟩)] w (PrfLeft w s) := by
  obtain ⟨i0, hi0, hz0, hz1, hz2⟩ := info_parts prep_info
  have HI := Lib.hid hi0
  have HZ := Lib.hid hz0
  have HS := Lib.hid hz1
  have HY := Lib.hid hz2
  have c5 := h.c5
  have HN := Lib.hid h
  have HK := Lib.hid (sorted_keys h.proofs hw hl)
  have HW := Lib.hid hw
  clear h hw hi0 hz0 hz1 hz2
  go_enter Try.func18, Try.ntmps18
  go_wp2_with (go_at_call 32; refine (keys_call _ _).mono ?_; rintro e w' ⟨rfl, rfl⟩)
  refine HK.out.mono ?_
  rintro e w1 ⟨kv, rfl, hrow, hb⟩
  have R0 : Hid (PrfRel w s kv 0 (.slice none 0 0) w1) := ⟨World.ownsRow_nil _ _ _ _, hrow, hb⟩
  obtain ⟨kn, hkn⟩ : ∃ kn, kn = s.proofs.length := ⟨_, rfl⟩
  have HKN := Lib.hid hkn
  obtain ⟨ka, kcap, rfl⟩ : ∃ ka kcap, kv = .slice ka kn kcap := by
    rcases hrow.2 with ⟨rfl, h0⟩ | ⟨g, cap, cur, rfl, _⟩
    · exact ⟨none, 0, by rw [hkn, h0]⟩
    · exact ⟨_, cap, by rw [hkn]⟩
  rw [← hkn] at hl
  clear hrow hb hkn
  go_wp2_with fail
  go_loopw [3, 13] (fun v i wr => ∃ k : Nat, k ≤ kn ∧ i = .int .i64 k ∧ PrfRel w s (.slice ka kn kcap) k v wr) (fun _ i _ => kn - (intOf i).toNat)
  case atStart => exact ⟨0, by omega, rfl, R0.out⟩
  case round =>
    clear R0
    obtain ⟨k, hk, rfl, hr⟩ := hrel
    have HR := Lib.hid hr
    clear hr
    by_cases hlt : k < kn
    · obtain ⟨n, hn⟩ : ∃ n, (sortK s.proofs)[k]? = some n := ⟨_, List.getElem?_eq_getElem (by rw [sortK_len, ← HKN.out]; exact hlt)⟩
      have HNK := Lib.hid hn
      have hrow := HR.out.keys
      rw [← HKN.out] at hrow
      obtain ⟨g, kcap', hform, _, _⟩ := hrow.form (by omega)
      cases hform
      have e1 : wr.cell? ⟨g, k, none⟩ = some (.int .i64 n) := by
        rw [hrow.cellAt k (by omega), List.getElem?_map, hn]
        rfl
      have hs1 := HN.out.below HR.out.below
      have c5 := hs1.c5
      have hlk := hs1.proofs.lookup1 kInt Try.underlying59 (zero44 wr) n
      have hp : ∃ p, p = (aget s.proofs n).getD (0, 0, 0) := ⟨_, rfl⟩
      obtain ⟨p, hp⟩ := hp
      have hv : ((aget s.proofs n).map prep).getD (prep (0, 0, 0)) = prep p := by rw [hp]; cases aget s.proofs n <;> rfl
      rw [hv] at hlk
      have HP := Lib.hid hp
      clear hs1 hv hn hp hrow
      obtain ⟨p1, p2, p3⟩ := p
      unfold prep i64 at hlk
      go_wp2_with (at_builtin; refine wpList_append_lies _ rfl _ _ 38 rfl w.heap.size 44 i0 (prep (0, 0, 0)) 6 64 Try.underlying38 HI.out HZ.out HS.out HY.out rfl (by decide) _ _ _ rfl (row_below HR.out.out ((Below.refl _ wr).alloc (Nat.le_refl _) _)) ⟨wr.heap.size, 0, none⟩ 1 1 (prepL (p1, p2, p3)) rfl rfl ?c1 ?c2 (by decide) ?c3 ?c4 ?c5 _ rfl ?_)
      case c1 => exact fun _ _ h => h
      case c2 => simp [prepL, prepCells, Value.oneCell']
      case c3 => unfold maxLen; omega
      case c4 => omega
      case c5 => have := HR.out.below.size; simp; omega
      intro g1 cap1 w2 hown hgrow hat hlt1
      have hown' := hown
      rw [HP.out] at hown'
      have HR2 := Lib.hid (HR.out.append HNK.out hown' hgrow)
      clear hown hown' hgrow hat hlt1
      go_wp2_with fail
      go_roundw
      case rel => exact ⟨k + 1, by omega, by go_num, HR2.out⟩
      case measure => simp [intOf]; omega
    · obtain rfl : k = kn := by omega
      go_wp2_with fail
      go_ret
      refine ⟨_, rfl, ?_, HR.out.below⟩
      have h2 := HR.out.out
      have e : provedK s k = proofsL s := by unfold provedK proofsL; rw [List.take_of_length_le (by rw [sortK_len, HKN.out]; exact Nat.le_refl _)]
      rw [e] at h2
      have e2 : (proofsL s).length = k := by simp [proofsL, sortK_len, HKN.out]
      rw [e2]
      exact h2
end Go.Proofs.Ytelmgaaofighpaa
