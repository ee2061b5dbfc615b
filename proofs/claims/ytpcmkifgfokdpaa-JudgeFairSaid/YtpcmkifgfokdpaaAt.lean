/- The model's map in memory; what is written, what is read there. -/
import Derived.Test.YtpcmkifgfokdpaaChecked
import Derived.Test.YtpcmkifgfokdpaaGenw
import Derived.Test.YtpcmkifgfokdpaaGenl
import Derived.Test.YtpcmkifgfokdpaaOpen
import Derived.Test.YtpcmkifgfokdpaaSpec
import Derived.WalkSpells
import Derived.WalkLawsBesides
import Derived.Deep.QuietTactic
import Derived.BigQuiet
import Derived.StillTailTactics
import Derived.Lib.Hide
namespace Go.Proofs.Ytpcmkifgfokdpaa
open Go.RowKit Go.My Go.My.Model

def bs (s : ByteArray) : Value := .string s
def entV (e : Ent) : Value := .agg #[.string e.key, .string e.value, .int .i64 e.ver]
def ent0 : Ent := ⟨ByteArray.empty, ByteArray.empty, 0⟩
theorem kStr : KeyOk Try.prog 9 bs := key_string Try.underlying9
theorem zero26 (w : World) : (zeroValue 43).run Try.prog w = .ok (entV ent0) w := by kernel_rfl

theorem look_ver (m : St) (k : ByteArray) : ∃ e : Ent, ((aget m k).map entV).getD (entV ent0) = entV e ∧ e.ver = ver m k := by
  unfold ver
  cases aget m k with
  | none => exact ⟨ent0, rfl, rfl⟩
  | some e => exact ⟨e, rfl, rfl⟩

theorem field2 (W : World) (x y z : Value) : (Instr.field 43 (.agg #[x, y, z]) 2).run Try.prog W = .ok z W := by kernel_rfl
def WriteLeft (w : World) (b : Nat) (m : St) (x : Wri) (e : Ending) (w' : World) : Prop :=
  e = .returned (entV (nextE m x)) ∧ MapAt w' b bs entV (putE m x) ∧ Wrote [b] w w'

set_option maxRecDepth 100000 in
set_option maxHeartbeats 800000 in
theorem write_any (b : Nat) (m : St) (x : Wri) (w : World) (h : MapAt w b bs entV m) (hv : 0 ≤ ver m x.1) (hv2 : ver m x.1 ≤ 1000000) :
    Calls Try.prog 42 #[.map (some b), .agg #[.string x.1, .string x.2]] w (WriteLeft w b m x) := by
  obtain ⟨k, v⟩ := x
  have HM := Lib.hid h
  obtain ⟨e0, he, hev⟩ := look_ver m k
  have hlk : ∀ W, Below w.heap.size w W → (Instr.lookup 80 (.map (some b)) (.string k) false).run Try.prog W = .ok (entV e0) W := fun W hW => by
    have := (h.keep (hW.block b h.lt)).lookup1 kStr Try.underlying80 (zero26 W) k
    rw [he] at this
    exact this
  have HLK := Lib.hid hlk
  have HEV := Lib.hid hev
  simp only [← hev] at hv hv2
  clear h he hlk hev
  obtain ⟨k0, v0, n0⟩ := e0
  simp only at hv hv2
  unfold entV at HLK
  simp only at HLK
  have hl1 := fun o1 o2 => HLK.out ((w.alloc o1).alloc o2) (((Below.refl _ w).alloc (Nat.le_refl _) o1).alloc (by simp) o2)
  go_enter Try.func42, Try.ntmps42
  have hf := field2
  go_wp2_with (at_mapUpdate; refine wpList_update _ rfl _ _ _ 80 rfl kStr Try.underlying80 b m (HM.out.keep ?k1) rfl k (nextE m (k, v)) rfl ?k2 ?_)
  case k1 => exact (((Below.refl _ w).alloc (Nat.le_refl _) _).alloc (by simp) _ |>.alloc (by simp; omega) _).block b HM.out.lt
  case k2 => show _ = entV (nextE m (k, v)); unfold entV nextE; rw [← HEV.out]
  intro w1 hm1 ht1
  have hbl := HM.out.lt
  have b1 : w1.heap[w.heap.size + 1]? = some (.cells #[.string ⟨#[]⟩, .string ⟨#[]⟩, .int .i64 0] 43 (0, 0)) := ht1.heap ((Below.heap_alloc _ _ _ (by simp)).trans (by simpa using heap_alloc_new (w.alloc _) _)) (by simp; omega)
  have b2 : w1.heap[w.heap.size + 1 + 1]? = some (.cells #[.string k, .string v, .int .i64 (n0 + 1)] 43 (0, 0)) := ht1.heap (by simpa using heap_alloc_new ((w.alloc _).alloc _) (.cells #[.string k, .string v, .int .i64 (n0 + 1)] 43)) (by simp; omega)
  have q0 : w1.cell? ⟨w.heap.size + 1, 0, none⟩ = some (.string ⟨#[]⟩) := by rw [cell_of_row _ _ _ _ _ _ b1]; rfl
  have q1 : w1.cell? ⟨w.heap.size + 1, 1, none⟩ = some (.string ⟨#[]⟩) := by rw [cell_of_row _ _ _ _ _ _ b1]; rfl
  have q2 : w1.cell? ⟨w.heap.size + 1, 2, none⟩ = some (.int .i64 0) := by rw [cell_of_row _ _ _ _ _ _ b1]; rfl
  have r0 : w1.cell? ⟨w.heap.size + 1 + 1, 0, none⟩ = some (.string k) := by rw [cell_of_row _ _ _ _ _ _ b2]; rfl
  have r1 : w1.cell? ⟨w.heap.size + 1 + 1, 1, none⟩ = some (.string v) := by rw [cell_of_row _ _ _ _ _ _ b2]; rfl
  have r2 : w1.cell? ⟨w.heap.size + 1 + 1, 2, none⟩ = some (.int .i64 (n0 + 1)) := by rw [cell_of_row _ _ _ _ _ _ b2]; rfl
  have fz : ∀ i, w1.frozen? ⟨w.heap.size + 1, i, none⟩ = false := fun i => by simp [World.frozen?, b1]
  have HT := Lib.hid (show Wrote [b] w w1 from ((((Wrote.refl [b] w).alloc _).alloc _).alloc _).trans ht1)
  have HM1 := Lib.hid hm1
  clear hm1 ht1 b1 b2 hl1
  go_wp2_with fail
  have he : (Value.agg #[.string k, .string v, .int .i64 (n0 + 1)]) = entV (nextE m (k, v)) := by unfold entV nextE; rw [← HEV.out]
  have hkb : ∀ (W : World) (i : Nat) u, (W.setCell ⟨w.heap.size + 1, i, none⟩ u).heap[b]? = W.heap[b]? := fun W i u => Below.heap_setCell _ _ _ _ (show b ≠ w.heap.size + 1 by omega)
  refine bodyPost_ret (v := .agg #[.string k, .string v, .int .i64 (n0 + 1)]) (by simp [results, Try.results42, go_sem, q0, q1, q2]) rfl ⟨by rw [he], ?_, ?_⟩
  · exact HM1.out.keep (by rw [hkb, hkb, hkb])
  · exact ((HT.out.setCell (.inr (by simp)) _).setCell (.inr (by simp)) _).setCell (.inr (by simp)) _
end Go.Proofs.Ytpcmkifgfokdpaa
