/- Merkle: MerkleHas. -/
import Derived.Test.YtlepjjcnlcnnfaaDoorMkNo
namespace Go.Proofs.YtlepjjcnlcnnfaaDoor.Merkle
open Go.RowKit Go.My

theorem bl_alloc2 {w w6 : World} {o : Obj} (h : Below w.heap.size w w6) : Below w.heap.size w6 (w6.alloc o) := (bl_alloc w6 o).mono h.size
theorem has_unshaped (bB b m : Nat) (v : Value) (T : List ByteArray) (root : Int) (key : ByteArray) (p : Prf) (a1 a2 : Option Addr) (c1 c2 : Nat) (w : World) (hbk : BkT w bB b m v T) (h : PrfAt w bB p a1 a2) (hno : ¬ ∃ n f, Shaped p n f) :
    Calls Tryd.prog 10 #[.pointer (some ⟨b, 0, none⟩), .int .i64 root, .string key, prfV p a1 c1 a2 c2] w fun e w' => e = .returned (.tuple #[zeroE, .bool false, wrongV 62]) ∧ BkT w' bB b m v T ∧ Fx bB w w' := by
  have hbw := hasW_below w p a1 c1 a2 c2
  have hres := hasW_res w p a1 c1 a2 c2
  have hch := chk_no bB b root p a1 a2 c1 c2 (hasW w p a1 c1 a2 c2) (h.keep (Fx.of_below hbw hbk.le)) (Nat.le_trans hbk.le hbw.size) hno
  refine (has_err b root key p a1 a2 c1 c2 w 88 (.agg #[.string merkW, .int .i64 0, .iface 41 (.int .i64 62)]) (fun w1 => Below (hasW w p a1 c1 a2 c2).heap.size (hasW w p a1 c1 a2 c2) w1 ∧ w1.heap[w.heap.size + 1]? = some (.cells #[.string ⟨#[]⟩, .string ⟨#[]⟩, .int .i64 0] 36 (0, 0))) (hch.mono fun e w1 hq => ⟨hq.1, ⟨hq.2, box_kept hq.2 hres⟩, box_kept hq.2 hres⟩)).mono ?_
  rintro e w2 ⟨rfl, w1, ⟨hb1, hbx⟩, hw⟩
  have hb : Below w.heap.size w w1 := hbw.trans (hb1.mono hbw.size)
  refine ⟨rfl, bkt_wrote (hbk.below hb) hw hbx rfl, ?_⟩
  have hb2 : Below w.heap.size w w2 := hb.trans (hw.below hb.size fun k hk => by have e : k = w.heap.size + 1 := (by simpa using hk); rw [e]; exact Nat.le_succ _)
  exact Fx.of_below hb2 hbk.le
end Go.Proofs.YtlepjjcnlcnnfaaDoor.Merkle
