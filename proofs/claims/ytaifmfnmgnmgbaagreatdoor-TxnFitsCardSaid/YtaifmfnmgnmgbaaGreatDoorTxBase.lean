/- Txn: words. -/
import Derived.Test.YtaifmfnmgnmgbaaGreatDoorTxRead2
namespace Go.Proofs.YtaifmfnmgnmgbaaGreatDoor.Txn
open Go.RowKit Go.My

def rdL (x : Rd) : List Value := [.string x.key, .int .i64 x.ver]
def wrL (x : Wr) : List Value := [.string x.key, .string x.val]
theorem bl_alloc (B : World) (o : Obj) : Below B.heap.size B (B.alloc o) := (Below.refl _ B).alloc (Nat.le_refl _) o
theorem bl_trans {A B C : World} (h : Below A.heap.size A B) (k : Below B.heap.size B C) : Below A.heap.size A C := h.trans (k.mono h.size)
def BoolL (w : World) (b : Bool) (e : Ending) (w' : World) : Prop := e = .returned (.bool b) ∧ Below w.heap.size w w'
def KeyL (w : World) (k : ByteArray) (e : Ending) (w' : World) : Prop := e = .returned (.string k) ∧ Below w.heap.size w w'
end Go.Proofs.YtaifmfnmgnmgbaaGreatDoor.Txn
