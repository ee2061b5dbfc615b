/- The tables, and the variable that errors.As reads: from the row's condition to what they hold; a world that meets the condition. -/
import Derived.Test.YtapeplcpgcbinaaDoorHnd
import Derived.Test.YtapeplcpgcbinaaDoorItoa
import Derived.Lib.LaidTab
import Derived.Stop.LaidErr
namespace Go.Proofs.YtapeplcpgcbinaaDoor
open Go.ChangeShapes Go.WideShapes Go.RowKit
def laidD : List (String × DataW Unit) := [("math/bits.deBruijn32tab", Rows.laid_math_bits_deBruijn32tab), ("math/bits.deBruijn64tab", Rows.laid_math_bits_deBruijn64tab), ("internal/strconv.uint64pow10", Rows.laid_internal_strconv_uint64pow10)]
def laidT : List (String × DataW Unit) := [("math/bits.deBruijn32tab", Rows.laid_math_bits_deBruijn32tab), ("math/bits.deBruijn64tab", Rows.laid_math_bits_deBruijn64tab), ("internal/strconv.uint64pow10", Rows.laid_internal_strconv_uint64pow10), ("errors.errorType", Rows.laid_errors_errorType)]
theorem parts_of_laid {W : World} (h : laidMetH Tryd.prog laidT W) : TypeIs W ∧ TabHere W := by
  have h' : laidMet Tryd.prog laidD W ∧ handlesMet Tryd.prog laidH W := h
  refine ⟨handle_of_laid (show laidMetH Tryd.prog laidH W from (show laidMet Tryd.prog [] W ∧ handlesMet Tryd.prog laidH W from ⟨laidMet_nil _ _, h'.2⟩)), ?_⟩
  have h3 : laidMet Tryd.prog (("internal/strconv.uint64pow10", Lib.tabData .u64 Lib.pow10Tab) :: []) W := h'.1.tail.tail
  exact Lib.tabIs_of_head (g := 1) (t := 91) (e := 83) (n := 20) (by kernel_rfl) (by kernel_rfl) Tryd.underlying91 Tryd.underlying83 (by kernel_rfl) (by kernel_rfl) h3
def cellsOf8 (zs : List Int) : Array Value := (zs.map fun z => Value.int .u8 z).toArray
def b32 : List Int := [0, 1, 28, 2, 29, 14, 24, 3, 30, 22, 20, 15, 25, 17, 4, 8, 31, 27, 13, 23, 21, 19, 16, 7, 26, 12, 18, 6, 11, 5, 10, 9]
def b64 : List Int := [0, 1, 56, 2, 57, 49, 28, 3, 61, 58, 42, 50, 38, 29, 17, 4, 62, 47, 59, 36, 45, 43, 51, 22, 53, 39, 33, 30, 24, 18, 12, 5, 63, 55, 48, 27, 60, 41, 37, 16, 46, 35, 44, 21, 52, 32, 23, 11, 54, 26, 40, 15, 34, 20, 31, 10, 25, 14, 19, 9, 13, 8, 7, 6]
/-- A world that meets the condition: the settled one, the four variables' cells laid. -/
noncomputable def laidWorldT (os : Os) : World :=
  let w0 := World.holding Tryd.prog os ⟨#[], #[], []⟩
  let put (h : Array Obj) (g : Nat) (cs : Array Value) : Array Obj := h.modify g fun
      | .cells _ t frozen => .cells cs t frozen
      | o => o
  { w0 with heap := put (put (put (put w0.heap 0 #[.iface 66 (.agg #[.pointer (some ⟨4, 27, none⟩)])]) 1 (Lib.pow10Tab.map fun z => Value.int .u64 z).toArray) 2 (cellsOf8 b32)) 3 (cellsOf8 b64) }
theorem laidWorldT_met (os : Os) (args : Array Value) : laidMetH Tryd.prog laidT ((laidWorldT os).forCall (fun _ _ => 0) ⟨#[], args, []⟩).memory :=
  laidMetH_of_parts (laidMet_of_run' 8 (by kernel_rfl) (by kernel_rfl)) (by kernel_rfl)
end Go.Proofs.YtapeplcpgcbinaaDoor
