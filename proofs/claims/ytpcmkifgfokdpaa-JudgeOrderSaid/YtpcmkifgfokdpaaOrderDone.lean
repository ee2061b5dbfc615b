/- JudgeOrder: for all that is seen of a member the law returns true, and what came in reads as it did. No condition. -/
import Derived.Test.YtpcmkifgfokdpaaRows
import Derived.Test.YtpcmkifgfokdpaaJlaw4
import Derived.ProofKit
import Derived.OpenShut
import Derived.ShutString
import Derived.ChangeOld
import Derived.Below
import Derived.SizedLaws
namespace Go.Proofs.Ytpcmkifgfokdpaa.judgeOrderDone
open Go.My Go.My.Model Go.Deep Go.ChangeShapes Go.WideShapes Go.ChangeAt Go.RowKit Go.Proofs.Ytpcmkifgfokdpaa

section
variable {H : Type} {enc : TypeId × Value → H} {w : World} {base : Nat} {spare : Nat → Bool} {held : Bool}
theorem open_seenA {fuel : Nat} {cs : Array Value} {x : DataW H × List MemPlace} (hc : cs.size = Try.prog.cellsOf 41) (h : DataW.trod enc Try.prog w base spare held fuel 41 cs.toList = some x) (hx : Within Try.prog 41 x.1) : ∃ s : Seen, cs = (seenL s).toArray ∧ SeenIn w s ∧ FineS s := by
  have hb : Try.prog.cellsOf 41 = 12 := by kernel_rfl
  obtain ⟨s, h1, h2, h3⟩ := open_seen (by rw [Array.length_toList, hc, hb]) h hx
  exact ⟨s, by rw [← h1], h2, h3⟩
end
theorem walk (s : Seen) (w : World) (ho : SeenIn w s ∧ FineS s) :
    Calls Try.prog 4 #[.agg (seenL s).toArray] w fun e w' => e = .returned (.bool true) ∧ Below w.heap.size w w' := order_4 s w ho.1 ho.2

set_option maxRecDepth 100000 in
theorem lifted (os : Os) (started : os.Started) (H : Type) (enc : TypeId × Value → H) :
    ReturnsInHanded {} Try.checked os 4 .any (Rows.judgeOrderSpec.pre6 enc Try.prog Try.f4 Rows.judgeOrderRow.domain false) (Rows.judgeOrderSpec.post enc Try.prog Try.f4 false true false false) := by
  refine returnsInHanded_of_change_sized (C := Try.checked) own started (by kernel_rfl) Try.func4
    (ChangeSpec.witness6 (enc := enc) (C := Try.checked) false ⟨#[], #[.agg #[.int .i64 0, .bool false, .int .i64 0, .int .i64 0, .int .i64 0, .slice none 0 0, .slice none 0 0, .slice none 0 0, .slice none 0 0, .slice none 0 0, .slice none 0 0, .slice none 0 0]], []⟩ 8 (by kernel_rfl) (by kernel_rfl) (by kernel_rfl) (by kernel_rfl)) ?_
  intro W base args ds gs before hval0 hW _ hsz0 _
  have hsz : (DataW.weightsEach Try.prog (Try.f4.params.toList ++ _) (ds ++ gs)).all (· ≤ reachBytes) = true := hsz0
  clear hsz0
  rw [Try.params4] at hsz
  have hval : ∀ (j : Nat) t v, Try.f4.params[j]? = some t → args[j]? = some v → Value.okWide Try.prog W .any base t v := hval0
  have hW' := hW
  obtain ⟨p, q, hA0, hV, rfl, _, _⟩ := hW
  have hA : DataW.TrodAll enc Try.prog W 0 (fun _ => true) true Try.f4.params.toList args.toList ds p := hA0
  rw [Try.params4] at hA hval
  obtain ⟨v0, vs0, d0, ds0, p0, q0, hargs, rfl, rfl, h0, r0⟩ := trodAll_cons hA
  obtain ⟨rfl, rfl, rfl⟩ := trodAll_nil r0
  obtain rfl : args = #[v0] := by cases args; simp_all
  obtain ⟨rfl, rfl⟩ := trodVars_none hV
  obtain ⟨cs0, rfl, hcs0⟩ := okWide_struct Try.underlying41 (hval 0 41 v0 rfl rfl)
  have k0 := h0
  have lt0 : ∀ x ∈ p0, x.block < W.heap.size := by obtain ⟨m, hm⟩ := k0; exact DataW.trod_lt m _ _ _ hm
  obtain ⟨fuel0, hf0⟩ := h0
  obtain ⟨z0, rfl, ho0⟩ := open_seenA hcs0 (by simpa [Value.cells] using hf0) (within_args hsz (j := 0) rfl rfl)
  clear hA0 hval0
  refine (walk z0 W ho0).mono fun e W' ⟨he, bel⟩ => ?_
  subst he
  exact ⟨_, rfl, _, _, _, [], _, [], hW', trodAll_mk1 (shut_bool Try.underlying4 _), (trodAll_cons_mk (Below.trod laidOut (by kernel_rfl) (of_decide_eq_true (by kernel_rfl)) k0 bel lt0) trodAll_mk0), rfl, bel.frame _, fun h => by cases h⟩

theorem over : Rows.judgeOrderRow.holds Try.pinned (OpenSpec.ofChange Rows.judgeOrderSpec) :=
  OpenClaim.holds_of_wide 4 Try.f4 rfl rfl rfl rfl rfl rfl rfl ⟨rfl, rfl, rfl, rfl, rfl⟩ rfl rfl rfl rfl rfl (by kernel_rfl) Try.func4 (by kernel_rfl)
    (of_decide_eq_true (by kernel_rfl)) (by unfold Func.isWrapper; first | (rw [if_pos (by decide +kernel)]; kernel_rfl) | (rw [if_neg (by decide +kernel)]; exact ⟨rfl, rfl⟩))
    (fun os started H enc _ => lifted os started H enc)

theorem proved : Rows.JudgeOrderSaid := over
#print axioms proved
end Go.Proofs.Ytpcmkifgfokdpaa.judgeOrderDone
