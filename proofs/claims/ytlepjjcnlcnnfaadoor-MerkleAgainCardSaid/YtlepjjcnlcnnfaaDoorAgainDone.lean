/- MerkleAgain: for every two lists of entries, proof and key the law returns true, and what came in reads as it did. No condition. -/
import Derived.Test.YtlepjjcnlcnnfaaDoorCards
import Derived.Test.YtlepjjcnlcnnfaaDoorTie
import Derived.Test.YtlepjjcnlcnnfaaDoorHnd
import Derived.SevenTiedAt
import Derived.Test.YtlepjjcnlcnnfaaDoorMkArgs
import Derived.Test.YtlepjjcnlcnnfaaDoorMkAgL
import Derived.ProofKit
import Derived.OpenShut
import Derived.ShutString
import Derived.ChangeOld
import Derived.Below
import Derived.SizedLaws
namespace Go.Proofs.YtlepjjcnlcnnfaaDoor.merkleAgainDone
open Go.My Go.Deep Go.ChangeShapes Go.WideShapes Go.ChangeAt Go.RowKit Go.Proofs.YtlepjjcnlcnnfaaDoor
open Go.ChangeMaps (open_string shut_string)

theorem walk (a0 : Option Addr) (len0 cap0 : Nat) (l : List Merkle.Ent) (a1 : Option Addr) (len1 cap1 : Nat) (o : List Merkle.Ent) (z : Merkle.PrfZ) (key : ByteArray) (w : World) (hg : TypeIs w) (hl : l.length = len0) (hin : Merkle.LIn w a0 l) (hz : len0 ≤ cap0 ∧ cap0 ≤ maxLen) (hl1 : o.length = len1) (ho1 : Merkle.LIn w a1 o) (hz1 : len1 ≤ cap1 ∧ cap1 ≤ maxLen) (hp : Merkle.PIn w z.p z.a1 z.a2 z.c2) (_ : key.size ≤ maxLen) :
    Calls Tryd.prog 3 #[.slice a0 len0 cap0, .slice a1 len1 cap1, .agg #[.int .i64 z.p.many, .int .i64 z.p.first, .slice z.a1 z.p.L.length z.c1, .slice z.a2 z.p.B.length z.c2], .string key] w fun e w' => e = .returned (.bool true) ∧ Below w.heap.size w w' := by
  subst hl
  subst hl1
  exact Merkle.againlaw_any a0 cap0 l a1 cap1 o key z.p z.a1 z.a2 z.c1 z.c2 w hg hin hz.1 hz.2 hp ho1 hz1.1 hz1.2

set_option maxRecDepth 100000 in
theorem lifted (os : Os) (started : os.Started) (H : Type) (enc : TypeId × Value → H) :
    ReturnsInHanded {} Tryd.checked os 3 .any (fun w args => (Rows.merkleAgainSpec.pre enc Tryd.prog Tryd.f3 [] false w args ∧ laidMetH Tryd.prog laidH w) ∧ sizedMet enc Tryd.prog Tryd.f3 (OpenSpec.ofChange Rows.merkleAgainSpec) false w args)
      (Rows.merkleAgainSpec.post enc Tryd.prog Tryd.f3 false true false false) := by
  refine returnsInHanded_of_change_and (C := Tryd.checked) (X := fun w _ => laidMetH Tryd.prog laidH w) (fun _ _ _ hh h => h.of_heap hh) own started (by kernel_rfl) Tryd.func3
    (ChangeSpec.witness_at (enc := enc) (C := Tryd.checked) (os := os) (X := fun w _ => laidMetH Tryd.prog laidH w) false (laidWorld os) #[.slice none 0 0, .slice none 0 0, .agg #[.int .i64 0, .int .i64 0, .slice none 0 0, .slice none 0 0], .string ByteArray.empty] 8 rfl (by kernel_rfl) (by kernel_rfl) (by kernel_rfl) (by kernel_rfl) (by kernel_rfl) (laidWorld_met os _)) ?_
  intro W base args ds gs before hval0 hW _ hsz0 hL _
  have hsz : (DataW.weightsEach Tryd.prog (Tryd.f3.params.toList ++ _) (ds ++ gs)).all (· ≤ reachBytes) = true := hsz0
  clear hsz0
  rw [Tryd.params3] at hsz
  have hval : ∀ (j : Nat) t v, Tryd.f3.params[j]? = some t → args[j]? = some v → Value.okWide Tryd.prog W .any base t v := hval0
  have hW' := hW
  obtain ⟨p, q, hA0, hV, rfl, _, _⟩ := hW
  have hA : DataW.TrodAll enc Tryd.prog W 0 (fun _ => true) true Tryd.f3.params.toList args.toList ds p := hA0
  rw [Tryd.params3] at hA hval
  obtain ⟨v0, vs0, d0, ds0, p0, q0, hargs, rfl, rfl, h0, r0⟩ := trodAll_cons hA
  obtain ⟨v1, vs1, d1, ds1, p1, q1, rfl, rfl, rfl, h1, r1⟩ := trodAll_cons r0
  obtain ⟨v2, vs2, d2, ds2, p2, q2, rfl, rfl, rfl, h2, r2⟩ := trodAll_cons r1
  obtain ⟨v3, vs3, d3, ds3, p3, q3, rfl, rfl, rfl, h3, r3⟩ := trodAll_cons r2
  obtain ⟨rfl, rfl, rfl⟩ := trodAll_nil r3
  obtain rfl : args = #[v0, v1, v2, v3] := by cases args; simp_all
  obtain ⟨rfl, rfl⟩ := trodVars_none hV
  obtain ⟨a0, len0, cap0, rfl⟩ := okWide_slice Tryd.underlying22 (hval 0 22 v0 rfl rfl)
  have k0 := h0
  have lt0 : ∀ x ∈ p0, x.block < W.heap.size := by obtain ⟨m, hm⟩ := k0; exact DataW.trod_lt m _ _ _ hm
  obtain ⟨fuel0, hf0⟩ := h0
  obtain ⟨z0, hl0, ho0, hz0⟩ := Merkle.open_ents (by simpa [Value.cells] using hf0) (within_args hsz (j := 0) rfl rfl)
  obtain ⟨a1, len1, cap1, rfl⟩ := okWide_slice Tryd.underlying22 (hval 1 22 v1 rfl rfl)
  have k1 := h1
  have lt1 : ∀ x ∈ p1, x.block < W.heap.size := by obtain ⟨m, hm⟩ := k1; exact DataW.trod_lt m _ _ _ hm
  obtain ⟨fuel1, hf1⟩ := h1
  obtain ⟨z1, hl1, ho1, hz1⟩ := Merkle.open_ents (by simpa [Value.cells] using hf1) (within_args hsz (j := 1) rfl rfl)
  obtain ⟨cs2, rfl, hcs2⟩ := okWide_struct Tryd.underlying25 (hval 2 25 v2 rfl rfl)
  have k2 := h2
  have lt2 : ∀ x ∈ p2, x.block < W.heap.size := by obtain ⟨m, hm⟩ := k2; exact DataW.trod_lt m _ _ _ hm
  obtain ⟨fuel2, hf2⟩ := h2
  obtain ⟨z2, rfl, ho2⟩ := Merkle.open_proofA hcs2 (by simpa [Value.cells] using hf2) (within_args hsz (j := 2) rfl rfl)
  obtain ⟨a3, rfl, rfl, rfl, w3⟩ := open_string Tryd.underlying9 (hval 3 9 v3 rfl rfl) h3
  clear hA0 hval0
  have hTI := handle_of_laid hL
  refine (walk a0 len0 cap0 z0 a1 len1 cap1 z1 z2 a3 W hTI hl0 ho0 hz0 hl1 ho1 hz1 ho2 w3).mono fun e W' ⟨he, bel⟩ => ?_
  subst he
  exact ⟨_, rfl, _, _, _, [], _, [], hW', trodAll_mk1 (shut_bool Tryd.underlying4 _), (trodAll_cons_mk (Below.trod laidOut (by kernel_rfl) (of_decide_eq_true (by kernel_rfl)) k0 bel lt0) (trodAll_cons_mk (Below.trod laidOut (by kernel_rfl) (of_decide_eq_true (by kernel_rfl)) k1 bel lt1) (trodAll_cons_mk (Below.trod laidOut (by kernel_rfl) (of_decide_eq_true (by kernel_rfl)) k2 bel lt2) (trodAll_cons_mk (shut_string Tryd.underlying9 w3) trodAll_mk0)))), rfl, bel.frame _, fun h => by cases h⟩

theorem over : Rows.merkleAgainRow.holds Tryd.pinned (OpenSpec.ofChange Rows.merkleAgainSpec) :=
  OpenClaim.holds_of_wide 3 Tryd.f3 rfl rfl rfl rfl rfl rfl rfl ⟨rfl, rfl, rfl, rfl, rfl⟩ rfl rfl rfl rfl rfl (by kernel_rfl) Tryd.func3 (by kernel_rfl)
    (of_decide_eq_true (by kernel_rfl)) (by unfold Func.isWrapper; first | (rw [if_pos (by decide +kernel)]; kernel_rfl) | (rw [if_neg (by decide +kernel)]; exact ⟨rfl, rfl⟩))
    (fun os started H enc _ => lifted os started H enc)

theorem proved : Rows.MerkleAgainCardSaid :=
  Claim7.holds_tied_plain_at .later [] [.handle] true (true, "050a97b681bfc4a7739544b500725f017a4c16113139433d601409d408ac4c1e") true
    over (fun _ h => by cases h) (by kernel_rfl) (fun _ h => by cases h) merkleAgain_row_tie rfl ⟨rfl, rfl⟩ (by kernel_rfl) rfl
    (fun f fn hf hfn => by
      obtain rfl : f = 3 := Option.some.inj ((show Tryd.prog.funcNamed Rows.merkleAgainRow.func = some 3 by kernel_rfl).symm.trans hf) |>.symm
      obtain rfl : fn = Tryd.f3 := (Option.some.inj (Tryd.func3.symm.trans hfn)).symm
      exact ⟨by kernel_rfl, fun j t ht => by
        rw [Tryd.params3] at ht
        have hall : ∀ t ∈ ([22,22,25,9] : List TypeId), Tryd.prog.wantsStandIn t = false := by
          intro t ht
          simp only [List.mem_cons, List.not_mem_nil, or_false] at ht
          rcases ht with rfl | rfl | rfl | rfl <;> kernel_rfl
        exact hall t (by
          have := List.mem_of_getElem? (show ([22,22,25,9] : List TypeId)[j]? = some t by simpa using ht)
          exact this)⟩)
    (by kernel_rfl)
#print axioms proved
end Go.Proofs.YtlepjjcnlcnnfaaDoor.merkleAgainDone
