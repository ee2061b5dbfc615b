/- JudgeFair: for every trial and every keys the law returns true, and what came in reads as it did. No condition. -/
import Derived.Test.YtpcmkifgfokdpaaRows
import Derived.Test.YtpcmkifgfokdpaaJlaw3
import Derived.ProofKit
import Derived.OpenShut
import Derived.ShutString
import Derived.ChangeOld
import Derived.Below
import Derived.SizedLaws
namespace Go.Proofs.Ytpcmkifgfokdpaa.judgeFairDone
open Go.My Go.My.Model Go.Deep Go.ChangeShapes Go.WideShapes Go.ChangeAt Go.RowKit Go.Proofs.Ytpcmkifgfokdpaa

structure Tri where
  o : Sl
  g : Sl
  s : Sl
  T : List Tx
  G : List Int
  S : List Seen
section
variable {H : Type} {enc : TypeId × Value → H} {w : World} {base : Nat} {spare : Nat → Bool} {held : Bool}
theorem open_trialA {fuel : Nat} {cs : Array Value} {x : DataW H × List MemPlace} (hc : cs.size = Try.prog.cellsOf 26) (h : DataW.trod enc Try.prog w base spare held fuel 26 cs.toList = some x) (hx : Within Try.prog 26 x.1) : ∃ z : Tri, cs = #[.slice z.o.a z.o.n z.o.cap, .slice z.g.a z.g.n z.g.cap, .slice z.s.a z.s.n z.s.cap] ∧ TrialIn w z.o z.g z.s z.T z.G z.S := by
  have hb : Try.prog.cellsOf 26 = 3 := by kernel_rfl
  obtain ⟨o, g, s, T, G, S, h1, h2⟩ := open_trial (by rw [Array.length_toList, hc, hb]) h hx
  refine ⟨⟨o, g, s, T, G, S⟩, ?_, h2⟩
  cases cs
  simp only at h1
  rw [h1]
  rfl
end
theorem walk (z : Tri) (a1 : Option Addr) (len1 cap1 : Nat) (K : List ByteArray) (w : World) (ho : TrialIn w z.o z.g z.s z.T z.G z.S) (hl : K.length = len1) (hk : Lies w a1 1 strL K) (hf : K.length ≤ 70368744177664) :
    Calls Try.prog 3 #[.agg #[.slice z.o.a z.o.n z.o.cap, .slice z.g.a z.g.n z.g.cap, .slice z.s.a z.s.n z.s.cap], .slice a1 len1 cap1] w fun e w' => e = .returned (.bool true) ∧ Below w.heap.size w w' := by
  subst hl
  exact fair_3 z.o z.g z.s z.T z.G z.S a1 cap1 K w ho hk hf

set_option maxRecDepth 100000 in
theorem lifted (os : Os) (started : os.Started) (H : Type) (enc : TypeId × Value → H) :
    ReturnsInHanded {} Try.checked os 3 .any (Rows.judgeFairSpec.pre6 enc Try.prog Try.f3 Rows.judgeFairRow.domain false) (Rows.judgeFairSpec.post enc Try.prog Try.f3 false true false false) := by
  refine returnsInHanded_of_change_sized (C := Try.checked) own started (by kernel_rfl) Try.func3
    (ChangeSpec.witness6 (enc := enc) (C := Try.checked) false ⟨#[], #[.agg #[.slice none 0 0, .slice none 0 0, .slice none 0 0], .slice none 0 0], []⟩ 8 (by kernel_rfl) (by kernel_rfl) (by kernel_rfl) (by kernel_rfl)) ?_
  intro W base args ds gs before hval0 hW _ hsz0 _
  have hsz : (DataW.weightsEach Try.prog (Try.f3.params.toList ++ _) (ds ++ gs)).all (· ≤ reachBytes) = true := hsz0
  clear hsz0
  rw [Try.params3] at hsz
  have hval : ∀ (j : Nat) t v, Try.f3.params[j]? = some t → args[j]? = some v → Value.okWide Try.prog W .any base t v := hval0
  have hW' := hW
  obtain ⟨p, q, hA0, hV, rfl, _, _⟩ := hW
  have hA : DataW.TrodAll enc Try.prog W 0 (fun _ => true) true Try.f3.params.toList args.toList ds p := hA0
  rw [Try.params3] at hA hval
  obtain ⟨v0, vs0, d0, ds0, p0, q0, hargs, rfl, rfl, h0, r0⟩ := trodAll_cons hA
  obtain ⟨v1, vs1, d1, ds1, p1, q1, rfl, rfl, rfl, h1, r1⟩ := trodAll_cons r0
  obtain ⟨rfl, rfl, rfl⟩ := trodAll_nil r1
  obtain rfl : args = #[v0, v1] := by cases args; simp_all
  obtain ⟨rfl, rfl⟩ := trodVars_none hV
  obtain ⟨cs0, rfl, hcs0⟩ := okWide_struct Try.underlying26 (hval 0 26 v0 rfl rfl)
  have k0 := h0
  have lt0 : ∀ x ∈ p0, x.block < W.heap.size := by obtain ⟨m, hm⟩ := k0; exact DataW.trod_lt m _ _ _ hm
  obtain ⟨fuel0, hf0⟩ := h0
  obtain ⟨z0, rfl, ho0⟩ := open_trialA hcs0 (by simpa [Value.cells] using hf0) (within_args hsz (j := 0) rfl rfl)
  obtain ⟨a1, len1, cap1, rfl⟩ := okWide_slice Try.underlying27 (hval 1 27 v1 rfl rfl)
  have k1 := h1
  have lt1 : ∀ x ∈ p1, x.block < W.heap.size := by obtain ⟨m, hm⟩ := k1; exact DataW.trod_lt m _ _ _ hm
  obtain ⟨fuel1, hf1⟩ := h1
  obtain ⟨z1, hl1, ho1, hz1⟩ := open_keys (by simpa [Value.cells] using hf1) (within_args hsz (j := 1) rfl rfl)
  clear hA0 hval0
  refine (walk z0 a1 len1 cap1 z1 W ho0 hl1 ho1 hz1).mono fun e W' ⟨he, bel⟩ => ?_
  subst he
  exact ⟨_, rfl, _, _, _, [], _, [], hW', trodAll_mk1 (shut_bool Try.underlying4 _), (trodAll_cons_mk (Below.trod laidOut (by kernel_rfl) (of_decide_eq_true (by kernel_rfl)) k0 bel lt0) (trodAll_cons_mk (Below.trod laidOut (by kernel_rfl) (of_decide_eq_true (by kernel_rfl)) k1 bel lt1) trodAll_mk0)), rfl, bel.frame _, fun h => by cases h⟩

theorem over : Rows.judgeFairRow.holds Try.pinned (OpenSpec.ofChange Rows.judgeFairSpec) :=
  OpenClaim.holds_of_wide 3 Try.f3 rfl rfl rfl rfl rfl rfl rfl ⟨rfl, rfl, rfl, rfl, rfl⟩ rfl rfl rfl rfl rfl (by kernel_rfl) Try.func3 (by kernel_rfl)
    (of_decide_eq_true (by kernel_rfl)) (by unfold Func.isWrapper; first | (rw [if_pos (by decide +kernel)]; kernel_rfl) | (rw [if_neg (by decide +kernel)]; exact ⟨rfl, rfl⟩))
    (fun os started H enc _ => lifted os started H enc)

theorem proved : Rows.JudgeFairSaid := over
#print axioms proved
end Go.Proofs.Ytpcmkifgfokdpaa.judgeFairDone
