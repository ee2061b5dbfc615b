/- Seals in memory: New, Signed, Sign, Many, Who. -/
import Derived.Test.YtmpbeopbkllcnaaDoorSeAt
namespace Go.Proofs.YtmpbeopbkllcnaaDoor.Seals
open Go.RowKit Go.My

def sk (k : Int × Int) : Value := .agg #[.int .i64 k.1, .int .i64 k.2]
def sv (_ : Unit) : Value := .agg #[]
theorem stood51 : Tryd.prog.stoodInHeld 99 = false := by kernel_rfl
theorem kSeal : KeyOk Tryd.prog 99 sk := by
  refine KeyOk.ofAsk _ Tryd.underlying99 (fun es x y v b => rfl) (fun w x y => ?_) (fun w em x => ?_) (fun x => by simp [Instr.sameBits, sk])
  · obtain ⟨a, b⟩ := x
    obtain ⟨a', b'⟩ := y
    have h := run_equalIn_agg (P := Tryd.prog) w 9999 99 #[.int .i64 a, .int .i64 b] #[.int .i64 a', .int .i64 b'] (by kernel_rfl) stood51
    unfold Op.equal Op.maxDepth sk
    rw [h]
    simp only [Program.fieldsOf, Tryd.underlying99]
    have e : ∀ (t : TypeId) (x y : Int), Tryd.prog.underlying t = some (.int .i64) → (Op.equalIn 9999 t (.int .i64 x) (.int .i64 y)).run Tryd.prog w = .ok (x == y) w := fun t x y ht => run_equalIn_int (P := Tryd.prog) w 9998 t .i64 .i64 x y ht
    have p0 : ∀ (x y : Value), (part 3 #[x, y] 0).run Tryd.prog w = .ok x w := fun x y => by kernel_rfl
    have p1 : ∀ (x y : Value), (part 3 #[x, y] 1).run Tryd.prog w = .ok y w := fun x y => by kernel_rfl
    generalize 9999 = d at *
    simp [Op.eqFields, e 3 _ _ Tryd.underlying3, p0, p1]
    by_cases h1 : a = a' <;> by_cases h2 : b = b' <;> simp [h1, h2]
  · unfold sk Instr.checkKey
    simp only [Sem.run_bind, run_underlying Tryd.underlying99, Result.andThen_ok]
    have p0 : ∀ (x y : Value), (part 3 #[x, y] 0).run Tryd.prog w = .ok x w := fun x y => by kernel_rfl
    have p1 : ∀ (x y : Value), (part 3 #[x, y] 1).run Tryd.prog w = .ok y w := fun x y => by kernel_rfl
    have e : ∀ (t : TypeId) (x : Int), Tryd.prog.underlying t = some (.int .i64) → (Instr.checkKey em 9999 t (.int .i64 x)).run Tryd.prog w = .ok () w := fun t x ht => by
      unfold Instr.checkKey; simp [run_underlying ht]
    generalize 9999 = d at *
    simp [p0, p1, e 3 _ Tryd.underlying3]

theorem zero49 (w : World) : (zeroValue 97).run Tryd.prog w = .ok (.agg #[]) w := by kernel_rfl

abbrev Seals := List ((Int × Int) × Unit)
structure SealsAt (w : World) (b m : Nat) (l : Seals) : Prop where
  blk : w.heap[b]? = some (.cells #[.map (some m)] 92 (0, 0))
  map : MapAt w m sk sv l
theorem SealsAt.c0 {w : World} {b m : Nat} {l : Seals} (h : SealsAt w b m l) : w.cell? ⟨b, 0, none⟩ = some (.map (some m)) := by rw [cell_of_row w b 0 _ _ _ h.blk]; rfl
theorem SealsAt.ne {w : World} {b m : Nat} {l : Seals} (h : SealsAt w b m l) : m ≠ b := h.map.ne_cells h.blk
theorem SealsAt.below {w w' : World} {b m : Nat} {l : Seals} (h : SealsAt w b m l) (hb : Below w.heap.size w w') : SealsAt w' b m l :=
  ⟨(hb.block _ (lt_of_heap h.blk)).trans h.blk, h.map.keep (hb.block _ h.map.lt)⟩
theorem SealsAt.set {w w' : World} {b m : Nat} {l l' : Seals} (h : SealsAt w b m l) (ht : Wrote [m] w w') (hl : MapAt w' m sk sv l') : SealsAt w' b m l' :=
  ⟨ht.heap h.blk (by simp; exact fun e => h.ne e.symm), hl⟩

def signedB (l : Seals) (who d : Int) : Bool := (aget l (who, d)).isSome
def okB (who d : Int) : Bool := !(decide (cli who < 0) && decide ((grp who).1 < 0)) && decide (0 ≤ d)
def signS (l : Seals) (who d : Int) : Seals := if okB who d then aput l (who, d) () else l

theorem aput_same {K : Type} [DecidableEq K] {l : List (K × Unit)} {k : K} (h : aget l k ≠ none) : aput l k () = l := by
  induction l with
  | nil => simp [aget_nil] at h
  | cons p r ih =>
    rw [aget_cons] at h
    unfold aput
    split at h
    · rename_i e
      rw [if_pos (by simpa using e), ← e]
    · rename_i e
      rw [if_neg (by simpa using e), ih h]

set_option maxRecDepth 100000 in
theorem new_any (w : World) : Calls Tryd.prog 7 #[] w fun e w' => ∃ b m, e = .returned (.pointer (some ⟨b, 0, none⟩)) ∧ SealsAt w' b m [] ∧ Below w.heap.size w w' ∧ w.heap.size ≤ m := by
  have hmm := @run_makeMap Tryd.prog
  go_enter Tryd.func7, Tryd.ntmps7
  go_wp2
  go_ret
  refine ⟨w.heap.size + 1, w.heap.size, rfl, ⟨?_, ?_⟩, ?_, Nat.le_refl _⟩
  · have := heap_alloc_new (w.alloc (.map #[] 0)) (.cells #[.map (some w.heap.size)] 92)
    simpa using this
  · exact (MapAt.new w sk sv).alloc _
  · exact ((Below.refl _ _).alloc (Nat.le_refl _) _).alloc (by simp) _

set_option maxRecDepth 100000 in
theorem signed_any (b m : Nat) (l : Seals) (who d : Int) (w : World) (h : SealsAt w b m l) :
    Calls Tryd.prog 13 #[.pointer (some ⟨b, 0, none⟩), .int .i64 who, .int .i64 d] w fun e w' => e = .returned (.bool (signedB l who d)) ∧ Below w.heap.size w w' := by
  have c0 := h.c0
  have hlk := h.map.lookup kSeal Tryd.underlying90 (zero49 w) (who, d)
  unfold signedB
  cases hg : aget l (who, d) with
  | none =>
    rw [hg] at hlk
    simp only [sk, Option.map_none, Option.getD_none, Option.isSome_none] at hlk ⊢
    clear h hg
    go_enter Tryd.func13, Tryd.ntmps13
    go_wp2
    go_ret
    exact ⟨rfl, (Below.refl _ _).alloc (Nat.le_refl _) _⟩
  | some x =>
    rw [hg] at hlk
    simp only [sk, sv, Option.map_some, Option.getD_some, Option.isSome_some] at hlk ⊢
    clear h hg
    go_enter Tryd.func13, Tryd.ntmps13
    go_wp2
    go_ret
    exact ⟨rfl, (Below.refl _ _).alloc (Nat.le_refl _) _⟩

set_option maxRecDepth 100000 in
theorem many_any (b m : Nat) (l : Seals) (w : World) (h : SealsAt w b m l) :
    Calls Tryd.prog 18 #[.pointer (some ⟨b, 0, none⟩)] w fun e w' => e = .returned (.int .i64 (l.length : Int)) ∧ w = w' := by
  have c0 := h.c0
  have hr := lenMap_run h.map (ty := 3) Tryd.underlying90
  clear h
  go_enter Tryd.func18, Tryd.ntmps18
  go_wp2
  go_ret
  exact ⟨rfl, rfl⟩

def sealsW : ByteArray := ⟨#[115, 101, 97, 108, 115]⟩
def errS (who : Int) (ok : Bool) : Value := if ok then .nilIface else wrapV ⟨#[115, 101, 97, 108, 115]⟩ who 1
def SignLeft (w : World) (b m : Nat) (l : Seals) (who d : Int) (e : Ending) (w' : World) : Prop :=
  e = .returned (errS who (okB who d)) ∧ SealsAt w' b m (signS l who d) ∧ Wrote [m] w w'
theorem sign_no {w : World} {b m : Nat} {l : Seals} {who d : Int} (h : SealsAt w b m l) (hk : okB who d = false) : SignLeft w b m l who d (.returned (wrapV ⟨#[115, 101, 97, 108, 115]⟩ who 1)) w := by
  unfold SignLeft errS signS; rw [hk]; exact ⟨rfl, h, Wrote.refl _ _⟩
theorem sign_same {w w' : World} {b m : Nat} {l : Seals} {who d : Int} (h : SealsAt w b m l) (hb : Below w.heap.size w w') (hk : okB who d = true) (hs : signedB l who d = true) : SignLeft w b m l who d (.returned .nilIface) w' := by
  unfold SignLeft errS signS; rw [hk]
  simp only [if_true]
  rw [aput_same (by unfold signedB at hs; intro e; rw [e] at hs; cases hs)]
  exact ⟨trivial, h.below hb, Wrote.of_below hb⟩
theorem sign_yes {w w1 w' : World} {b m : Nat} {l : Seals} {who d : Int} (h : SealsAt w b m l) (hb : Below w.heap.size w w1) (hm : MapAt w' m sk sv (aput l (who, d) ())) (ht : Wrote [m] w1 w') (hk : okB who d = true) : SignLeft w b m l who d (.returned .nilIface) w' := by
  unfold SignLeft errS signS; rw [hk]
  simp only [if_true]
  exact ⟨trivial, (h.below hb).set ht hm, (Wrote.of_below hb).trans ht⟩

set_option maxRecDepth 100000 in
set_option maxHeartbeats 1600000 in
theorem sign_any (b m : Nat) (l : Seals) (who d : Int) (w : World) (h : SealsAt w b m l) (hw : who ≤ 9223372036854775807) (hl : l.length < 131072) :
    Calls Tryd.prog 8 #[.pointer (some ⟨b, 0, none⟩), .int .i64 who, .int .i64 d] w (SignLeft w b m l who d) := by
  have HG := Lib.hid (fun w => group_any who w hw)
  have HC := Lib.hid (client_any who)
  have HN := Lib.hid h
  obtain ⟨g1, hg1⟩ : ∃ g, g = (grp who).1 := ⟨_, rfl⟩
  obtain ⟨g2, hg2⟩ : ∃ g, g = (grp who).2 := ⟨_, rfl⟩
  obtain ⟨c, hc⟩ : ∃ c, c = cli who := ⟨_, rfl⟩
  rw [← hg1, ← hg2] at HG
  rw [← hc] at HC
  have HK : Hid (okB who d = (!(decide (c < 0) && decide (g1 < 0)) && decide (0 ≤ d))) := by show _ = _; rw [hc, hg1]; rfl
  have HW := Lib.hid (wrap_any 1 who ⟨#[115, 101, 97, 108, 115]⟩)
  have HO := Lib.hid (fun w => of_any 1 w rfl)
  have HS := Lib.hid (signed_any b m l who d w h)
  have HL : Hid (((l.length : Int) == 131072) = false) := by show _ = _; simp; omega
  clear h hw hg1 hg2 hc hl
  by_cases a1 : c < 0 ∧ g1 < 0
  · obtain ⟨a1, a2⟩ := a1
    have HV : Hid (okB who d = false) := by show _ = _; rw [HK.out]; simp [a1, a2]
    go_enter Tryd.func8, Tryd.ntmps8
    go_wp2_with (first | (go_at_call 42; refine (HG.out _).mono ?_; rintro e w' ⟨rfl, rfl⟩) | (go_at_call 45; refine (HC.out _).mono ?_; rintro e w' ⟨rfl, rfl⟩) | (go_at_call 47; refine (HO.out _).mono ?_; rintro e w' ⟨rfl, rfl⟩) | (go_at_call 46; refine (HW.out _).mono ?_; rintro e w' ⟨rfl, rfl⟩))
    go_ret
    exact sign_no HN.out HV.out
  · by_cases a3 : d < 0
    · have HV : Hid (okB who d = false) := by show _ = _; rw [HK.out]; simp; omega
      by_cases a4 : c < 0
      all_goals
        first | (have a5 : 0 ≤ g1 := by omega) | skip
        clear a1
        go_enter Tryd.func8, Tryd.ntmps8
        go_wp2_with (first | (go_at_call 42; refine (HG.out _).mono ?_; rintro e w' ⟨rfl, rfl⟩) | (go_at_call 45; refine (HC.out _).mono ?_; rintro e w' ⟨rfl, rfl⟩) | (go_at_call 47; refine (HO.out _).mono ?_; rintro e w' ⟨rfl, rfl⟩) | (go_at_call 46; refine (HW.out _).mono ?_; rintro e w' ⟨rfl, rfl⟩))
        go_ret
        exact sign_no HN.out HV.out
    · have HV : Hid (okB who d = true) := by show _ = _; rw [HK.out]; simp; omega
      cases hs : signedB l who d with
      | true =>
        have HSG := Lib.hid hs
        rw [hs] at HS
        clear hs
        by_cases a4 : c < 0
        all_goals
          first | (have a5 : 0 ≤ g1 := by omega) | skip
          clear a1
          go_enter Tryd.func8, Tryd.ntmps8
          go_wp2_with (first | (go_at_call 42; refine (HG.out _).mono ?_; rintro e w' ⟨rfl, rfl⟩) | (go_at_call 45; refine (HC.out _).mono ?_; rintro e w' ⟨rfl, rfl⟩) | (go_at_call 13; refine HS.out.mono ?_; rintro e w1 ⟨rfl, hb⟩; have HB := Lib.hid hb; clear hb))
          go_ret
          exact sign_same HN.out HB.out HV.out HSG.out
      | false =>
        rw [hs] at HS
        clear hs
        by_cases a4 : c < 0
        all_goals
          first | (have a5 : 0 ≤ g1 := by omega) | skip
          clear a1
          go_enter Tryd.func8, Tryd.ntmps8
          go_wp2_with (first | (go_at_call 42; refine (HG.out _).mono ?_; rintro e w' ⟨rfl, rfl⟩) | (go_at_call 45; refine (HC.out _).mono ?_; rintro e w' ⟨rfl, rfl⟩))
          refine HS.out.mono ?_
          rintro e w1 ⟨rfl, hb⟩
          have HB := Lib.hid hb
          have hr := lenMap_run (HN.out.below HB.out).map (ty := 3) Tryd.underlying90
          have c0 := (HN.out.below HB.out).c0
          have hll := HL.out
          clear hb
          go_wp2_with (at_mapUpdate; refine wpList_update _ rfl _ _ _ 90 rfl kSeal Tryd.underlying90 m l (HN.out.below HB.out).map rfl (who, d) () rfl rfl ?_; intro w2 hm2 ht2)
          go_ret
          exact sign_yes HN.out HB.out hm2 ht2 HV.out
end Go.Proofs.YtmpbeopbkllcnaaDoor.Seals
