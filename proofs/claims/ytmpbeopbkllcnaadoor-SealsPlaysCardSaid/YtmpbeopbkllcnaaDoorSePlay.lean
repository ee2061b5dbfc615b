/- Seals: the calls. -/
import Derived.Test.YtmpbeopbkllcnaaDoorSeRef2
import Derived.Test.YtmpbeopbkllcnaaDoorHnd
import Derived.Test.YtmpbeopbkllcnaaDoorSized
import Derived.Deep.RegionWith
namespace Go.Proofs.YtmpbeopbkllcnaaDoor.Seals
open Go.RowKit Go.My Go.Deep

/-- a call -/
structure SOp where
  what : Int
  who : Int
  d : Int
def opL (o : SOp) : List Value := [.int .i64 o.what, .int .i64 o.who, .int .i64 o.d]
theorem sthree {α : Type} : ∀ {l : List α}, l.length = 3 → ∃ a b c, l = [a, b, c]
  | [a, b, c], _ => ⟨a, b, c, rfl⟩
def OpsOk (ops : List SOp) : Prop := ∀ (i : Nat) (o : SOp), ops[i]? = some o → o.who ≤ 9223372036854775807
section
variable {H : Type} {enc : TypeId × Value → H} {w : World} {base : Nat} {spare : Nat → Bool} {held : Bool}
set_option maxRecDepth 100000 in
theorem open_sops {fuel len cap : Nat} {a : Option Addr} {x : DataW H × List MemPlace} (h : DataW.trod enc Tryd.prog w base spare held fuel 22 [.slice a len cap] = some x) (hx : Within Tryd.prog 22 x.1) :
    ∃ L : List SOp, L.length = len ∧ Lies w a 3 opL L ∧ OpsOk L := by
  obtain ⟨L, h1, h4, h5, h2, h3⟩ := open_listB (R := fun _ cs (e : SOp) => cs = opL e ∧ e.who ≤ 9223372036854775807) (c := 3) Tryd.underlying22 (by kernel_rfl) (by omega) (fun n cs d hl hd _ => by
    obtain ⟨v0, v1, v2, rfl⟩ := sthree hl
    have hone : oneCellFields Tryd.prog (Tryd.prog.fieldsOf 31) = true := by kernel_rfl
    have hfs : Tryd.prog.underlying 31 = some (.struct (Tryd.prog.fieldsOf 31)) := by kernel_rfl
    obtain ⟨z0, rfl, s0⟩ := field_int hfs hone hd 0 _ v0 rfl rfl Tryd.underlying3
    obtain ⟨z1, rfl, s1⟩ := field_int hfs hone hd 1 _ v1 rfl rfl Tryd.underlying3
    obtain ⟨z2, rfl, _⟩ := field_int hfs hone hd 2 _ v2 rfl rfl Tryd.underlying3
    exact ⟨⟨z0, z1, z2⟩, rfl, by have := s1; simp [Lit.wf] at this; show z1 ≤ _; omega⟩) h hx
  refine ⟨L, h1, fun i e hi => ?_, fun i e hi => ?_⟩
  · obtain ⟨b, off, cs, p1, p2, p3, p4, rfl, _⟩ := h3 i e hi
    exact ⟨b, off, p1, p2, p4⟩
  · obtain ⟨b, off, cs, p1, p2, p3, p4, _, p5⟩ := h3 i e hi
    exact p5
end

theorem SealsAt.other {w w' : World} {b m : Nat} {l : Seals} {S : List Nat} (h : SealsAt w b m l) (hw : Wrote S w w') (hb : b ∉ S) (hm : m ∉ S) : SealsAt w' b m l :=
  ⟨hw.heap h.blk hb, h.map.touch hw hm⟩
/-- the code's seals and the document's, made in the call -/
structure SlSt (w : World) (base b m d : Nat) (l : Seals) (W : World) : Prop where
  at_ : SealsAt W b m l
  doc : ∃ v, RsAt W base d v (l.map (·.1))
  below : Below w.heap.size w W
  m0 : w.heap.size ≤ m
  b1 : b < base
  m1 : m < base
theorem SlSt.keep {w W W' : World} {base b m d : Nat} {l : Seals} (h : SlSt w base b m d l W) (hb : Below W.heap.size W W') : SlSt w base b m d l W' := by
  obtain ⟨h1, ⟨v, h2⟩, h3, h5, h6, h7⟩ := h
  exact ⟨h1.below hb, ⟨v, h2.below hb⟩, h3.trans (hb.mono h3.size), h5, h6, h7⟩
theorem aput_fst (l : Seals) (k : Int × Int) : (aput l k ()).map (·.1) = if hasB (l.map (·.1)) k then l.map (·.1) else l.map (·.1) ++ [k] := by
  induction l with
  | nil => rfl
  | cons p r ih =>
    unfold aput
    rw [List.map_cons, hasB_cons]
    by_cases h : p.1 = k
    · rw [if_pos (by simpa using h)]
      simp [h]
    · rw [if_neg (by simpa using h), List.map_cons, ih]
      simp only [h, decide_false, Bool.false_or]
      split <;> simp
theorem signS_fst (l : Seals) (who dg : Int) : (signS l who dg).map (·.1) = if okB who dg && !hasB (l.map (·.1)) (who, dg) then l.map (·.1) ++ [(who, dg)] else l.map (·.1) := by
  unfold signS
  cases hk : okB who dg with
  | false => simp
  | true =>
    simp only [if_true, Bool.true_and]
    rw [aput_fst]
    cases hasB (l.map (·.1)) (who, dg) <;> simp
theorem aput_len (l : Seals) (k : Int × Int) : (aput l k ()).length ≤ l.length + 1 := by
  induction l with
  | nil => simp [aput]
  | cons p r ih =>
    unfold aput
    split
    · simp
    · simp; omega
theorem signS_len (l : Seals) (who dg : Int) : (signS l who dg).length ≤ l.length + 1 := by
  unfold signS
  split
  · exact aput_len _ _
  · omega
/-- Between the two Signs. -/
structure SlMid (w : World) (base b m d : Nat) (l l' : Seals) (W : World) : Prop where
  at_ : SealsAt W b m l'
  doc : ∃ v, RsAt W base d v (l.map (·.1))
  below : Below w.heap.size w W
  m0 : w.heap.size ≤ m
  b1 : b < base
  m1 : m < base
theorem st_sign {w W : World} {base b m d : Nat} {l : Seals} {who dg : Int} (h : SlSt w base b m d l W) (hw : who ≤ 9223372036854775807) (hl : l.length ≤ 200) :
    Calls Tryd.prog 8 #[.pointer (some ⟨b, 0, none⟩), .int .i64 who, .int .i64 dg] W fun e W' => e = .returned (errS who (okB who dg)) ∧ SlMid w base b m d l (signS l who dg) W' ∧ Wrote [m] W W' := by
  obtain ⟨h1, ⟨v, h2⟩, h3, h5, h6, h7⟩ := h
  refine (sign_any b m l who dg W h1 hw (by omega)).mono ?_
  rintro e W' ⟨he, hs, ht⟩
  exact ⟨he, ⟨hs, ⟨v, h2.other ht (by have := h2.bd; simp; omega) fun g hg => by
    have := (row_block h2.row hg).1
    simp; omega⟩, h3.trans (ht.below h3.size fun k hk => by simp at hk; omega), h5, h6, h7⟩, ht⟩
def errN : Bool → Int
  | true => 0
  | false => 1
theorem errN_yes : errN true = 0 := rfl
theorem errN_no : errN false = 1 := rfl
theorem mid_sign {w W : World} {base b m d : Nat} {l : Seals} {who dg : Int} (h : SlMid w base b m d l (signS l who dg) W) (hl : l.length ≤ 200) (hbase : base ≤ W.heap.size) :
    Calls Tryd.prog 9 #[.pointer (some ⟨d, 0, none⟩), .int .i64 who, .int .i64 dg] W fun e W' => e = .returned (.int .i64 (errN (okB who dg))) ∧ SlSt w base b m d (signS l who dg) W' ∧ ∃ T, Wrote T W W' ∧ ∀ k ∈ T, ∃ cur t, W.heap[k]? = some (.cells cur t (0, 0)) ∧ (t = 29 ∨ t = 101) := by
  obtain ⟨h1, ⟨v, h2⟩, h3, h5, h6, h7⟩ := h
  refine (rsign_any base d v (l.map (·.1)) who dg W h2 (by simpa using by omega) hbase).mono ?_
  rintro e W' ⟨he, ⟨v', hv, hw⟩⟩
  have hT : ∀ k ∈ d :: v.ownBlock.toList, base ≤ k := fun k hk => by
    rcases List.mem_cons.1 hk with rfl | hk
    · exact h2.bd
    · exact (row_block h2.row (by simpa using hk)).1
  refine ⟨by rw [he]; cases okB who dg <;> rfl, ⟨h1.other hw (fun hm => by have := hT _ hm; omega) (fun hm => by have := hT _ hm; omega), ⟨v', by rw [signS_fst]; exact hv⟩, h3.trans (hw.below h3.size fun k hk => by have := hT k hk; omega), h5, h6, h7⟩, _, hw, fun k hk => ?_⟩
  rcases List.mem_cons.1 hk with rfl | hk
  · exact ⟨_, _, h2.blk, .inl rfl⟩
  · obtain ⟨_, cur, hc⟩ := row_block h2.row (by simpa using hk)
    exact ⟨_, _, hc, .inr rfl⟩
theorem st_signed {w W : World} {base b m d : Nat} {l : Seals} (who dg : Int) (h : SlSt w base b m d l W) : Calls Tryd.prog 13 #[.pointer (some ⟨b, 0, none⟩), .int .i64 who, .int .i64 dg] W fun e w' => e = .returned (.bool (signedB l who dg)) ∧ Below W.heap.size W w' := signed_any b m l who dg W h.at_
theorem st_rsigned {w W : World} {base b m d : Nat} {l : Seals} (who dg : Int) (h : SlSt w base b m d l W) (hl : l.length ≤ 200) : Calls Tryd.prog 14 #[.pointer (some ⟨d, 0, none⟩), .int .i64 who, .int .i64 dg] W fun e w' => e = .returned (.bool (signedB l who dg)) ∧ Below W.heap.size W w' := by
  obtain ⟨v, h2⟩ := h.doc
  refine (rsigned_l base d v l who dg W h2 (by omega)).mono ?_
  rintro e w' ⟨he, rfl⟩
  exact ⟨he, Below.refl _ _⟩
theorem st_who {w W : World} {base b m d : Nat} {l : Seals} (g dg : Int) (h : SlSt w base b m d l W) : Calls Tryd.prog 15 #[.pointer (some ⟨b, 0, none⟩), .int .i64 g, .int .i64 dg] W (WhoLeft W l g dg) := who_any b m l g dg W h.at_
theorem st_rwho {w W : World} {base b m d : Nat} {l : Seals} (g dg : Int) (h : SlSt w base b m d l W) (hl : l.length ≤ 200) : Calls Tryd.prog 16 #[.pointer (some ⟨d, 0, none⟩), .int .i64 g, .int .i64 dg] W (WhoLeft W l g dg) := by
  obtain ⟨v, h2⟩ := h.doc
  exact rwho_any base d v l g dg W h2 (by omega)
theorem who_lies {w w' : World} {l : Seals} {g dg : Int} {e : Ending} (h : WhoLeft w l g dg e w') : ∃ a cap, e = .returned (.slice a (whoL l g dg).length cap) ∧ Lies w' a 1 (fun x => [i64 x]) (whoL l g dg) ∧ Below w.heap.size w w' := by
  obtain ⟨v, he, h1, h2⟩ := h
  obtain ⟨a, cap, rfl, -⟩ := row_form h1
  refine ⟨a, cap, he, row_lies (base := w.heap.size) (e := 3) (n := (whoL l g dg).length) (cap := cap) ?_ (fun _ => rfl) rfl, h2⟩
  have : (whoL l g dg).flatMap (fun x => [i64 x]) = (whoL l g dg).map i64 := by
    induction whoL l g dg with
    | nil => rfl
    | cons x r ih => rw [List.flatMap_cons, ih]; rfl
  rw [this]
  exact h1
theorem bl_trans {A B C : World} (h : Below A.heap.size A B) (k : Below B.heap.size B C) : Below A.heap.size A C := h.trans (k.mono h.size)
theorem bl_alloc (B : World) (o : Obj) : Below B.heap.size B (B.alloc o) := (Below.refl _ B).alloc (Nat.le_refl _) o
theorem bl_drew (B : World) : Below B.heap.size B B.drew := ⟨rfl, rfl, rfl, Nat.le_refl _, fun _ _ => rfl⟩
theorem trail1 (s : StepT) (W : World) (hg : TypeIs W) : Calls Tryd.prog 12 #[errOf 1 [s]] W fun e w' => ∃ ra rc, e = .returned (.slice ra 1 rc) ∧ Lies w' ra 2 stepL [s] ∧ Below W.heap.size W w' := by
  refine (trail_of 1 [s] W hg (by simp)).mono ?_
  rintro e w' ⟨u, rfl, hrow, hb⟩
  obtain ⟨ra, rc, rfl, -⟩ := row_form hrow
  exact ⟨ra, rc, rfl, row_lies (n := 1) hrow (fun _ => rfl) rfl, hb⟩
theorem errS_yes (who : Int) : errS who true = .nilIface := rfl
theorem errS_no (who : Int) : errS who false = errOf 1 [(sealsW, who)] := rfl
theorem st_many {w W : World} {base b m d : Nat} {l : Seals} (h : SlSt w base b m d l W) (q : Nat) : Calls Tryd.prog 18 #[.pointer (some ⟨b, 0, none⟩)] (W.drewN q) fun e w' => e = .returned (.int .i64 (l.length : Int)) ∧ w' = W.drewN q :=
  (many_any b m l (W.drewN q) ⟨h.at_.blk, h.at_.map⟩).mono fun _ _ h => ⟨h.1, h.2.symm⟩
theorem whoL_len (l : Seals) (g d : Int) : (whoL l g d).length ≤ 10 := Nat.le_trans (List.length_filter_le _ _) (by simp [nums])
end Go.Proofs.YtmpbeopbkllcnaaDoor.Seals
