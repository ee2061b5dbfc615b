/- Txn: the arguments opened. -/
import Derived.Test.YtaifmfnmgnmgbaaGreatDoorTxHead
import Derived.Test.YtaifmfnmgnmgbaaGreatDoorSized
import Derived.Test.YtaifmfnmgnmgbaaGreatDoorKnob
namespace Go.Proofs.YtaifmfnmgnmgbaaGreatDoor.Txn
open Go.RowKit Go.My Go.Deep
theorem one1 {α : Type} : ∀ {l : List α}, l.length = 1 → ∃ a, l = [a]
  | [a], _ => ⟨a, rfl⟩
theorem two2 {α : Type} : ∀ {l : List α}, l.length = 2 → ∃ a b, l = [a, b]
  | [a, b], _ => ⟨a, b, rfl⟩
theorem four4 {α : Type} : ∀ {l : List α}, l.length = 4 → ∃ a b c d, l = [a, b, c, d]
  | [a, b, c, d], _ => ⟨a, b, c, d, rfl⟩
abbrev LiesU (w : World) (a : Option Addr) (l : List UInt8) : Prop := LiesAt w a 1 uvL l
/-- a transaction as it is handed in -/
structure TxZ where
  t : Tx
  ra : Option Addr
  rc : Nat
  wa : Option Addr
  wc : Nat
structure TIn (w : World) (z : TxZ) : Prop where
  wide : TxWide w z.t z.ra z.wa
  n1 : z.ra = none → z.rc = 0
  n2 : z.wa = none → z.wc = 0
section
variable {H : Type} {enc : TypeId × Value → H} {w : World} {base : Nat} {spare : Nat → Bool} {held : Bool}
theorem slice_of {fuel t e : Nat} {v : Value} {x : DataW H × List MemPlace} (ht : Tryz.prog.underlying t = some (.slice e)) (h : DataW.trod enc Tryz.prog w base spare held fuel t [v] = some x) : ∃ a n c, v = .slice a n c ∧ (a = none → c = 0) := by
  rcases open_slice ht h with ⟨h0, _⟩ | ⟨ad, len', cap', m, n, D, Pl, hcs, _⟩
  · exact ⟨none, 0, 0, by simpa using h0, fun _ => rfl⟩
  · exact ⟨_, _, _, by simpa using hcs, fun h => by cases h⟩
set_option maxRecDepth 100000 in
theorem open_rds {fuel len cap : Nat} {a : Option Addr} {x : DataW H × List MemPlace} (h : DataW.trod enc Tryz.prog w base spare held fuel 22 [.slice a len cap] = some x) (hx : Within Tryz.prog 22 x.1) :
    ∃ l : List Rd, l.length = len ∧ LiesAt w a 2 rdL l ∧ l.length ≤ 140737488355328 := by
  obtain ⟨l, h1, h4, h5, h2, h3⟩ := open_listB (R := fun _ cs (e : Rd) => cs = rdL e) (c := 2) Tryz.underlying22 (by kernel_rfl) (by omega) (fun n cs d hl hd _ => by
    obtain ⟨v0, v1, rfl⟩ := two2 hl
    have hone : oneCellFields Tryz.prog (Tryz.prog.fieldsOf 53) = true := by kernel_rfl
    have hfs : Tryz.prog.underlying 53 = some (.struct (Tryz.prog.fieldsOf 53)) := by kernel_rfl
    obtain ⟨z0, rfl, s0⟩ := field_string hfs hone hd 0 _ v0 rfl rfl (by kernel_rfl)
    obtain ⟨z1, rfl, s1⟩ := field_int (k := .i64) hfs hone hd 1 _ v1 rfl rfl (by kernel_rfl)
    exact ⟨⟨z0, z1⟩, rfl⟩) h hx
  refine ⟨l, h1, fun i e hi => ?_, ?_⟩
  · obtain ⟨b, off, cs, p1, p2, p3, p4, rfl⟩ := h3 i e hi
    exact ⟨b, off, p1, p2, p4⟩
  · have hb : Tryz.prog.bytesOf 53 = 24 := by kernel_rfl
    rw [hb] at h2
    unfold reachBytes at h2
    omega
set_option maxRecDepth 100000 in
theorem open_wrs {fuel len cap : Nat} {a : Option Addr} {x : DataW H × List MemPlace} (h : DataW.trod enc Tryz.prog w base spare held fuel 23 [.slice a len cap] = some x) (hx : Within Tryz.prog 23 x.1) :
    ∃ l : List Wr, l.length = len ∧ LiesAt w a 2 wrL l ∧ l.length ≤ 140737488355328 := by
  obtain ⟨l, h1, h4, h5, h2, h3⟩ := open_listB (R := fun _ cs (e : Wr) => cs = wrL e) (c := 2) Tryz.underlying23 (by kernel_rfl) (by omega) (fun n cs d hl hd _ => by
    obtain ⟨v0, v1, rfl⟩ := two2 hl
    have hone : oneCellFields Tryz.prog (Tryz.prog.fieldsOf 48) = true := by kernel_rfl
    have hfs : Tryz.prog.underlying 48 = some (.struct (Tryz.prog.fieldsOf 48)) := by kernel_rfl
    obtain ⟨z0, rfl, s0⟩ := field_string hfs hone hd 0 _ v0 rfl rfl (by kernel_rfl)
    obtain ⟨z1, rfl, s1⟩ := field_string hfs hone hd 1 _ v1 rfl rfl (by kernel_rfl)
    exact ⟨⟨z0, z1⟩, rfl⟩) h hx
  refine ⟨l, h1, fun i e hi => ?_, ?_⟩
  · obtain ⟨b, off, cs, p1, p2, p3, p4, rfl⟩ := h3 i e hi
    exact ⟨b, off, p1, p2, p4⟩
  · have hb : Tryz.prog.bytesOf 48 = 32 := by kernel_rfl
    rw [hb] at h2
    unfold reachBytes at h2
    omega
set_option maxRecDepth 100000 in
theorem open_u8s {fuel len cap : Nat} {a : Option Addr} {x : DataW H × List MemPlace} (h : DataW.trod enc Tryz.prog w base spare held fuel 26 [.slice a len cap] = some x) (hx : Within Tryz.prog 26 x.1) :
    ∃ l : List UInt8, l.length = len ∧ LiesU w a l ∧ (a = none → cap = 0) := by
  have hn : a = none → cap = 0 := by
    obtain ⟨a', n', c', e, hh⟩ := slice_of Tryz.underlying26 h
    cases e
    exact hh
  obtain ⟨l, h1, h4, h5, h2, h3⟩ := open_listB (R := fun _ cs (e : UInt8) => cs = uvL e) (c := 1) Tryz.underlying26 (by kernel_rfl) (by omega) (fun n cs d hl hd _ => by
    obtain ⟨v0, rfl⟩ := one1 hl
    obtain ⟨z, hz, _, hw⟩ := DataW.trod_int Tryz.underlying5 hd
    refine ⟨UInt8.ofNat z.toNat, ?_⟩
    have hb : 0 ≤ z ∧ z ≤ 255 := by simpa [Lit.wf, IntKind.min, IntKind.max, IntKind.bits, IntKind.signed] using hw
    rw [hz]
    unfold uvL Merkle.uv
    have : ((UInt8.ofNat z.toNat).toNat : Int) = z := by simp; omega
    rw [this]) h hx
  refine ⟨l, h1, fun i e hi => ?_, hn⟩
  obtain ⟨b, off, cs, p1, p2, p3, p4, rfl⟩ := h3 i e hi
  exact ⟨b, off, p1, p2, p4⟩
set_option maxRecDepth 100000 in
theorem open_txn {fuel : Nat} {cs : Array Value} {x : DataW H × List MemPlace} (hc : cs.size = Tryz.prog.cellsOf 25) (h : DataW.trod enc Tryz.prog w base spare held fuel 25 cs.toList = some x) (hx : Within Tryz.prog 25 x.1) :
    ∃ z : TxZ, cs = #[.int .i64 z.t.cl, .int .i64 z.t.num, .slice z.ra z.t.R.length z.rc, .slice z.wa z.t.W.length z.wc] ∧ TIn w z := by
  have hl : cs.toList.length = 4 := by
    have : Tryz.prog.cellsOf 25 = 4 := by kernel_rfl
    rw [Array.length_toList, hc, this]
  obtain ⟨v0, v1, v2, v3, hv⟩ := four4 hl
  rw [hv] at h
  have hone : oneCellFields Tryz.prog (Tryz.prog.fieldsOf 25) = true := by kernel_rfl
  have hfs : Tryz.prog.underlying 25 = some (.struct (Tryz.prog.fieldsOf 25)) := by kernel_rfl
  obtain ⟨z0, rfl, s0⟩ := field_int (k := .i64) hfs hone h 0 _ v0 rfl rfl (by kernel_rfl)
  obtain ⟨z1, rfl, s1⟩ := field_int (k := .i64) hfs hone h 1 _ v1 rfl rfl (by kernel_rfl)
  obtain ⟨n2, y2, g2, k2⟩ := open_fieldB hfs hone h hx 2 _ v2 rfl rfl
  obtain ⟨n3, y3, g3, k3⟩ := open_fieldB hfs hone h hx 3 _ v3 rfl rfl
  obtain ⟨a1, l1, c1, rfl, e1⟩ := slice_of Tryz.underlying22 g2
  obtain ⟨a2, l2, c2, rfl, e2⟩ := slice_of Tryz.underlying23 g3
  obtain ⟨L, rfl, hL, hL9⟩ := open_rds g2 k2
  obtain ⟨B, rfl, hB, hB9⟩ := open_wrs g3 k3
  refine ⟨⟨⟨z0, z1, L, B⟩, a1, c1, a2, c2⟩, ?_, ⟨⟨hL, hB, hL9, hB9⟩, e1, e2⟩⟩
  cases cs
  simpa using hv
end
end Go.Proofs.YtaifmfnmgnmgbaaGreatDoor.Txn
