/- The model: the arguments opened. -/
import Derived.Test.YtacdnpacpndekaaGr
import Derived.Test.YtacdnpacpndekaaSized
namespace Go.Proofs.Ytacdnpacpndekaa
open Go.RowKit Go.My Go.My.Model Go.Deep

theorem own : ownKnob Try.prog.godebug = none := by kernel_rfl
theorem laidOut : laidOutB Try.prog = true := by kernel_rfl
theorem two {α : Type} : ∀ {l : List α}, l.length = 2 → ∃ a b, l = [a, b]
  | [a, b], _ => ⟨a, b, rfl⟩
theorem four {α : Type} : ∀ {l : List α}, l.length = 4 → ∃ a b c d, l = [a, b, c, d]
  | [a, b, c, d], _ => ⟨a, b, c, d, rfl⟩
/-- so many transactions, each of so many reads and writes as memory holds -/
def Fine (T : List Tx) : Prop := T.length ≤ 4398046511104 ∧ ∀ t ∈ T, t.reads.length ≤ 8796093022208 ∧ t.writes.length ≤ 8796093022208
section
variable {H : Type} {enc : TypeId × Value → H} {w : World} {base : Nat} {spare : Nat → Bool} {held : Bool}
theorem open_reads {fuel : Nat} {v : Value} {x : DataW H × List MemPlace} (h : DataW.trod enc Try.prog w base spare held fuel 36 [v] = some x) (hx : Within Try.prog 36 x.1) :
    ∃ (a : Option Addr) (cap : Nat) (rs : List (ByteArray × Int)), v = .slice a rs.length cap ∧ rs.length ≤ 8796093022208 ∧ ListAt w a 2 ReadOf rs := by
  have hsl : ∃ a len cap, v = .slice a len cap := by
    rcases open_slice Try.underlying36 h with ⟨h0, _⟩ | ⟨ad, len', cap', m, n, D, Pl, hcs, _⟩
    · exact ⟨none, 0, 0, by simpa using h0⟩
    · exact ⟨some ad, len', cap', by simpa using hcs⟩
  obtain ⟨a, len, cap, rfl⟩ := hsl
  obtain ⟨rs, h1, _, _, h2, h3⟩ := open_listB (R := ReadOf) (c := 2) Try.underlying36 (by kernel_rfl) (by omega) (fun n cs d hl hd _ => by
    obtain ⟨v0, v1, rfl⟩ := two hl
    have hone : oneCellFields Try.prog (Try.prog.fieldsOf 43) = true := by kernel_rfl
    have hfs : Try.prog.underlying 43 = some (.struct (Try.prog.fieldsOf 43)) := by kernel_rfl
    obtain ⟨z0, rfl, _⟩ := field_string hfs hone hd 0 _ v0 rfl rfl Try.underlying9
    obtain ⟨z1, rfl, _⟩ := field_int hfs hone hd 1 _ v1 rfl rfl Try.underlying2
    exact ⟨(z0, z1), rfl⟩) h hx
  have hb : Try.prog.bytesOf 43 = 24 := by kernel_rfl
  rw [hb] at h2
  unfold reachBytes at h2
  exact ⟨a, cap, rs, by rw [h1], by omega, h3⟩
theorem open_writes {fuel : Nat} {v : Value} {x : DataW H × List MemPlace} (h : DataW.trod enc Try.prog w base spare held fuel 37 [v] = some x) (hx : Within Try.prog 37 x.1) :
    ∃ (a : Option Addr) (cap : Nat) (ws : List Wri), v = .slice a ws.length cap ∧ ws.length ≤ 8796093022208 ∧ ListAt w a 2 WriOf ws := by
  have hsl : ∃ a len cap, v = .slice a len cap := by
    rcases open_slice Try.underlying37 h with ⟨h0, _⟩ | ⟨ad, len', cap', m, n, D, Pl, hcs, _⟩
    · exact ⟨none, 0, 0, by simpa using h0⟩
    · exact ⟨some ad, len', cap', by simpa using hcs⟩
  obtain ⟨a, len, cap, rfl⟩ := hsl
  obtain ⟨ws, h1, _, _, h2, h3⟩ := open_listB (R := WriOf) (c := 2) Try.underlying37 (by kernel_rfl) (by omega) (fun n cs d hl hd _ => by
    obtain ⟨v0, v1, rfl⟩ := two hl
    have hone : oneCellFields Try.prog (Try.prog.fieldsOf 41) = true := by kernel_rfl
    have hfs : Try.prog.underlying 41 = some (.struct (Try.prog.fieldsOf 41)) := by kernel_rfl
    obtain ⟨z0, rfl, hm⟩ := field_string hfs hone hd 0 _ v0 rfl rfl Try.underlying9
    obtain ⟨z1, rfl, _⟩ := field_string hfs hone hd 1 _ v1 rfl rfl Try.underlying9
    exact ⟨(z0, z1), rfl, hm⟩) h hx
  have hb : Try.prog.bytesOf 41 = 32 := by kernel_rfl
  rw [hb] at h2
  unfold reachBytes at h2
  exact ⟨a, cap, ws, by rw [h1], by omega, h3⟩
theorem open_txns {fuel len cap : Nat} {a : Option Addr} {x : DataW H × List MemPlace} (h : DataW.trod enc Try.prog w base spare held fuel 22 [.slice a len cap] = some x) (hx : Within Try.prog 22 x.1) :
    ∃ T : List Tx, T.length = len ∧ OrdAt w a T ∧ Fine T := by
  obtain ⟨T, h1, _, _, h2, h3⟩ := open_listB (R := fun w cs t => TxOf w cs t ∧ t.reads.length ≤ 8796093022208 ∧ t.writes.length ≤ 8796093022208) (c := 4) Try.underlying22 (by kernel_rfl) (by omega) (fun n cs d hl hd hw => by
    obtain ⟨v0, v1, v2, v3, rfl⟩ := four hl
    have hone : oneCellFields Try.prog (Try.prog.fieldsOf 39) = true := by kernel_rfl
    have hfs : Try.prog.underlying 39 = some (.struct (Try.prog.fieldsOf 39)) := by kernel_rfl
    obtain ⟨z0, rfl, _⟩ := field_int hfs hone hd 0 _ v0 rfl rfl Try.underlying3
    obtain ⟨z1, rfl, _⟩ := field_int hfs hone hd 1 _ v1 rfl rfl Try.underlying2
    obtain ⟨n2, y2, g2, k2⟩ := open_fieldB hfs hone hd hw 2 _ v2 rfl rfl
    obtain ⟨n3, y3, g3, k3⟩ := open_fieldB hfs hone hd hw 3 _ v3 rfl rfl
    obtain ⟨ra, rc, rs, rfl, q1, q2⟩ := open_reads g2 k2
    obtain ⟨wa, wc, ws, rfl, q3, q4⟩ := open_writes g3 k3
    exact ⟨⟨z0, z1, rs, ws⟩, ⟨ra, rc, wa, wc, rfl, q2, q4⟩, q1, q3⟩) h hx
  have hb : Try.prog.bytesOf 39 = 64 := by kernel_rfl
  rw [hb] at h2
  unfold reachBytes at h2
  refine ⟨T, h1, fun i t hi => ?_, by omega, fun t ht => ?_⟩
  · obtain ⟨b, off, cs, p1, p2, p3, p4, p5⟩ := h3 i t hi
    exact ⟨b, off, cs, p1, p2, p3, p4, p5.1⟩
  · obtain ⟨i, hi⟩ := List.getElem?_of_mem ht
    obtain ⟨_, _, _, _, _, _, _, _, p5⟩ := h3 i t hi
    exact p5
end

/-- What Great says no to is small. -/
def Small (T : List Tx) : Prop := T.length ≤ 40 ∧ ∀ t ∈ T, t.reads.length + t.writes.length ≤ 40
def GreatLeft (w : World) (T : List Tx) (e : Ending) (w' : World) : Prop := ∃ g : Bool, e = .returned (.bool g) ∧ (g = false → Small T) ∧ Below w.heap.size w w'
set_option maxRecDepth 100000 in
set_option maxHeartbeats 1600000 in
theorem great_any (a : Option Addr) (cap : Nat) (T : List Tx) (w : World) (ho : OrdFar [] w a T) (hf : Fine T) : Calls Try.prog 9 #[.slice a T.length cap] w (GreatLeft w T) := by
  have HO := Lib.hid ho
  have HF := Lib.hid hf
  have hl := hf.1
  obtain ⟨n, hn⟩ : ∃ n, n = T.length := ⟨_, rfl⟩
  have HN := Lib.hid hn
  rw [← hn] at hl ⊢
  clear ho hf hn
  by_cases h40 : 40 < n
  · have h41 : (40 : Int) < (n : Int) := by omega
    go_enter Try.func9, Try.ntmps9
    go_wp2_with fail
    go_ret
    exact ⟨true, rfl, (fun h => by cases h), Below.refl _ _⟩
  · have h41 : ¬ (40 : Int) < (n : Int) := by omega
    go_enter Try.func9, Try.ntmps9
    go_wp2_with fail
    go_loopw [3] (fun i wr => ∃ j : Nat, j ≤ n ∧ i = .int .i64 j ∧ Hid (Below w.heap.size w wr ∧ ∀ t ∈ T.take j, t.reads.length + t.writes.length ≤ 40)) (fun i _ => n - (intOf i).toNat)
    case atStart => exact ⟨0, by omega, rfl, Below.refl _ _, by simp⟩
    case round =>
      obtain ⟨j, hj, rfl, HB⟩ := hrel
      by_cases hlt : j < n
      · obtain ⟨t, ht⟩ : ∃ t, T[j]? = some t := ⟨_, List.getElem?_eq_getElem (by rw [← HN.out]; exact hlt)⟩
        obtain ⟨g, o, rfl, hx⟩ := HO.out j t ht
        obtain ⟨ra, rc, x2, hr⟩ := hx.c2
        obtain ⟨wa, wc, x3, hw⟩ := hx.c3
        have hfine := HF.out.2 t (List.mem_of_getElem? ht)
        have ce : ∀ W, Below w.heap.size w W → W.cell? ⟨g, o + j * 4, none⟩ = some (.int .i64 t.client) ∧ W.cell? ⟨g, o + j * 4 + 1, none⟩ = some (.int .i64 t.num) ∧ W.cell? ⟨g, o + j * 4 + 2, none⟩ = some (.slice ra t.reads.length rc) ∧ W.cell? ⟨g, o + j * 4 + 3, none⟩ = some (.slice wa t.writes.length wc) := fun W hW =>
          ⟨(hW.cell (p := ⟨g, _, none⟩) hx.lt).trans hx.c0, (hW.cell (p := ⟨g, _, none⟩) hx.lt).trans hx.c1, (hW.cell (p := ⟨g, _, none⟩) hx.lt).trans x2, (hW.cell (p := ⟨g, _, none⟩) hx.lt).trans x3⟩
        have HCE := Lib.hid ce
        have HKG : Hid (∀ W, Below w.heap.size w W → Calls Try.prog 17 #[.agg #[.int .i64 t.client, .int .i64 t.num, .slice ra t.reads.length rc, .slice wa t.writes.length wc]] W (Some17 W (kgB t.reads t.writes))) := fun W hW => by
          refine kgreat_any _ _ _ _ _ _ t.reads t.writes W (fun q r hq => ?_) (fun q r hq => ?_) hfine.1 hfine.2
          · obtain ⟨g', o', e', hg', _, d0, d1⟩ := hr q r hq
            exact ⟨g', o', e', Nat.lt_of_lt_of_le hg' hW.size, (hW.cell (p := ⟨g', _, none⟩) hg').trans d0, (hW.cell (p := ⟨g', _, none⟩) hg').trans d1⟩
          · obtain ⟨g', o', e', hg', _, d0, d1, _⟩ := hw q r hq
            exact ⟨g', o', e', Nat.lt_of_lt_of_le hg' hW.size, (hW.cell (p := ⟨g', _, none⟩) hg').trans d0, (hW.cell (p := ⟨g', _, none⟩) hg').trans d1⟩
        have HT : Hid (T.take (j + 1) = T.take j ++ [t]) := by show _ = _; rw [List.take_add_one, ht]; rfl
        obtain ⟨rl, hrl⟩ : ∃ rl, rl = t.reads.length := ⟨_, rfl⟩
        obtain ⟨wl, hwl⟩ : ∃ wl, wl = t.writes.length := ⟨_, rfl⟩
        rw [← hrl, ← hwl] at HCE HKG hfine
        have HRL := Lib.hid hrl
        have HWL := Lib.hid hwl
        have hgw := hx.lt
        have hj0 : (0 : Int) ≤ (j : Int) := by omega
        have hj1 : (j : Int) < (n : Int) := by omega
        have hr9 : (rl : Int) ≤ 8796093022208 := by omega
        have hw9 : (wl : Int) ≤ 8796093022208 := by omega
        clear hx x2 x3 hr hw ce ht hrl hwl hfine
        have HQ : Hid (∀ X : Later wr, Calls Try.prog 17 #[.agg #[.int .i64 t.client, .int .i64 t.num, .slice ra rl rc, .slice wa wl wc]] X.1 fun e w' => e = .returned (.bool (kgB t.reads t.writes)) ∧ ∃ Y : Later wr, w' = Y.1) := fun X =>
          later_call ((HKG.out X.1 (HB.out.1.trans (X.2.mono HB.out.1.size))).mono fun _ _ h => h)
        have HCX : Hid (∀ X : Later wr, X.1.cell? ⟨g, o + j * 4, none⟩ = some (.int .i64 t.client) ∧ X.1.cell? ⟨g, o + j * 4 + 1, none⟩ = some (.int .i64 t.num) ∧ X.1.cell? ⟨g, o + j * 4 + 2, none⟩ = some (.slice ra rl rc) ∧ X.1.cell? ⟨g, o + j * 4 + 3, none⟩ = some (.slice wa wl wc)) := fun X => HCE.out X.1 (HB.out.1.trans (X.2.mono HB.out.1.size))
        have HEND : Hid (∀ X : Later wr, Below w.heap.size w X.1) := fun X => HB.out.1.trans (X.2.mono HB.out.1.size)
        generalize kgB t.reads t.writes = gg at HQ
        have x0 := fun X => (HCX.out X).1
        have x1 := fun X => (HCX.out X).2.1
        have x2 := fun X => (HCX.out X).2.2.1
        have x3 := fun X => (HCX.out X).2.2.2
        cases gg with
        | true =>
          go_wp2_with fail
          have here := Later.here wr
          refine wp_region_later (by kernel_rfl) (by kernel_rfl) ?_
          iterate 21 (with_reducible refine wpQuiet_step (fun K hK => ?_); go_simp; first | (refine hK _ ?_; clear hK K) | (apply Exists.intro; refine ⟨fun _ => ?_, hK _ ?_⟩; (go_at_call 17; with_reducible exact HQ.out _); clear hK K))
          with_reducible refine wpQuiet_nil ?_
          intro X
          go_wp2_with fail
          go_ret
          exact ⟨true, rfl, (fun h => by cases h), HEND.out X⟩
        | false =>
          have hwr : IntKind.i64.wrap ((wl : Int) + (rl : Int)) = (wl : Int) + (rl : Int) := by
            rw [IntKind.wrap_i64]; omega
          by_cases hsum : (40 : Int) < (wl : Int) + (rl : Int)
          · have hsw : (40 : Int) < IntKind.i64.wrap ((wl : Int) + (rl : Int)) := by rw [hwr]; exact hsum
            clear hwr
            go_wp2_with fail
            have here := Later.here wr
            refine wp_region_later (by kernel_rfl) (by kernel_rfl) ?_
            iterate 21 (with_reducible refine wpQuiet_step (fun K hK => ?_); go_simp; first | (refine hK _ ?_; clear hK K) | (apply Exists.intro; refine ⟨fun _ => ?_, hK _ ?_⟩; (go_at_call 17; with_reducible exact HQ.out _); clear hK K))
            with_reducible refine wpQuiet_nil ?_
            intro X
            go_wp2_with fail
            go_ret
            exact ⟨true, rfl, (fun h => by cases h), HEND.out X⟩
          · have HS : Hid (∀ t ∈ T.take (j + 1), t.reads.length + t.writes.length ≤ 40) := by
              show ∀ _, _
              rw [HT.out]
              intro t' ht'
              rcases List.mem_append.1 ht' with h | h
              · exact HB.out.2 t' h
              · simp at h
                subst h
                rw [← HRL.out, ← HWL.out]
                omega
            have hsw : ¬ (40 : Int) < IntKind.i64.wrap ((wl : Int) + (rl : Int)) := by rw [hwr]; exact hsum
            clear hwr
            go_wp2_with fail
            have here := Later.here wr
            refine wp_region_later (by kernel_rfl) (by kernel_rfl) ?_
            iterate 21 (with_reducible refine wpQuiet_step (fun K hK => ?_); go_simp; first | (refine hK _ ?_; clear hK K) | (apply Exists.intro; refine ⟨fun _ => ?_, hK _ ?_⟩; (go_at_call 17; with_reducible exact HQ.out _); clear hK K))
            with_reducible refine wpQuiet_nil ?_
            intro X
            go_wp2_with fail
            exact ⟨⟨j + 1, by omega, by simp, HEND.out X, HS.out⟩, by simp [intOf]; omega⟩
      · obtain rfl : j = n := by omega
        have hs : Hid (Small T) := ⟨by rw [← HN.out]; omega, by have := HB.out.2; rwa [List.take_of_length_le (by rw [← HN.out]; exact Nat.le_refl _)] at this⟩
        go_wp2_with fail
        go_ret
        exact ⟨false, rfl, fun _ => hs.out, HB.out.1⟩
end Go.Proofs.Ytacdnpacpndekaa
