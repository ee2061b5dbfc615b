/- A judge: its arguments opened. -/
import Derived.Test.YtpcmkifgfokdpaaJudge
import Derived.Test.YtpcmkifgfokdpaaSized
namespace Go.Proofs.Ytpcmkifgfokdpaa
open Go.RowKit Go.My Go.My.Model Go.Deep Go.ChangeShapes Go.WideShapes

theorem own : ownKnob Try.prog.godebug = none := by kernel_rfl
theorem laidOut : laidOutB Try.prog = true := by kernel_rfl
theorem lies_of {α : Type} {w : World} {a : Option Addr} {c : Nat} {f : α → List Value} {l : List α} (h : ListAt w a c (fun _ cs x => cs = f x) l) : Lies w a c f l := fun i x hi => by
  obtain ⟨g, o, cs, h1, h2, _, h4, rfl⟩ := h i x hi
  exact ⟨g, o, h1, h2, h4⟩
theorem n1 {α : Type} {l : List α} (h : l.length = 1) : ∃ v0, l = [v0] := by
  match l, h with
  | [v0], _ => exact ⟨_, rfl⟩
theorem n2 {α : Type} {l : List α} (h : l.length = 2) : ∃ v0 v1, l = [v0, v1] := by
  match l, h with
  | [v0, v1], _ => exact ⟨_, _, rfl⟩
theorem n3 {α : Type} {l : List α} (h : l.length = 3) : ∃ v0 v1 v2, l = [v0, v1, v2] := by
  match l, h with
  | [v0, v1, v2], _ => exact ⟨_, _, _, rfl⟩
theorem n4 {α : Type} {l : List α} (h : l.length = 4) : ∃ v0 v1 v2 v3, l = [v0, v1, v2, v3] := by
  match l, h with
  | [v0, v1, v2, v3], _ => exact ⟨_, _, _, _, rfl⟩
theorem n5 {α : Type} {l : List α} (h : l.length = 5) : ∃ v0 v1 v2 v3 v4, l = [v0, v1, v2, v3, v4] := by
  match l, h with
  | [v0, v1, v2, v3, v4], _ => exact ⟨_, _, _, _, _, rfl⟩
theorem n9 {α : Type} {l : List α} (h : l.length = 9) : ∃ v0 v1 v2 v3 v4 v5 v6 v7 v8, l = [v0, v1, v2, v3, v4, v5, v6, v7, v8] := by
  match l, h with
  | [v0, v1, v2, v3, v4, v5, v6, v7, v8], _ => exact ⟨_, _, _, _, _, _, _, _, _, rfl⟩
theorem n10 {α : Type} {l : List α} (h : l.length = 10) : ∃ v0 v1 v2 v3 v4 v5 v6 v7 v8 v9, l = [v0, v1, v2, v3, v4, v5, v6, v7, v8, v9] := by
  match l, h with
  | [v0, v1, v2, v3, v4, v5, v6, v7, v8, v9], _ => exact ⟨_, _, _, _, _, _, _, _, _, _, rfl⟩
theorem n12 {α : Type} {l : List α} (h : l.length = 12) : ∃ v0 v1 v2 v3 v4 v5 v6 v7 v8 v9 v10 v11, l = [v0, v1, v2, v3, v4, v5, v6, v7, v8, v9, v10, v11] := by
  match l, h with
  | [v0, v1, v2, v3, v4, v5, v6, v7, v8, v9, v10, v11], _ => exact ⟨_, _, _, _, _, _, _, _, _, _, _, _, rfl⟩
section
variable {H : Type} {enc : TypeId × Value → H} {w : World} {base : Nat} {spare : Nat → Bool} {held : Bool}
theorem a_slice {t e : TypeId} {fuel : Nat} {v : Value} {x : DataW H × List MemPlace} (ht : Try.prog.underlying t = some (.slice e)) (h : DataW.trod enc Try.prog w base spare held fuel t [v] = some x) : ∃ s : Sl, v = s.v := by
  rcases open_slice ht h with ⟨h0, _⟩ | ⟨ad, len', cap', m, n, D, Pl, hcs, _⟩
  · exact ⟨⟨none, 0, 0⟩, by simpa [Sl.v] using h0⟩
  · exact ⟨⟨some ad, len', cap'⟩, by simpa [Sl.v] using hcs⟩
/-- a field of whatever cells, of a struct, with its bounds -/
theorem open_fieldC {ts : TypeId} {fs : Array Field} {fuel : Nat} {cs : List Value} {x : DataW H × List MemPlace} (hs : Try.prog.underlying ts = some (.struct fs))
    (h : DataW.trod enc Try.prog w base spare held fuel ts cs = some x) (j : Nat) (f : Field) (hj : fs[j]? = some f) : ∃ n y, DataW.trod enc Try.prog w base spare held n f.type ((cs.drop f.offset).take (Try.prog.cellsOf f.type)) = some y := by
  obtain ⟨ys, n', _, hxe, _, hyl, hf⟩ := DataW.trod_struct hs h
  have h1 := hf j f hj
  have hjf := (Array.getElem?_eq_some_iff.1 hj).1
  have hy : ys[j]? = some (ys[j]'(by omega)) := List.getElem?_eq_getElem (by omega)
  rw [hy] at h1
  exact ⟨n', _, h1⟩
set_option maxRecDepth 100000 in
theorem open_ran {fuel : Nat} {v : Value} {x : DataW H × List MemPlace} (h : DataW.trod enc Try.prog w base spare held fuel 34 [v] = some x) (hx : Within Try.prog 34 x.1) :
    ∃ (s : Sl) (l : List Ran), v = s.v ∧ s.n = l.length ∧ l.length ≤ 70368744177664 ∧ Lies w s.a 2 ranL l := by
  obtain ⟨s, rfl⟩ := a_slice Try.underlying34 h
  obtain ⟨l, h1, _, _, h2, h3⟩ := open_listB (R := fun _ cs x => cs = ranL x) (c := 2) Try.underlying34 (by kernel_rfl) (by omega) (fun n cs d hl hd _ => by
    obtain ⟨v0, v1, rfl⟩ := n2 hl
    have hone : oneCellFields Try.prog (Try.prog.fieldsOf 47) = true := by kernel_rfl
    have hfs : Try.prog.underlying 47 = some (.struct (Try.prog.fieldsOf 47)) := by kernel_rfl
    obtain ⟨z0, rfl, _⟩ := field_int hfs hone hd 0 _ v0 rfl rfl Try.underlying2
    obtain ⟨z1, rfl, _⟩ := field_int hfs hone hd 1 _ v1 rfl rfl Try.underlying3
    exact ⟨⟨z0, z1⟩, rfl⟩) h hx
  have hb : Try.prog.bytesOf 47 = 16 := by kernel_rfl
  rw [hb] at h2
  unfold reachBytes at h2
  exact ⟨s, l, rfl, h1.symm, by omega, lies_of h3⟩
set_option maxRecDepth 100000 in
theorem open_says {fuel : Nat} {v : Value} {x : DataW H × List MemPlace} (h : DataW.trod enc Try.prog w base spare held fuel 35 [v] = some x) (hx : Within Try.prog 35 x.1) :
    ∃ (s : Sl) (l : List Say), v = s.v ∧ s.n = l.length ∧ l.length ≤ 70368744177664 ∧ Lies w s.a 9 sayL l := by
  obtain ⟨s, rfl⟩ := a_slice Try.underlying35 h
  obtain ⟨l, h1, _, _, h2, h3⟩ := open_listB (R := fun _ cs x => cs = sayL x) (c := 9) Try.underlying35 (by kernel_rfl) (by omega) (fun n cs d hl hd _ => by
    obtain ⟨v0, v1, v2, v3, v4, v5, v6, v7, v8, rfl⟩ := n9 hl
    have hone : oneCellFields Try.prog (Try.prog.fieldsOf 53) = true := by kernel_rfl
    have hfs : Try.prog.underlying 53 = some (.struct (Try.prog.fieldsOf 53)) := by kernel_rfl
    obtain ⟨z0, rfl, _⟩ := field_int hfs hone hd 0 _ v0 rfl rfl Try.underlying3
    obtain ⟨z1, rfl, _⟩ := field_int hfs hone hd 1 _ v1 rfl rfl Try.underlying3
    obtain ⟨z2, rfl⟩ := field_bool hfs hone hd 2 _ v2 rfl rfl Try.underlying4
    obtain ⟨z3, rfl, _⟩ := field_string hfs hone hd 3 _ v3 rfl rfl Try.underlying9
    obtain ⟨z4, rfl, _⟩ := field_string hfs hone hd 4 _ v4 rfl rfl Try.underlying9
    obtain ⟨z5, rfl, _⟩ := field_int hfs hone hd 5 _ v5 rfl rfl Try.underlying2
    obtain ⟨z6, rfl, _⟩ := field_int hfs hone hd 6 _ v6 rfl rfl Try.underlying3
    obtain ⟨z7, rfl, _⟩ := field_int hfs hone hd 7 _ v7 rfl rfl Try.underlying3
    obtain ⟨z8, rfl, _⟩ := field_int hfs hone hd 8 _ v8 rfl rfl Try.underlying3
    exact ⟨⟨z0, z1, z2, z3, z4, z5, z6, z7, z8⟩, rfl⟩) h hx
  have hb : Try.prog.bytesOf 53 = 88 := by kernel_rfl
  rw [hb] at h2
  unfold reachBytes at h2
  exact ⟨s, l, rfl, h1.symm, by omega, lies_of h3⟩
set_option maxRecDepth 100000 in
theorem open_ents {fuel : Nat} {v : Value} {x : DataW H × List MemPlace} (h : DataW.trod enc Try.prog w base spare held fuel 37 [v] = some x) (hx : Within Try.prog 37 x.1) :
    ∃ (s : Sl) (l : List Ent), v = s.v ∧ s.n = l.length ∧ l.length ≤ 70368744177664 ∧ Lies w s.a 3 etL l := by
  obtain ⟨s, rfl⟩ := a_slice Try.underlying37 h
  obtain ⟨l, h1, _, _, h2, h3⟩ := open_listB (R := fun _ cs x => cs = etL x) (c := 3) Try.underlying37 (by kernel_rfl) (by omega) (fun n cs d hl hd _ => by
    obtain ⟨v0, v1, v2, rfl⟩ := n3 hl
    have hone : oneCellFields Try.prog (Try.prog.fieldsOf 43) = true := by kernel_rfl
    have hfs : Try.prog.underlying 43 = some (.struct (Try.prog.fieldsOf 43)) := by kernel_rfl
    obtain ⟨z0, rfl, _⟩ := field_string hfs hone hd 0 _ v0 rfl rfl Try.underlying9
    obtain ⟨z1, rfl, _⟩ := field_string hfs hone hd 1 _ v1 rfl rfl Try.underlying9
    obtain ⟨z2, rfl, _⟩ := field_int hfs hone hd 2 _ v2 rfl rfl Try.underlying2
    exact ⟨⟨z0, z1, z2⟩, rfl⟩) h hx
  have hb : Try.prog.bytesOf 43 = 40 := by kernel_rfl
  rw [hb] at h2
  unfold reachBytes at h2
  exact ⟨s, l, rfl, h1.symm, by omega, lies_of h3⟩
set_option maxRecDepth 100000 in
theorem open_held {fuel : Nat} {v : Value} {x : DataW H × List MemPlace} (h : DataW.trod enc Try.prog w base spare held fuel 38 [v] = some x) (hx : Within Try.prog 38 x.1) :
    ∃ (s : Sl) (l : List Hel), v = s.v ∧ s.n = l.length ∧ l.length ≤ 70368744177664 ∧ Lies w s.a 5 helL l := by
  obtain ⟨s, rfl⟩ := a_slice Try.underlying38 h
  obtain ⟨l, h1, _, _, h2, h3⟩ := open_listB (R := fun _ cs x => cs = helL x) (c := 5) Try.underlying38 (by kernel_rfl) (by omega) (fun n cs d hl hd _ => by
    obtain ⟨v0, v1, v2, v3, v4, rfl⟩ := n5 hl
    have hone : oneCellFields Try.prog (Try.prog.fieldsOf 49) = true := by kernel_rfl
    have hfs : Try.prog.underlying 49 = some (.struct (Try.prog.fieldsOf 49)) := by kernel_rfl
    obtain ⟨z0, rfl, _⟩ := field_string hfs hone hd 0 _ v0 rfl rfl Try.underlying9
    obtain ⟨z1, rfl, _⟩ := field_string hfs hone hd 1 _ v1 rfl rfl Try.underlying9
    obtain ⟨z2, rfl, _⟩ := field_int hfs hone hd 2 _ v2 rfl rfl Try.underlying2
    obtain ⟨z3, rfl⟩ := field_bool hfs hone hd 3 _ v3 rfl rfl Try.underlying4
    obtain ⟨z4, rfl, _⟩ := field_int hfs hone hd 4 _ v4 rfl rfl Try.underlying3
    exact ⟨⟨z0, z1, z2, z3, z4⟩, rfl⟩) h hx
  have hb : Try.prog.bytesOf 49 = 56 := by kernel_rfl
  rw [hb] at h2
  unfold reachBytes at h2
  exact ⟨s, l, rfl, h1.symm, by omega, lies_of h3⟩
set_option maxRecDepth 100000 in
theorem open_recs {fuel : Nat} {v : Value} {x : DataW H × List MemPlace} (h : DataW.trod enc Try.prog w base spare held fuel 36 [v] = some x) (hx : Within Try.prog 36 x.1) :
    ∃ (s : Sl) (l : List Rec), v = s.v ∧ s.n = l.length ∧ l.length ≤ 70368744177664 ∧ Lies w s.a 10 recL l := by
  obtain ⟨s, rfl⟩ := a_slice Try.underlying36 h
  obtain ⟨l, h1, _, _, h2, h3⟩ := open_listB (R := fun _ cs x => cs = recL x) (c := 10) Try.underlying36 (by kernel_rfl) (by omega) (fun n cs d hl hd _ => by
    obtain ⟨v0, v1, v2, v3, v4, v5, v6, v7, v8, v9, rfl⟩ := n10 hl
    have hfs : Try.prog.underlying 59 = some (.struct (Try.prog.fieldsOf 59)) := by kernel_rfl
    obtain ⟨m0, y0, g0⟩ := open_fieldC hfs hd 0 _ rfl
    obtain ⟨m1, y1, g1⟩ := open_fieldC hfs hd 1 _ rfl
    obtain ⟨m2, y2, g2⟩ := open_fieldC hfs hd 2 _ rfl
    obtain ⟨m3, y3, g3⟩ := open_fieldC hfs hd 3 _ rfl
    obtain ⟨m4, y4, g4⟩ := open_fieldC hfs hd 4 _ rfl
    obtain ⟨m5, y5, g5⟩ := open_fieldC hfs hd 5 _ rfl
    obtain ⟨z0, hz0, _, _⟩ := DataW.trod_int Try.underlying3 g0
    obtain ⟨z1, hz1, _, _⟩ := DataW.trod_int Try.underlying3 g1
    obtain ⟨s2, hz2⟩ := a_slice Try.underlying27 (v := v2) g2
    obtain ⟨s3, hz3⟩ := a_slice Try.underlying23 (v := v3) g3
    obtain ⟨s4, hz4⟩ := a_slice Try.underlying23 (v := v4) g4
    obtain ⟨s5, hz5⟩ := a_slice Try.underlying23 (v := v5) g5
    obtain ⟨m6, y6, g6⟩ := open_fieldC hfs hd 6 _ rfl
    have g6' : DataW.trod enc Try.prog w base spare held m6 57 [v6, v7, v8, v9] = some y6 := g6
    have hone : oneCellFields Try.prog (Try.prog.fieldsOf 57) = true := by kernel_rfl
    have hfs2 : Try.prog.underlying 57 = some (.struct (Try.prog.fieldsOf 57)) := by kernel_rfl
    obtain ⟨z6, rfl, _⟩ := field_int hfs2 hone g6' 0 _ v6 rfl rfl Try.underlying3
    obtain ⟨z7, rfl, _⟩ := field_int hfs2 hone g6' 1 _ v7 rfl rfl Try.underlying2
    obtain ⟨n8, y8, g8⟩ := open_field hfs2 hone g6' 2 _ v8 rfl rfl
    obtain ⟨n9, y9, g9⟩ := open_field hfs2 hone g6' 3 _ v9 rfl rfl
    obtain ⟨s8, rfl⟩ := a_slice Try.underlying54 g8
    obtain ⟨s9, rfl⟩ := a_slice Try.underlying55 g9
    have hz0' : [v0] = [.int .i64 z0] := hz0
    have hz1' : [v1] = [.int .i64 z1] := hz1
    simp only [List.cons.injEq, and_true] at hz0' hz1'
    subst hz0' hz1' hz2 hz3 hz4 hz5
    exact ⟨⟨z0, z1, s2, s3, s4, s5, z6, z7, s8, s9⟩, rfl⟩) h hx
  have hb : Try.prog.bytesOf 59 = 176 := by kernel_rfl
  rw [hb] at h2
  unfold reachBytes at h2
  exact ⟨s, l, rfl, h1.symm, by omega, lies_of h3⟩
/-- so much as memory holds -/
structure FineS (s : Seen) : Prop where
  ran : s.ran.length ≤ 70368744177664
  says : s.says.length ≤ 70368744177664
  recs : s.recs.length ≤ 70368744177664
  ents : s.ents.length ≤ 70368744177664
  held : s.held.length ≤ 70368744177664
set_option maxRecDepth 100000 in
theorem open_seen {fuel : Nat} {cs : List Value} {x : DataW H × List MemPlace} (hl : cs.length = 12) (h : DataW.trod enc Try.prog w base spare held fuel 41 cs = some x) (hx : Within Try.prog 41 x.1) : ∃ s : Seen, cs = seenL s ∧ SeenIn w s ∧ FineS s := by
  obtain ⟨v0, v1, v2, v3, v4, v5, v6, v7, v8, v9, v10, v11, rfl⟩ := n12 hl
  have hone : oneCellFields Try.prog (Try.prog.fieldsOf 41) = true := by kernel_rfl
  have hfs : Try.prog.underlying 41 = some (.struct (Try.prog.fieldsOf 41)) := by kernel_rfl
  obtain ⟨z0, rfl, _⟩ := field_int hfs hone h 0 _ v0 rfl rfl Try.underlying2
  obtain ⟨z1, rfl⟩ := field_bool hfs hone h 1 _ v1 rfl rfl Try.underlying4
  obtain ⟨z2, rfl, _⟩ := field_int hfs hone h 2 _ v2 rfl rfl Try.underlying2
  obtain ⟨z3, rfl, _⟩ := field_int hfs hone h 3 _ v3 rfl rfl Try.underlying2
  obtain ⟨z4, rfl, _⟩ := field_int hfs hone h 4 _ v4 rfl rfl Try.underlying3
  obtain ⟨n5', y5, g5, k5⟩ := open_fieldB hfs hone h hx 5 _ v5 rfl rfl
  obtain ⟨s5, l5, rfl, a5, b5, c5⟩ := open_ran g5 k5
  obtain ⟨n6', y6, g6, k6⟩ := open_fieldB hfs hone h hx 6 _ v6 rfl rfl
  obtain ⟨s6, l6, rfl, a6, b6, c6⟩ := open_says g6 k6
  obtain ⟨n7', y7, g7, k7⟩ := open_fieldB hfs hone h hx 7 _ v7 rfl rfl
  obtain ⟨s7, l7, rfl, a7, b7, c7⟩ := open_recs g7 k7
  obtain ⟨n8', y8, g8, k8⟩ := open_fieldB hfs hone h hx 8 _ v8 rfl rfl
  obtain ⟨s8, l8, rfl, a8, b8, c8⟩ := open_ents g8 k8
  obtain ⟨n9', y9, g9, k9⟩ := open_fieldB hfs hone h hx 9 _ v9 rfl rfl
  obtain ⟨s9, l9, rfl, a9, b9, c9⟩ := open_held g9 k9
  obtain ⟨n10', y10, g10⟩ := open_field hfs hone h 10 _ v10 rfl rfl
  obtain ⟨s10, rfl⟩ := a_slice Try.underlying39 g10
  obtain ⟨n11', y11, g11⟩ := open_field hfs hone h 11 _ v11 rfl rfl
  obtain ⟨s11, rfl⟩ := a_slice Try.underlying35 g11
  exact ⟨⟨z0, z1, z2, z3, z4, s5, s6, s7, s8, s9, s10, s11, l5, l6, l7, l8, l9⟩, rfl, ⟨a5, a6, a7, a8, a9, c5, c6, c7, c8, c9⟩, ⟨b5, b6, b7, b8, b9⟩⟩
set_option maxRecDepth 100000 in
theorem open_seens {fuel : Nat} {v : Value} {x : DataW H × List MemPlace} (h : DataW.trod enc Try.prog w base spare held fuel 24 [v] = some x) (hx : Within Try.prog 24 x.1) :
    ∃ (s : Sl) (l : List Seen), v = s.v ∧ s.n = l.length ∧ s.n ≤ s.cap ∧ s.cap ≤ maxLen ∧ l.length ≤ 70368744177664 ∧ Lies w s.a 12 seenL l ∧ ∀ y ∈ l, SeenIn w y ∧ FineS y := by
  obtain ⟨s, rfl⟩ := a_slice Try.underlying24 h
  obtain ⟨l, h1, q1, q2, h2, h3⟩ := open_listB (R := fun _ cs x => cs = seenL x ∧ SeenIn w x ∧ FineS x) (c := 12) Try.underlying24 (by kernel_rfl) (by omega) (fun n cs d hl hd hw => open_seen hl hd hw) h hx
  have hb : Try.prog.bytesOf 41 = 208 := by kernel_rfl
  rw [hb] at h2
  unfold reachBytes at h2
  refine ⟨s, l, rfl, h1.symm, q1, q2, by omega, fun i x hi => ?_, fun y hy => ?_⟩
  · obtain ⟨g, o, cs, p1, p2, _, p4, rfl, _⟩ := h3 i x hi
    exact ⟨g, o, p1, p2, p4⟩
  · obtain ⟨i, hi⟩ := List.getElem?_of_mem hy
    obtain ⟨_, _, _, _, _, _, _, _, p5⟩ := h3 i y hi
    exact p5
set_option maxRecDepth 100000 in
theorem open_ints {fuel : Nat} {v : Value} {x : DataW H × List MemPlace} (h : DataW.trod enc Try.prog w base spare held fuel 23 [v] = some x) (hx : Within Try.prog 23 x.1) :
    ∃ (s : Sl) (l : List Int), v = s.v ∧ s.n = l.length ∧ l.length ≤ 70368744177664 ∧ Lies w s.a 1 intL l := by
  obtain ⟨s, rfl⟩ := a_slice Try.underlying23 h
  obtain ⟨l, h1, _, _, h2, h3⟩ := open_listB (R := fun _ cs x => cs = intL x) (c := 1) Try.underlying23 (by kernel_rfl) (by omega) (fun n cs d hl hd _ => by
    obtain ⟨v0, rfl⟩ := n1 hl
    obtain ⟨z, hz, _, _⟩ := DataW.trod_int Try.underlying3 hd
    exact ⟨z, hz⟩) h hx
  have hb : Try.prog.bytesOf 3 = 8 := by kernel_rfl
  rw [hb] at h2
  unfold reachBytes at h2
  exact ⟨s, l, rfl, h1.symm, by omega, lies_of h3⟩
set_option maxRecDepth 100000 in
theorem open_reads {fuel : Nat} {v : Value} {x : DataW H × List MemPlace} (h : DataW.trod enc Try.prog w base spare held fuel 54 [v] = some x) (hx : Within Try.prog 54 x.1) :
    ∃ (a : Option Addr) (cap : Nat) (rs : List (ByteArray × Int)), v = .slice a rs.length cap ∧ rs.length ≤ 70368744177664 ∧ ListAt w a 2 ReadOf rs := by
  obtain ⟨⟨a, len, cap⟩, rfl⟩ := a_slice Try.underlying54 h
  obtain ⟨rs, h1, _, _, h2, h3⟩ := open_listB (R := ReadOf) (c := 2) Try.underlying54 (by kernel_rfl) (by omega) (fun n cs d hl hd _ => by
    obtain ⟨v0, v1, rfl⟩ := n2 hl
    have hone : oneCellFields Try.prog (Try.prog.fieldsOf 73) = true := by kernel_rfl
    have hfs : Try.prog.underlying 73 = some (.struct (Try.prog.fieldsOf 73)) := by kernel_rfl
    obtain ⟨z0, rfl, _⟩ := field_string hfs hone hd 0 _ v0 rfl rfl Try.underlying9
    obtain ⟨z1, rfl, _⟩ := field_int hfs hone hd 1 _ v1 rfl rfl Try.underlying2
    exact ⟨(z0, z1), rfl⟩) h hx
  have hb : Try.prog.bytesOf 73 = 24 := by kernel_rfl
  rw [hb] at h2
  unfold reachBytes at h2
  exact ⟨a, cap, rs, by unfold Sl.v; rw [h1], by omega, h3⟩
set_option maxRecDepth 100000 in
theorem open_writes {fuel : Nat} {v : Value} {x : DataW H × List MemPlace} (h : DataW.trod enc Try.prog w base spare held fuel 55 [v] = some x) (hx : Within Try.prog 55 x.1) :
    ∃ (a : Option Addr) (cap : Nat) (ws : List Wri), v = .slice a ws.length cap ∧ ws.length ≤ 70368744177664 ∧ ListAt w a 2 WriOf ws := by
  obtain ⟨⟨a, len, cap⟩, rfl⟩ := a_slice Try.underlying55 h
  obtain ⟨ws, h1, _, _, h2, h3⟩ := open_listB (R := WriOf) (c := 2) Try.underlying55 (by kernel_rfl) (by omega) (fun n cs d hl hd _ => by
    obtain ⟨v0, v1, rfl⟩ := n2 hl
    have hone : oneCellFields Try.prog (Try.prog.fieldsOf 75) = true := by kernel_rfl
    have hfs : Try.prog.underlying 75 = some (.struct (Try.prog.fieldsOf 75)) := by kernel_rfl
    obtain ⟨z0, rfl, hm⟩ := field_string hfs hone hd 0 _ v0 rfl rfl Try.underlying9
    obtain ⟨z1, rfl, _⟩ := field_string hfs hone hd 1 _ v1 rfl rfl Try.underlying9
    exact ⟨(z0, z1), rfl, hm⟩) h hx
  have hb : Try.prog.bytesOf 75 = 32 := by kernel_rfl
  rw [hb] at h2
  unfold reachBytes at h2
  exact ⟨a, cap, ws, by unfold Sl.v; rw [h1], by omega, h3⟩
/-- so many transactions, each of so many reads and writes as memory holds -/
def FineT (T : List Tx) : Prop := T.length ≤ 70368744177664 ∧ ∀ t ∈ T, t.reads.length ≤ 70368744177664 ∧ t.writes.length ≤ 70368744177664
set_option maxRecDepth 100000 in
theorem open_txns {fuel : Nat} {v : Value} {x : DataW H × List MemPlace} (h : DataW.trod enc Try.prog w base spare held fuel 22 [v] = some x) (hx : Within Try.prog 22 x.1) :
    ∃ (s : Sl) (T : List Tx), v = s.v ∧ s.n = T.length ∧ s.n ≤ s.cap ∧ OrdAt w s.a T ∧ FineT T := by
  obtain ⟨s, rfl⟩ := a_slice Try.underlying22 h
  obtain ⟨T, h1, q1, _, h2, h3⟩ := open_listB (R := fun w cs t => TxOf w cs t ∧ t.reads.length ≤ 70368744177664 ∧ t.writes.length ≤ 70368744177664) (c := 4) Try.underlying22 (by kernel_rfl) (by omega) (fun n cs d hl hd hw => by
    obtain ⟨v0, v1, v2, v3, rfl⟩ := n4 hl
    have hone : oneCellFields Try.prog (Try.prog.fieldsOf 57) = true := by kernel_rfl
    have hfs : Try.prog.underlying 57 = some (.struct (Try.prog.fieldsOf 57)) := by kernel_rfl
    obtain ⟨z0, rfl, _⟩ := field_int hfs hone hd 0 _ v0 rfl rfl Try.underlying3
    obtain ⟨z1, rfl, _⟩ := field_int hfs hone hd 1 _ v1 rfl rfl Try.underlying2
    obtain ⟨n2, y2, g2, k2⟩ := open_fieldB hfs hone hd hw 2 _ v2 rfl rfl
    obtain ⟨n3, y3, g3, k3⟩ := open_fieldB hfs hone hd hw 3 _ v3 rfl rfl
    obtain ⟨ra, rc, rs, rfl, q1, q2⟩ := open_reads g2 k2
    obtain ⟨wa, wc, ws, rfl, q3, q4⟩ := open_writes g3 k3
    exact ⟨⟨z0, z1, rs, ws⟩, ⟨ra, rc, wa, wc, rfl, q2, q4⟩, q1, q3⟩) h hx
  have hb : Try.prog.bytesOf 57 = 64 := by kernel_rfl
  rw [hb] at h2
  unfold reachBytes at h2
  refine ⟨s, T, rfl, h1.symm, q1, fun i t hi => ?_, by omega, fun t ht => ?_⟩
  · obtain ⟨b, off, cs, p1, p2, p3, p4, p5⟩ := h3 i t hi
    exact ⟨b, off, cs, p1, p2, p3, p4, p5.1⟩
  · obtain ⟨i, hi⟩ := List.getElem?_of_mem ht
    obtain ⟨_, _, _, _, _, _, _, _, p5⟩ := h3 i t hi
    exact p5
/-- A trial in memory. -/
structure TrialIn (w : World) (o g s : Sl) (T : List Tx) (G : List Int) (S : List Seen) : Prop where
  on : o.n = T.length
  oc : o.n ≤ o.cap
  gn : g.n = G.length
  sn : s.n = S.length
  sc : s.n ≤ s.cap
  sm : s.cap ≤ maxLen
  ord : OrdAt w o.a T
  groups : Lies w g.a 1 intL G
  seen : Lies w s.a 12 seenL S
  each : ∀ x ∈ S, SeenIn w x ∧ FineS x
  ft : FineT T
  fg : G.length ≤ 70368744177664
  fs : S.length ≤ 70368744177664
set_option maxRecDepth 100000 in
theorem open_trial {fuel : Nat} {cs : List Value} {x : DataW H × List MemPlace} (hl : cs.length = 3) (h : DataW.trod enc Try.prog w base spare held fuel 26 cs = some x) (hx : Within Try.prog 26 x.1) : ∃ (o g s : Sl) (T : List Tx) (G : List Int) (S : List Seen), cs = [o.v, g.v, s.v] ∧ TrialIn w o g s T G S := by
  obtain ⟨v0, v1, v2, rfl⟩ := n3 hl
  have hone : oneCellFields Try.prog (Try.prog.fieldsOf 26) = true := by kernel_rfl
  have hfs : Try.prog.underlying 26 = some (.struct (Try.prog.fieldsOf 26)) := by kernel_rfl
  obtain ⟨n0, y0, g0, k0⟩ := open_fieldB hfs hone h hx 0 _ v0 rfl rfl
  obtain ⟨n1, y1, g1, k1⟩ := open_fieldB hfs hone h hx 1 _ v1 rfl rfl
  obtain ⟨n2, y2, g2, k2⟩ := open_fieldB hfs hone h hx 2 _ v2 rfl rfl
  obtain ⟨o, T, rfl, a1, a2, a3, a4⟩ := open_txns g0 k0
  obtain ⟨g, G, rfl, b1, b2, b3⟩ := open_ints g1 k1
  obtain ⟨s, S, rfl, c1, c2, c3, c4, c5, c6⟩ := open_seens g2 k2
  exact ⟨o, g, s, T, G, S, rfl, ⟨a1, a2, b1, c1, c2, c3, a3, b3, c5, c6, a4, b2, c4⟩⟩
end
end Go.Proofs.Ytpcmkifgfokdpaa
