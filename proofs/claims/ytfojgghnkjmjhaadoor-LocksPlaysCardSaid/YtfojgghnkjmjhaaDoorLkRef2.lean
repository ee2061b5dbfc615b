/- Locks: the document's put and Lock, in memory. -/
import Derived.Test.YtfojgghnkjmjhaaDoorLkRef
import Derived.Deep.RegionWith
import Derived.RegionTactic
namespace Go.Proofs.YtfojgghnkjmjhaaDoor.Locks
open Go.RowKit Go.My

def boxO (x : ByteArray × Int) : Obj := .cells #[.string x.1, .int .i64 x.2] 61
structure PutRel (w : World) (M : LMap) (x : ByteArray × Int) (j : Nat) (o : LMap) (dn : Bool) (v : Value) (wr : World) : Prop where
  row : wr.ownsRow (w.heap.size + 1) 61 2 v o.length (o.flatMap hdL)
  eq : putM M x = o ++ (if dn then M.drop j else putM (M.drop j) x)
  rest : dn = true → ∀ p ∈ M.drop j, p.1 ≠ x.1
  len : o.length ≤ j + (if dn then 1 else 0)
  below : Below w.heap.size w wr
  box : wr.heap[w.heap.size]? = some (boxO x)
structure RowSt (w : World) (x : ByteArray × Int) (o : LMap) (v : Value) (wr : World) : Prop where
  row : wr.ownsRow (w.heap.size + 1) 61 2 v o.length (o.flatMap hdL)
  below : Below w.heap.size w wr
  box : wr.heap[w.heap.size]? = some (boxO x)
section
variable {w wr w1 : World} {M o : LMap} {x p : ByteArray × Int} {j : Nat} {dn : Bool} {v v1 : Value}
theorem PutRel.st (h : PutRel w M x j o dn v wr) : RowSt w x o v wr := ⟨h.row, h.below, h.box⟩
theorem RowSt.drewN (h : RowSt w x o v wr) (n : Nat) : RowSt w x o v (wr.drewN n) := ⟨h.row, ⟨h.below.os, h.below.tape, h.below.output, h.below.size, h.below.block⟩, h.box⟩
theorem RowSt.b0 (h : RowSt w x o v wr) : wr.cell? ⟨w.heap.size, 0, none⟩ = some (.string x.1) := by rw [cell_of_row _ _ _ _ _ _ h.box]; rfl
theorem RowSt.b1 (h : RowSt w x o v wr) : wr.cell? ⟨w.heap.size, 1, none⟩ = some (.int .i64 x.2) := by rw [cell_of_row _ _ _ _ _ _ h.box]; rfl
theorem drop_at (h : M[j]? = some p) : M.drop j = p :: M.drop (j + 1) := by
  obtain ⟨h1, rfl⟩ := List.getElem?_eq_some_iff.1 h
  exact List.drop_eq_getElem_cons h1
/-- one more in the row -/
theorem RowSt.app (h : RowSt w x o v wr) (u : ByteArray × Int) (ob : Obj) (hown : w1.ownsRow (w.heap.size + 1) 61 2 v1 (o.length + 1) (o.flatMap hdL ++ hdL u)) (hg : (wr.alloc ob).grownBy w1 v.ownBlock) : RowSt w x (o ++ [u]) v1 w1 := by
  have hw : Wrote v.ownBlock.toList wr w1 := ((Wrote.refl _ wr).alloc ob).trans (Wrote.of_grown hg)
  refine ⟨by rw [List.length_append, List.flatMap_append]; simpa using hown, h.below.trans (hw.below h.below.size fun g hg => ?_), hw.heap h.box fun hm => ?_⟩
  · have := (row_block h.row (by simpa using hg)).1
    omega
  · have := (row_block h.row (g := w.heap.size) (by simpa using hm)).1
    omega
theorem put_dn (h : PutRel w M x j o true v wr) (hp : M[j]? = some p) (hs : RowSt w x (o ++ [p]) v1 w1) : PutRel w M x (j + 1) (o ++ [p]) true v1 w1 := by
  refine ⟨hs.row, ?_, fun _ q hq => h.rest rfl q (by rw [drop_at hp]; exact List.mem_cons_of_mem _ hq), by have := h.len; rw [if_pos rfl] at this; rw [if_pos rfl, List.length_append]; simp; omega, hs.below, hs.box⟩
  rw [h.eq, if_pos rfl, if_pos rfl, drop_at hp, List.append_assoc]
  rfl
theorem put_lt (h : PutRel w M x j o false v wr) (hp : M[j]? = some p) (hl : lessK p.1 x.1 = true) (hs : RowSt w x (o ++ [p]) v1 w1) : PutRel w M x (j + 1) (o ++ [p]) false v1 w1 := by
  refine ⟨hs.row, ?_, (fun e => by cases e), by have := h.len; rw [if_neg (by simp)] at this ⊢; rw [List.length_append]; simp; omega, hs.below, hs.box⟩
  rw [h.eq, if_neg (by simp), if_neg (by simp), drop_at hp, List.append_assoc]
  conv => lhs; unfold putM
  rw [if_pos hl]
  rfl
theorem put_eq (h : PutRel w M x j o false v wr) (hM : Rise M) (hp : M[j]? = some p) (he : p.1 = x.1) (hs : RowSt w x (o ++ [x]) v1 w1) : PutRel w M x (j + 1) (o ++ [x]) true v1 w1 := by
  have hd : Rise (M.drop j) := hM.sublist (List.drop_sublist _ _)
  rw [drop_at hp] at hd
  obtain ⟨h1, _⟩ := List.pairwise_cons.1 hd
  refine ⟨hs.row, ?_, fun _ q hq e => ?_, by have := h.len; rw [if_neg (by simp)] at this; rw [if_pos rfl, List.length_append]; simp; omega, hs.below, hs.box⟩
  · rw [h.eq, if_neg (by simp), if_pos rfl, drop_at hp, List.append_assoc]
    conv => lhs; unfold putM
    rw [if_neg (by rw [he, lessK_irr]; simp), if_pos he]
    rfl
  · have := h1 q hq
    rw [he, e, lessK_irr] at this
    cases this
theorem put_gt (h : PutRel w M x j o false v wr) (hM : Rise M) (hp : M[j]? = some p) (hl : lessK x.1 p.1 = true) (hs : RowSt w x (o ++ [x] ++ [p]) v1 w1) : PutRel w M x (j + 1) (o ++ [x] ++ [p]) true v1 w1 := by
  have hd : Rise (M.drop j) := hM.sublist (List.drop_sublist _ _)
  rw [drop_at hp] at hd
  obtain ⟨h1, _⟩ := List.pairwise_cons.1 hd
  refine ⟨hs.row, ?_, fun _ q hq e => ?_, by have := h.len; rw [if_neg (by simp)] at this; rw [if_pos rfl, List.length_append, List.length_append]; simp; omega, hs.below, hs.box⟩
  · rw [h.eq, if_neg (by simp), if_pos rfl, drop_at hp]
    conv => lhs; unfold putM
    rw [if_neg (by rw [lessK_asymm hl]; simp), if_neg (fun e => lessK_ne hl e.symm)]
    simp
  · have := lessK_trans hl (h1 q hq)
    rw [e, lessK_irr] at this
    cases this
end
set_option maxRecDepth 100000 in
set_option maxHeartbeats 12800000 in
theorem rput_any (base d : Nat) (v : Value) (M : LMap) (x : ByteArray × Int) (w : World) (h : DkAt w base d v M) (hM : Rise M) (hl : M.length ≤ 10000) (hbase : base ≤ w.heap.size) :
    Calls Tryd.prog 25 #[.pointer (some ⟨d, 0, none⟩), .agg #[.string x.1, .int .i64 x.2]] w (DkUn w base d (putM M x)) := by
  obtain ⟨i0, hi0, hz0, hz1, hz2⟩ := info_parts hd_info
  have HI := Lib.hid hi0
  have HZ := Lib.hid hz0
  have HS := Lib.hid hz1
  have HY := Lib.hid hz2
  obtain ⟨a, cap, rfl, hlies⟩ := h.lies
  have H := Lib.hid h
  have HL := Lib.hid hlies
  have HM := Lib.hid hM
  obtain ⟨n, hn⟩ : ∃ n, n = M.length := ⟨_, rfl⟩
  have HN := Lib.hid hn
  have hn9 : (n : Int) ≤ 10000 := by omega
  have HC : Hid (∀ W, Below w.heap.size w W → W.cell? ⟨d, 0, none⟩ = some (.slice a n cap)) := fun W hW => by rw [hn]; exact (h.below hW).c0
  have HF : Hid (∀ W, Below w.heap.size w W → W.frozen? ⟨d, 0, none⟩ = false) := fun W hW => by simp [World.frozen?, (h.below hW).blk]
  have HBASE := Lib.hid hbase
  obtain ⟨W0, hW0⟩ : ∃ W0, W0 = w.alloc (.cells #[.string x.1, .int .i64 x.2] 61) := ⟨_, rfl⟩
  have P0 : Hid (PutRel w M x 0 [] false (.slice none 0 0) W0) := ⟨World.ownsRow_nil _ _ _ _, by simp, (fun e => by cases e), by simp, by rw [hW0]; exact (Below.refl _ w).alloc (Nat.le_refl _) _, by rw [hW0]; exact heap_alloc_new w _⟩
  obtain ⟨bx, hbx⟩ : ∃ bx, bx = w.heap.size := ⟨_, rfl⟩
  have HBX := Lib.hid hbx
  have c0 := HC.out _ P0.out.below
  clear h hl hn hlies hi0 hz0 hz1 hz2 hM hbase
  go_enter Tryd.func25, Tryd.ntmps25
  go_upto_region 1 with fail
  rw [← hW0, ← hbx]
  clear hW0 hbx
  go_wp2_with fail
  go_loopw [4, 5, 6] (fun v q i wr => ∃ j : Nat, j ≤ n ∧ i = .int .i64 j ∧ (∃ dn : Bool, q = .bool dn ∧ Hid (∃ o, PutRel w M x j o dn v wr))) (fun _ _ i _ => n - (intOf i).toNat)
  case atStart => exact ⟨0, by omega, rfl, ⟨false, rfl, [], P0.out⟩⟩
  case round =>
    clear P0 c0
    obtain ⟨j, hj, rfl, ⟨dn, rfl, o, hr⟩⟩ := hrel
    have HR := Lib.hid hr
    clear hr
    have hlen : o.length ≤ 10001 := by have := HR.out.len; split at this <;> omega
    by_cases hlt : j < n
    · obtain ⟨p, hp⟩ : ∃ p, M[j]? = some p := ⟨_, List.getElem?_eq_getElem (by rw [← HN.out]; exact hlt)⟩
      obtain ⟨g, g2, rfl, lg, d0, d1⟩ := hd_at (LiesAt.below HL.out HR.out.below) hp
      have hj0 : (0 : Int) ≤ (j : Int) := by omega
      have hj1 : (j : Int) < (n : Int) := by omega
      have HP := Lib.hid hp
      have c0 := HC.out _ HR.out.below
      have b0 := HR.out.st.b0
      have b1 := HR.out.st.b1
      rw [← HBX.out] at b0 b1
      have HD : Hid (∀ q, RowSt w x o u4 (wr.drewN q)) := fun q => HR.out.st.drewN q
      clear hp lg
      cases dn with
      | true =>
        have hne : p.1 ≠ x.1 := HR.out.rest rfl p (by rw [drop_at HP.out]; exact List.mem_cons_self)
        have ht : (p.1.toList == x.1.toList) = false := key_ne hne
        clear hne
        go_wp2_with fail
        go_quiet (fail)
        go_wp2_with fail
        go_quiet (fail)
        go_wp2_with (at_builtin; refine wpList_append_own _ rfl _ _ 27 rfl (w.heap.size + 1) 61 i0 _ 2 24 Tryd.underlying27 HI.out HZ.out HS.out HY.out rfl (by decide) _ _ _ rfl ((HD.out _).row.alloc _) ⟨wr.heap.size, 0, none⟩ 1 1 (hdL p) rfl rfl (hd_cells _ _ _) (hd_one _) ?c3 ?c4 ?c5 ?_)
        case c3 => unfold maxLen; omega
        case c4 => omega
        case c5 => have := HR.out.below.size; have := lt_of_heap HR.out.box; simp; omega
        intro v1 w3 hown1 hgrow1 _
        have HNX : Hid (∃ o, PutRel w M x (j + 1) o true v1 w3) := ⟨_, put_dn HR.out HP.out ((HD.out _).app p _ hown1 hgrow1)⟩
        clear hown1 hgrow1 c0 b0 b1 d0 d1
        go_wp2_with fail
        go_roundw
        case rel => exact ⟨j + 1, by omega, by go_num, ⟨true, rfl, HNX⟩⟩
        case measure => simp [intOf]; omega
      | false =>
        by_cases hlp : lessK p.1 x.1 = true
        · have ht : (p.1.toList == x.1.toList) = false := key_ne (lessK_ne hlp)
          have hge : Op.bytesLess p.1.toList x.1.toList = true := hlp
          have HLP := Lib.hid hlp
          clear hlp
          go_wp2_with fail
          go_quiet (fail)
          go_wp2_with fail
          go_quiet (fail)
          go_wp2_with (at_builtin; refine wpList_append_own _ rfl _ _ 27 rfl (w.heap.size + 1) 61 i0 _ 2 24 Tryd.underlying27 HI.out HZ.out HS.out HY.out rfl (by decide) _ _ _ rfl ((HD.out _).row.alloc _) ⟨wr.heap.size, 0, none⟩ 1 1 (hdL p) rfl rfl (hd_cells _ _ _) (hd_one _) ?c3 ?c4 ?c5 ?_)
          case c3 => unfold maxLen; omega
          case c4 => omega
          case c5 => have := HR.out.below.size; have := lt_of_heap HR.out.box; simp; omega
          intro v1 w3 hown1 hgrow1 _
          have HNX : Hid (∃ o, PutRel w M x (j + 1) o false v1 w3) := ⟨_, put_lt HR.out HP.out HLP.out ((HD.out _).app p _ hown1 hgrow1)⟩
          clear hown1 hgrow1 c0 b0 b1 d0 d1
          go_wp2_with fail
          go_roundw
          case rel => exact ⟨j + 1, by omega, by go_num, ⟨false, rfl, HNX⟩⟩
          case measure => simp [intOf]; omega
        · by_cases hpx : p.1 = x.1
          · clear hlp
            have ht : (p.1.toList == x.1.toList) = true := by rw [hpx]; simp
            have hge : Op.bytesLess p.1.toList x.1.toList = false := by rw [hpx]; exact lessK_irr x.1
            have HPX := Lib.hid hpx
            clear hpx
            go_wp2_with fail
            go_quiet (fail)
            go_wp2_with (at_builtin; refine wpList_append_own _ rfl _ _ 27 rfl (w.heap.size + 1) 61 i0 _ 2 24 Tryd.underlying27 HI.out HZ.out HS.out HY.out rfl (by decide) _ _ _ rfl ((HD.out _).row.alloc _) ⟨wr.heap.size, 0, none⟩ 1 1 (hdL x) rfl rfl (hd_cells _ _ _) (hd_one _) ?c3 ?c4 ?c5 ?_)
            case c3 => unfold maxLen; omega
            case c4 => omega
            case c5 => have := HR.out.below.size; have := lt_of_heap HR.out.box; simp; omega
            intro v1 w3 hown1 hgrow1 _
            have HS3 := Lib.hid ((HD.out _).app x _ hown1 hgrow1)
            clear hown1 hgrow1 c0 b0 b1 d0 d1
            have c0 := HC.out _ HS3.out.below
            have b0 := HS3.out.b0
            have b1 := HS3.out.b1
            rw [← HBX.out] at b0 b1
            obtain ⟨g', g2', e', _, d0, d1⟩ := hd_at (LiesAt.below HL.out HS3.out.below) HP.out
            cases e'
            have HD3 : Hid (∀ q, RowSt w x (o ++ [x]) v1 (w3.drewN q)) := fun q => HS3.out.drewN q
            go_wp2_with fail
            go_quiet (fail)
            have HNX : Hid (∀ q, ∃ o, PutRel w M x (j + 1) o true v1 (w3.drewN q)) := fun q => ⟨_, put_eq HR.out HM.out HP.out HPX.out (HD3.out q)⟩
            clear c0 b0 b1 d0 d1
            go_wp2_with fail
            go_roundw
            case rel => exact ⟨j + 1, by omega, by go_num, ⟨true, rfl, HNX.out _⟩⟩
            case measure => simp [intOf]; omega
          · have ht : (p.1.toList == x.1.toList) = false := key_ne hpx
            have hge : Op.bytesLess p.1.toList x.1.toList = false := by
              cases hb : Op.bytesLess p.1.toList x.1.toList with
              | false => rfl
              | true => exact absurd hb hlp
            have HGT := Lib.hid (lessK_tri hlp hpx)
            clear hpx hlp
            go_wp2_with fail
            go_quiet (fail)
            go_wp2_with (at_builtin; refine wpList_append_own _ rfl _ _ 27 rfl (w.heap.size + 1) 61 i0 _ 2 24 Tryd.underlying27 HI.out HZ.out HS.out HY.out rfl (by decide) _ _ _ rfl ((HD.out _).row.alloc _) ⟨wr.heap.size, 0, none⟩ 1 1 (hdL x) rfl rfl (hd_cells _ _ _) (hd_one _) ?c3 ?c4 ?c5 ?_)
            case c3 => unfold maxLen; omega
            case c4 => omega
            case c5 => have := HR.out.below.size; have := lt_of_heap HR.out.box; simp; omega
            intro v1 w3 hown1 hgrow1 _
            have HS3 := Lib.hid ((HD.out _).app x _ hown1 hgrow1)
            clear hown1 hgrow1 c0 b0 b1 d0 d1
            have c0 := HC.out _ HS3.out.below
            have b0 := HS3.out.b0
            have b1 := HS3.out.b1
            rw [← HBX.out] at b0 b1
            obtain ⟨g', g2', e', _, d0, d1⟩ := hd_at (LiesAt.below HL.out HS3.out.below) HP.out
            cases e'
            have HD3 : Hid (∀ q, RowSt w x (o ++ [x]) v1 (w3.drewN q)) := fun q => HS3.out.drewN q
            go_wp2_with fail
            go_quiet (fail)
            go_wp2_with (at_builtin; refine wpList_append_own _ rfl _ _ 27 rfl (w.heap.size + 1) 61 i0 _ 2 24 Tryd.underlying27 HI.out HZ.out HS.out HY.out rfl (by decide) _ _ _ rfl ((HD3.out _).row.alloc _) ⟨w3.heap.size, 0, none⟩ 1 1 (hdL p) rfl rfl (hd_cells _ _ _) (hd_one _) ?c3 ?c4 ?c5 ?_)
            case c3 => unfold maxLen; have : (o ++ [x]).length = o.length + 1 := (by simp); omega
            case c4 => have : (o ++ [x]).length = o.length + 1 := (by simp); omega
            case c5 => have := HS3.out.below.size; have := lt_of_heap HS3.out.box; simp; omega
            intro v2 w4 hown1 hgrow1 _
            have HNX : Hid (∃ o, PutRel w M x (j + 1) o true v2 w4) := ⟨_, put_gt HR.out HM.out HP.out HGT.out ((HD3.out _).app p _ (by simpa using hown1) hgrow1)⟩
            clear hown1 hgrow1 c0 b0 b1 d0 d1
            go_wp2_with fail
            go_roundw
            case rel => exact ⟨j + 1, by omega, by go_num, ⟨true, rfl, HNX⟩⟩
            case measure => simp [intOf]; omega
    · obtain rfl : n = j := by omega
      have HDR : Hid (M.drop n = []) := List.drop_eq_nil_of_le (by have := HN.out; omega)
      have c0 := HC.out _ HR.out.below
      have hfz := HF.out _ HR.out.below
      have b0 := HR.out.st.b0
      have b1 := HR.out.st.b1
      rw [← HBX.out] at b0 b1
      cases dn with
      | true =>
        have HE : Hid (DkUn w base d (putM M x) (.returned (.tuple #[])) (wr.setCell ⟨d, 0, none⟩ u4)) := by
          have he := HR.out.eq
          rw [if_pos rfl, HDR.out, List.append_nil] at he
          have hrow := row_weak (base' := w.heap.size) HR.out.row (by omega)
          rw [← he] at hrow
          obtain ⟨h1, h2⟩ := dk_store H.out HR.out.below HBASE.out hrow
          exact ⟨rfl, ⟨_, h1⟩, h2⟩
        obtain ⟨fa, fc, rfl⟩ := row_slice HR.out.row
        go_wp2_with fail
        go_end0
        exact HE.out
      | false =>
        have HSR := Lib.hid HR.out.st
        go_wp2_with (at_builtin; refine wpList_append_own _ rfl _ _ 27 rfl (w.heap.size + 1) 61 i0 _ 2 24 Tryd.underlying27 HI.out HZ.out HS.out HY.out rfl (by decide) _ _ _ rfl (HSR.out.row.alloc _) ⟨wr.heap.size, 0, none⟩ 1 1 (hdL x) rfl rfl (hd_cells _ _ _) (hd_one _) ?c3 ?c4 ?c5 ?_)
        case c3 => unfold maxLen; omega
        case c4 => omega
        case c5 => have := HR.out.below.size; have := lt_of_heap HR.out.box; simp; omega
        intro v1 w3 hown1 hgrow1 _
        have HS3 := Lib.hid (HSR.out.app x _ hown1 hgrow1)
        clear hown1 hgrow1 c0 hfz b0 b1
        have c0 := HC.out _ HS3.out.below
        have hfz := HF.out _ HS3.out.below
        have HE : Hid (DkUn w base d (putM M x) (.returned (.tuple #[])) (w3.setCell ⟨d, 0, none⟩ v1)) := by
          have he := HR.out.eq
          rw [if_neg (by simp), HDR.out] at he
          have hrow := row_weak (base' := w.heap.size) HS3.out.row (by omega)
          have e2 : putM M x = o ++ [x] := he
          rw [← e2] at hrow
          obtain ⟨h1, h2⟩ := dk_store H.out HS3.out.below HBASE.out hrow
          exact ⟨rfl, ⟨_, h1⟩, h2⟩
        obtain ⟨fa, fc, rfl⟩ := row_slice HS3.out.row
        rw [show (o ++ [x]).length = o.length + 1 by simp] at HE
        go_wp2_with fail
        rw [show (o ++ [x]).length = o.length + 1 by simp]
        go_end0
        exact HE.out
end Go.Proofs.YtfojgghnkjmjhaaDoor.Locks
