/- A store: a key is given a value; entries are laid in. -/
import Derived.Test.YtaifmfnmgnmgbaaGreatDoorOf
import Derived.Deep.RegionWith
import Derived.Deep.DeepCutAuto
namespace Go.Proofs.YtaifmfnmgnmgbaaGreatDoor
open Go.RowKit Go.My
def errV (e : Int) (n : Nat) : Value := .iface 163 (.agg #[.string ⟨#[115, 116, 111, 114, 101]⟩, .int .i64 (n : Int), .iface 70 (.int .i64 e)])
set_option maxRecDepth 100000 in
theorem of_33 (e : Int) (w : World) (he : ¬ e = 0) : Calls Tryz.prog 32 #[.int .i64 e] w fun r w' => r = .returned (.iface 70 (.int .i64 e)) ∧ w' = w := by
  have h1 : (e == 0) = false := by simpa using he
  clear he
  go_enter Tryz.func32, Tryz.ntmps32
  go_wp2_with fail
  go_ret
  exact ⟨rfl, rfl⟩
set_option maxRecDepth 100000 in
theorem wrap_32 (z : Value) (s : ByteArray) (n : Int) (w : World) : Calls Tryz.prog 68 #[.iface 70 z, .string s, .int .i64 n] w fun r w' => r = .returned (.iface 163 (.agg #[.string s, .int .i64 n, .iface 70 z])) ∧ w' = w := by
  go_enter Tryz.func68, Tryz.ntmps68
  go_wp2_with fail
  go_ret
  exact ⟨rfl, rfl⟩
set_option maxRecDepth 100000 in
theorem wrong_25 (p : Nat) (a : Option Addr) (cap : Nat) (L : List Ent) (e : Int) (he : ¬ e = 0) (w : World) (h : StoreAt w p a cap L) (hl : L.length ≤ 100000) :
    Calls Tryz.prog 87 #[.pointer (some ⟨p, 0, none⟩), .int .i64 e] w fun r w' => r = .returned (errV e L.length) ∧ Below w.heap.size w w' := by
  have q : w.cell? ⟨p, 0, none⟩ = some (.slice a L.length cap) := by rw [cell_of_row _ _ _ _ _ _ h.cell]; rfl
  have lp := lt_of_heap h.cell
  have hn9 : (L.length : Int) ≤ 100000 := by omega
  unfold errV
  generalize L.length = n at q hn9 ⊢
  have HQ1 : Hid (∀ W, Calls Tryz.prog 32 #[.int .i64 e] W fun r w' => r = .returned (.iface 70 (.int .i64 e)) ∧ w' = W) := fun W => of_33 e W he
  have HQ2 : Hid (∀ W, Calls Tryz.prog 68 #[.iface 70 (.int .i64 e), .string ⟨#[115, 116, 111, 114, 101]⟩, .int .i64 (n : Int)] W fun r w' => r = .returned (.iface 163 (.agg #[.string ⟨#[115, 116, 111, 114, 101]⟩, .int .i64 (n : Int), .iface 70 (.int .i64 e)])) ∧ w' = W) := fun W => wrap_32 _ _ _ W
  have HND : Hid (∀ nq, Below w.heap.size w (w.drewN nq)) := fun nq => ⟨rfl, rfl, rfl, by simp, fun _ _ => rfl⟩
  clear h hl he
  go_enter Tryz.func87, Tryz.ntmps87
  go_wp2_with fail
  go_quiet ((first | (go_at_call 32; exact Calls.quiet_of_same (HQ1.out _)) | (go_at_call 68; exact Calls.quiet_of_same (HQ2.out _))))
  go_wp2_with fail
  go_ret
  exact ⟨rfl, HND.out _⟩
/-! ### what Put leaves -/
def oldV (L : List Ent) (k : ByteArray) : Int := ((getE L k).getD ent0).ver
def newE (L : List Ent) (k v : ByteArray) : Ent := ⟨k, v, oldV L k + 1⟩
def badArg (L : List Ent) (k v : ByteArray) : Bool := decide (4611686018427387904 ≤ oldV L k) || !fitE ⟨k, v, 1⟩
def full (L : List Ent) (k : ByteArray) : Bool := !hasK L k && !decide (1 ≤ 128 - (L.length : Int))
def PutLeft (w : World) (p : Nat) (L : List Ent) (k v : ByteArray) (e : Ending) (w' : World) : Prop :=
  Wrote [p] w w' ∧
  ((badArg L k v = true ∧ e = .returned (errV 1 L.length) ∧ ∃ a cap, StoreAt w' p a cap L) ∨
   (badArg L k v = false ∧ full L k = true ∧ e = .returned (errV 71 L.length) ∧ ∃ a cap, StoreAt w' p a cap L) ∨
   (badArg L k v = false ∧ full L k = false ∧ e = .returned .nilIface ∧ ∃ a cap, w'.heap[p]? = some (.cells #[.slice a (joinE L [newE L k v]).length cap] 92 (0, 0)) ∧ SrcAt w' a cap (joinE L [newE L k v])))
set_option maxRecDepth 100000 in
set_option maxHeartbeats 3200000 in
theorem put_13 (p : Nat) (a : Option Addr) (cap : Nat) (L : List Ent) (k v : ByteArray) (w : World) (h : StoreAt w p a cap L) (hl : L.length ≤ 500) (hv : ∀ e ∈ L, 0 < e.ver) :
    Calls Tryz.prog 50 #[.pointer (some ⟨p, 0, none⟩), .string k, .string v] w (PutLeft w p L k v) := by
  have H := Lib.hid h
  have HG := Lib.hid (get_11 p a cap L k w h (by omega))
  unfold GetLeft gotE at HG
  have hgh := get_has L k
  have HLEN := Lib.hid hl
  obtain ⟨x, hx⟩ : ∃ x, x = (getE L k).getD ent0 := ⟨_, rfl⟩
  obtain ⟨is, his⟩ : ∃ is, is = (getE L k).isSome := ⟨_, rfl⟩
  have HVX : Hid (0 ≤ x.ver) := by
    show 0 ≤ x.ver
    rw [hx]
    cases hg : getE L k with
    | none => exact Int.le_refl _
    | some y => exact Int.le_of_lt (hv y (get_some hg).1)
  have HO : Hid (oldV L k = x.ver) := by show _ = _; rw [hx]; rfl
  have HHK : Hid (hasK L k = is) := by show _ = _; rw [his, hgh]
  rw [← hx, ← his] at HG
  unfold entA at HG
  clear hgh hx his hv
  have lp := lt_of_heap h.cell
  clear h hl
  go_enter Tryz.func50, Tryz.ntmps50
  go_wp2_with fail
  refine HG.out.mono ?_
  rintro e w1 ⟨rfl, hb1⟩
  obtain ⟨W2, hW2⟩ : ∃ W2, W2 = w1.alloc (.cells #[.string x.key, .string x.value, .int .i64 x.ver] 42) := ⟨_, rfl⟩
  have HB2 : Hid (Below w.heap.size w W2) := by show Below _ _ _; rw [hW2]; exact hb1.alloc hb1.size _
  have HX2 : Hid (W2.heap[w1.heap.size]? = some (.cells #[.string x.key, .string x.value, .int .i64 x.ver] 42 (0, 0))) := by show _ = _; rw [hW2]; exact heap_alloc_new w1 _
  have HS2 := Lib.hid (H.out.below HB2.out)
  clear hb1
  by_cases hbig : 4611686018427387904 ≤ x.ver
  · have HBA : Hid (badArg L k v = true) := by show _ = _; unfold badArg; rw [HO.out, decide_eq_true hbig]; rfl
    have hd : decide (4611686018427387904 ≤ x.ver) = true := decide_eq_true hbig
    have HW := Lib.hid (wrong_25 p a cap L 1 (by decide) W2 HS2.out (by have := HLEN.out; omega))
    go_wp2_with fail
    rw [← hW2]
    refine HW.out.mono ?_
    rintro r w3 ⟨rfl, hb3⟩
    have HB3 := Lib.hid (HB2.out.trans (hb3.mono HB2.out.size))
    clear hb3
    go_wp2_with fail
    go_ret
    exact ⟨(Wrote.of_below (S := []) HB3.out).mono (by simp), .inl ⟨HBA.out, rfl, a, cap, H.out.below HB3.out⟩⟩
  · have hd : decide (4611686018427387904 ≤ x.ver) = false := decide_eq_false hbig
    have HF := Lib.hid (fits_21 ⟨k, v, 1⟩ W2)
    unfold entA at HF
    cases hfit : fitE ⟨k, v, 1⟩ with
    | false =>
      have HBA : Hid (badArg L k v = true) := by show _ = _; unfold badArg; rw [hfit]; simp
      rw [hfit] at HF
      clear hfit
      go_wp2_with fail
      rw [← hW2]
      refine HF.out.mono ?_
      rintro r w3 ⟨rfl, hb3⟩
      have HB3 := Lib.hid (HB2.out.trans (hb3.mono HB2.out.size))
      have HW := Lib.hid (wrong_25 p a cap L 1 (by decide) w3 (H.out.below HB3.out) (by have := HLEN.out; omega))
      clear hb3
      go_wp2_with fail
      refine HW.out.mono ?_
      rintro r w4 ⟨rfl, hb4⟩
      have HB4 := Lib.hid (HB3.out.trans (hb4.mono HB3.out.size))
      clear hb4
      go_wp2_with fail
      go_ret
      exact ⟨(Wrote.of_below (S := []) HB4.out).mono (by simp), .inl ⟨HBA.out, rfl, a, cap, H.out.below HB4.out⟩⟩
    | true =>
      have HBA : Hid (badArg L k v = false) := by show _ = _; unfold badArg; rw [HO.out, hd, hfit]; rfl
      rw [hfit] at HF
      clear hfit
      go_wp2_with fail
      rw [← hW2]
      obtain ⟨xb, hxb⟩ : ∃ z, z = w1.heap.size := ⟨_, rfl⟩
      rw [← hxb] at HX2 ⊢
      clear hW2 hxb
      refine HF.out.mono ?_
      rintro r w3 ⟨rfl, hb3⟩
      have HB3 := Lib.hid (HB2.out.trans (hb3.mono HB2.out.size))
      have HX3 := Lib.hid ((hb3.block _ (lt_of_heap HX2.out)).trans HX2.out)
      have HR := Lib.hid (room_17 p a cap L 1 w3 (H.out.below HB3.out) (by have := HLEN.out; omega))
      clear hb3
      cases hf : full L k with
      | true =>
        obtain ⟨h1, h2⟩ : is = false ∧ decide ((1 : Int) ≤ 128 - (L.length : Int)) = false := by
          unfold full at hf
          rw [HHK.out] at hf
          simpa using hf
        subst h1
        rw [h2] at HR
        have HFU := Lib.hid hf
        have HW := Lib.hid (wrong_25 p a cap L 71 (by decide) w3 (H.out.below HB3.out) (by have := HLEN.out; omega))
        clear hf h2
        go_wp2_with fail
        refine HR.out.mono ?_
        rintro r w' ⟨rfl, rfl⟩
        go_wp2_with fail
        refine HW.out.mono ?_
        rintro r w4 ⟨rfl, hb4⟩
        have HB4 := Lib.hid (HB3.out.trans (hb4.mono HB3.out.size))
        clear hb4
        go_wp2_with fail
        go_ret
        exact ⟨(Wrote.of_below (S := []) HB4.out).mono (by simp), .inr (.inl ⟨HBA.out, HFU.out, rfl, a, cap, H.out.below HB4.out⟩)⟩
      | false =>
        have HFU := Lib.hid hf
        have hsub : is = true ∨ (is = false ∧ decide ((1 : Int) ≤ 128 - (L.length : Int)) = true) := by
          unfold full at hf
          rw [HHK.out] at hf
          cases is
          · right; simpa using hf
          · left; rfl
        have HJ : Hid (∀ W, Below w3.heap.size w3 W → ∀ H, W.heap[H]? = some (.cells #[.string k, .string v, .int .i64 (x.ver + 1)] 42 (0, 0)) → Calls Tryz.prog 88 #[.slice a L.length cap, .slice (some ⟨H, 0, none⟩) 1 1] W (JoinLeft W (joinE L [newE L k v]))) := fun W hb HH hh => by
          have e1 : newE L k v = ⟨k, v, x.ver + 1⟩ := by unfold newE; rw [HO.out]
          rw [e1]
          exact joined_26 a (some ⟨HH, 0, none⟩) cap 1 L [⟨k, v, x.ver + 1⟩] W ((H.out.below HB3.out).src.below hb).any (src_one hh).any (by have := HLEN.out; omega) (by simp)
        have hs3 := H.out.below HB3.out
        have q0 : w3.cell? ⟨p, 0, none⟩ = some (.slice a L.length cap) := by rw [cell_of_row _ _ _ _ _ _ hs3.cell]; rfl
        have lp3 := lt_of_heap hs3.cell
        have x2 : w3.cell? ⟨xb, 2, none⟩ = some (.int .i64 x.ver) := by rw [cell_of_row _ _ _ _ _ _ HX3.out]; rfl
        have lx3 := lt_of_heap HX3.out
        have HSC := Lib.hid hs3.cell
        have hv0 := HVX.out
        clear hf hs3
        obtain ⟨J, hJ⟩ : ∃ J, J = joinE L [newE L k v] := ⟨_, rfl⟩
        rw [← hJ] at HJ
        have HJD := Lib.hid hJ
        have HJ2 : Hid (Calls Tryz.prog 88 #[.slice a L.length cap, .slice (some ⟨w3.heap.size, 0, none⟩) 1 1] ((w3.alloc (.cells #[.string k, .string v, .int .i64 (x.ver + 1)] 42)).drew) fun r w' => ∃ a' cap', r = .returned (.slice a' J.length cap') ∧ (∀ u, SrcAt (w'.setCell ⟨p, 0, none⟩ u) a' cap' J) ∧ Below w3.heap.size w3 w' ∧ w'.cell? ⟨p, 0, none⟩ = some (.slice a L.length cap) ∧ (∀ i, w'.frozen? ⟨p, i, none⟩ = false) ∧ p < w'.heap.size) := by
          have hbA : Below w3.heap.size w3 ((w3.alloc (.cells #[.string k, .string v, .int .i64 (x.ver + 1)] 42)).drew) := ((Below.refl _ w3).alloc (Nat.le_refl _) _).drew
          refine (HJ.out _ hbA w3.heap.size (heap_alloc_new w3 _)).mono ?_
          rintro r w' ⟨u, rfl, hown, hb⟩
          obtain ⟨a', cap', rfl, _⟩ := row_form hown
          have hB := hbA.trans (hb.mono hbA.size)
          have hc := (hB.block _ (lt_of_heap HSC.out)).trans HSC.out
          refine ⟨a', cap', rfl, fun u => row_src (row_wrote hown ((Wrote.refl [p] w').setCell (p := ⟨p, 0, none⟩) (.inl (List.mem_singleton.2 rfl)) u) fun g hg hm => ?_) rfl, hB, by rw [cell_of_row _ _ _ _ _ _ hc]; rfl, fun i => by simp [World.frozen?, hc], lt_of_heap hc⟩
          obtain rfl : g = p := by simpa using hm
          obtain ⟨_, cur, hcur⟩ := row_block hown hg
          rw [hc] at hcur
          cases hcur
        have HEND : Hid (∀ a' cap' w', Below w3.heap.size w3 w' → Wrote [p] w (w'.setCell ⟨p, 0, none⟩ (.slice a' J.length cap')) ∧ (w'.setCell ⟨p, 0, none⟩ (.slice a' J.length cap')).heap[p]? = some (.cells #[.slice a' J.length cap'] 92 (0, 0))) := fun a' cap' w' h2 => by
          have hc := (h2.block _ (lt_of_heap HSC.out)).trans HSC.out
          have hB := HB3.out.trans (h2.mono HB3.out.size)
          exact ⟨((Wrote.of_below (S := []) hB).mono (T := [p]) (by simp)).setCell (p := ⟨p, 0, none⟩) (.inl (List.mem_singleton.2 rfl)) _, heap_setCell_same _ p 0 _ _ _ hc⟩
        have hwr : IntKind.i64.wrap (x.ver + 1) = x.ver + 1 := by rw [IntKind.wrap_i64]; omega
        clear hJ HJ
        rcases hsub with rfl | ⟨rfl, h2⟩
        · go_upto_region 7 with fail
          go_region_with (go_at_call 88; refine HJ2.out.mono ?_; rintro r w' ⟨a', cap', rfl, hsrc, hb, c0, fz, hlt2⟩)
          all_goals
            go_wp2_with fail
            go_ret
            have he := HEND.out a' cap' _ hb
            exact ⟨he.1, .inr (.inr ⟨HBA.out, HFU.out, rfl, a', cap', by rw [← HJD.out]; exact he.2, by rw [← HJD.out]; exact hsrc _⟩)⟩
        · rw [h2] at HR
          go_wp2_with fail
          refine HR.out.mono ?_
          rintro r w' ⟨rfl, rfl⟩
          go_upto_region 7 with fail
          go_region_with (go_at_call 88; refine HJ2.out.mono ?_; rintro r w' ⟨a', cap', rfl, hsrc, hb, c0, fz, hlt2⟩)
          all_goals
            go_wp2_with fail
            go_ret
            have he := HEND.out a' cap' _ hb
            exact ⟨he.1, .inr (.inr ⟨HBA.out, HFU.out, rfl, a', cap', by rw [← HJD.out]; exact he.2, by rw [← HJD.out]; exact hsrc _⟩)⟩
end Go.Proofs.YtaifmfnmgnmgbaaGreatDoor
