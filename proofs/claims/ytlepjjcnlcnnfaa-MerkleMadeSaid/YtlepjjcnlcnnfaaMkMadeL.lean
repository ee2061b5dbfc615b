/- Merkle: MerkleMade. -/
import Derived.Test.YtlepjjcnlcnnfaaMkNo
import Derived.Test.YtlepjjcnlcnnfaaMkSame
import Derived.Deep.RegionHeld3
namespace Go.Proofs.Ytlepjjcnlcnnfaa.Merkle
open Go.RowKit Go.My

/-- two roots are one just if the entries are -/
theorem roots_one {T : List ByteArray} (hn : T.Nodup) (hlim : T.length ≤ 60000) {l o : List Ent} {t t2 d d2 : Nat} (hl : l.length ≤ 2000) (ho : o.length ≤ 2000) (hg : ∀ x ∈ l, Good x) (hg2 : ∀ x ∈ o, Good x) (h1 : TopAt enc T l t) (r1 : At T d (rootT l.length t)) (h2 : TopAt enc T o t2) (r2 : At T d2 (rootT o.length t2)) : d2 = d ↔ l = o := by
  constructor
  · intro e
    subst e
    have e1 := h1.lt
    have e2 := h2.lt
    obtain ⟨e3, e4⟩ := rootT_inj (by omega) (by omega) (by omega) (by omega) (r1.text r2)
    subst e4
    exact h1.same (by show _ ≤ 9223372036854775808; omega) h2 hg hg2 e3
  · intro e
    subst e
    obtain rfl := h1.uniq hn h2
    exact r2.inj hn r1
/-- what the law has when its proof was checked -/
structure MdSt (w W : World) (bB b m : Nat) (a : Option Addr) (l : List Ent) (t d : Nat) : Prop where
  ex : ∃ v T, LawAt w W bB b m v T a l ∧ TopAt enc T l t ∧ At T d (rootT l.length t) ∧ T.length ≤ 20000
theorem MdSt.low {w W W' : World} {bB b m : Nat} {a : Option Addr} {l : List Ent} {t d : Nat} (h : MdSt w W bB b m a l t d) (hf : Below W.heap.size W W') : MdSt w W' bB b m a l t d := by
  obtain ⟨v, T, h1, h2, h3, h4⟩ := h.ex
  exact ⟨v, T, h1.low hf, h2, h3, h4⟩
theorem bl3 {A B C : World} (h : Below A.heap.size A B) (k : Below B.heap.size B C) : Below A.heap.size A C := h.trans (k.mono h.size)
set_option maxRecDepth 100000 in
set_option maxHeartbeats 6400000 in
theorem madelaw_any (a : Option Addr) (cap : Nat) (l : List Ent) (a9 : Option Addr) (cap9 : Nat) (o : List Ent) (x y : Nat) (w : World) (hl : LIn w a l) (hc : l.length ≤ cap) (hc9 : cap ≤ maxLen) (ho : LIn w a9 o) (hx : x ≤ 255) (hy : y ≤ 255) :
    Calls Try.prog 4 #[.slice a l.length cap, .slice a9 o.length cap9, .int .u8 (x : Int), .int .u8 (y : Int)] w fun e w' => e = .returned (.bool true) ∧ Below w.heap.size w w' := by
  have HIN := Lib.hid hl
  have HIO := Lib.hid ho
  have HCAP := Lib.hid (And.intro hc hc9)
  obtain ⟨n, hn⟩ : ∃ n, n = l.length := ⟨_, rfl⟩
  have HN := Lib.hid hn
  obtain ⟨n9, hn9⟩ : ∃ n9, n9 = o.length := ⟨_, rfl⟩
  have HN9 := Lib.hid hn9
  rw [← hn, ← hn9]
  rw [← hn] at hc
  unfold maxLen at hc9
  have i0 : (n : Int) ≤ (cap : Int) := by omega
  have i9 : (cap : Int) ≤ 9223372036854775807 := by omega
  clear hl hn ho hn9
  go_enter Try.func4, Try.ntmps4
  go_wp2_with fail
  refine (head_any w).mono ?_
  rintro e w1 ⟨rfl, hb1⟩
  have HB1 := Lib.hid hb1
  clear hb1
  go_wp2_with fail
  refine (Book.new_any w1).mono ?_
  rintro e w2 ⟨b, m, v, rfl, hs2, hb2⟩
  have hB : w.heap.size ≤ w1.heap.size := HB1.out.size
  have hb02 : Below w.heap.size w w2 := HB1.out.trans (hb2.mono hB)
  have H2 : Hid (LawAt w w2 w1.heap.size b m v [] a l) := ⟨⟨hs2, List.nodup_nil⟩, HIN.out.ents hB hb02, hB, hb02⟩
  clear hs2 hb2 hb02 hB
  go_wp2_with fail
  have hg := great_any a l cap w2 H2.out.ents.lies HIN.out.most
  rw [← HN.out] at hg
  refine hg.mono ?_
  rintro e w3 ⟨g, rfl, hg, hb3⟩
  have H3 : Hid (LawAt w w3 w1.heap.size b m v [] a l) := H2.out.low hb3
  have HG3 := Lib.hid hg
  clear hg hb3
  cases g with
  | true =>
    go_wp2_with fail
    go_ret
    exact ⟨rfl, H3.out.below⟩
  | false =>
    go_wp2_with fail
    have hg := great_any a9 o cap9 w3 (HIO.out.lies.below H3.out.below) HIO.out.most
    rw [← HN9.out] at hg
    refine hg.mono ?_
    rintro e w4 ⟨g, rfl, hg, hb4⟩
    have H4 : Hid (LawAt w w4 w1.heap.size b m v [] a l) := H3.out.low hb4
    have HG4 := Lib.hid hg
    clear hg hb4
    cases g with
    | true =>
      go_wp2_with fail
      go_ret
      exact ⟨rfl, H4.out.below⟩
    | false =>
      have hn6 : n ≤ 6000 := by rw [HN.out]; exact (HG3.out (by trivial)).1
      have HW : Hid (Wide l) := HIN.out.wide (HG3.out (by trivial)).2
      have HW9 : Hid (Wide o) := HIO.out.wide (HG4.out (by trivial)).2
      have HN69 : Hid (o.length ≤ 6000) := (HG4.out (by trivial)).1
      clear HG3 HG4
      go_wp2_with fail
      cases hr : rightB l with
      | false =>
        have HR := root_no b a cap l w4 H4.out.ents.lies (by have := HN.out; omega) HW.out hr
        rw [← HN.out] at HR
        refine HR.mono ?_
        rintro e w5 ⟨rfl, hb5⟩
        have H5 := Lib.hid (H4.out.low hb5).below
        clear hb5 hr HR
        unfold wrongV
        go_wp2_with fail
        go_ret
        exact ⟨rfl, H5.out⟩
      | true =>
        have HR := root_yes w1.heap.size b m v [] a cap l w4 H4.out.bk H4.out.ents HW.out hr (by simp)
        rw [← HN.out] at HR
        refine HR.mono ?_
        rintro e w5 ⟨v5, T5, d, t, rfl, h5, -, ht, hr5, hl5, hf5⟩
        have hn10 := right_len hr
        have hT5 : T5.length ≤ 3000 := by simp at hl5; omega
        have H5 : Hid (LawAt w w5 w1.heap.size b m v5 T5 a l ∧ TopAt enc T5 l t ∧ At T5 d (rootT l.length t)) := ⟨H4.out.next h5 hf5, ht, hr5⟩
        clear h5 ht hr5 hl5 hf5 HR
        have HRI := Lib.hid hr
        clear hr
        obtain ⟨f, hf⟩ : ∃ f, f = x % (n + 1) := ⟨_, rfl⟩
        obtain ⟨k, hk⟩ : ∃ k, k = y % (n - f + 1) := ⟨_, rfl⟩
        have hf1 : f ≤ n := by have := Nat.mod_lt x (show 0 < n + 1 by omega); omega
        have hk1 : f + k ≤ n := by have := Nat.mod_lt y (show 0 < n - f + 1 by omega); omega
        have m1 : IntKind.i64.wrap ((n : Int) + 1) = (n : Int) + 1 := IntWalk.i64_in _ (by omega)
        have m2 : Int.tmod (x : Int) ((n : Int) + 1) = (f : Int) := by rw [hf]; rfl
        have m3 : IntKind.i64.wrap ((n : Int) - (f : Int)) = (n : Int) - (f : Int) := IntWalk.i64_in _ (by omega)
        have m4 : IntKind.i64.wrap ((n : Int) - (f : Int) + 1) = (n : Int) - (f : Int) + 1 := IntWalk.i64_in _ (by omega)
        have m5 : Int.tmod (y : Int) ((n : Int) - (f : Int) + 1) = (k : Int) := by
          rw [show (n : Int) - (f : Int) + 1 = ((n - f + 1 : Nat) : Int) by omega, hk]
          rfl
        have m6 : IntKind.i64.wrap (x : Int) = (x : Int) := IntWalk.i64_in _ (by omega)
        have m7 : IntKind.i64.wrap (y : Int) = (y : Int) := IntWalk.i64_in _ (by omega)
        have m8 : IntKind.i64.wrap (f : Int) = (f : Int) := IntWalk.i64_in _ (by omega)
        have m9 : IntKind.i64.wrap (k : Int) = (k : Int) := IntWalk.i64_in _ (by omega)
        have n1 : ((n : Int) + 1 == 0) = false := by simp; omega
        have n2 : ((n : Int) - (f : Int) + 1 == 0) = false := by simp; omega
        have n3 : ¬ ((n : Int) + 1 = 0) := by omega
        have n4 : ¬ ((n : Int) - (f : Int) + 1 = 0) := by omega
        clear hf hk
        go_wp2_with fail
        have HR := prove_yes w1.heap.size b m v5 T5 a cap l f k w5 H5.out.1.bk H5.out.1.ents HW.out HRI.out HCAP.out.1 HCAP.out.2 (by have := HN.out; omega) (by omega)
        rw [← HN.out] at HR
        refine HR.mono ?_
        rintro e w6 ⟨v6, T6, p1, g1, p2, g2, ds, rfl, h6, hx6, hbd, he6, hl6, hs6, hdc, hT6, hf6⟩
        rw [← HN.out]
        have hdl : ds.length ≤ 6000 := by
          rw [hbd.len]
          rcases Nat.eq_zero_or_pos l.length with h0 | h0
          · rw [h0, parts_apart (apart_iff.2 (by have := HN.out; omega))]
            omega
          · have := parts_le l.length 0 f (f + k) h0
            omega
        have hn69 := HN.out
        have hk6 : ((l.drop f).take k).length = k := by rw [List.length_take, List.length_drop]; omega
        have hT60 : T6.length ≤ 8000 := by omega
        have H6 : Hid (LawAt w w6 w1.heap.size b m v6 T6 a l ∧ TopAt enc T6 l t ∧ At T6 d (rootT l.length t) ∧ T6.length ≤ 8000 ∧ BesideAt enc T6 f (f + k) 0 l ds ∧ ds.length ≤ g2 ∧ EntsAt w6 w1.heap.size p1 ((l.drop f).take k)) := ⟨H5.out.1.next h6 hf6, H5.out.2.1.ext hx6, hx6 _ _ H5.out.2.2, hT60, hbd, hdc, he6⟩
        have HPA : Hid (PrfAt w6 w1.heap.size (mkP l f k ds) p1 p2) := mkP_at he6 hl6 hs6 HW.out HRI.out (by omega) hbd hdl
        have HPV : Hid (prfV (mkP l f k ds) p1 g1 p2 g2 = .agg #[.int .i64 (n : Int), .int .i64 (f : Int), .slice p1 k g1, .slice p2 ds.length g2]) := by
          show _ = _
          unfold prfV mkP
          simp only [hk6, List.length_map]
          rw [← HN.out]
        have HK6 := Lib.hid hk6
        clear h6 hx6 hbd he6 hl6 hs6 hT6 hf6 HR hn69 hT60 hdl hk6
        obtain ⟨dl, hdl⟩ : ∃ dl, dl = ds.length := ⟨_, rfl⟩
        have HDL := Lib.hid hdl
        rw [← hdl] at HPV hdc ⊢
        clear hdl
        obtain ⟨q8, hq8⟩ : ∃ q8, q8 = w6.heap.size := ⟨_, rfl⟩
        obtain ⟨W8, hW8⟩ : ∃ W8 : World, W8 = w6.alloc (.cells #[.int .i64 (n : Int), .int .i64 (f : Int), .slice p1 k g1, .slice p2 dl g2] 25) := ⟨_, rfl⟩
        have hbx8 : W8.heap[q8]? = some (.cells #[.int .i64 (n : Int), .int .i64 (f : Int), .slice p1 k g1, .slice p2 dl g2] 25 (0, 0)) := by rw [hW8, hq8]; exact heap_alloc_new w6 _
        have hb8 : Below w6.heap.size w6 W8 := by rw [hW8]; exact bl_alloc w6 _
        have HW8 : Hid (w6.alloc (.cells #[.int .i64 (n : Int), .int .i64 (f : Int), .slice p1 k g1, .slice p2 dl g2] 25) = W8 ∧ w6.heap.size = q8) := ⟨hW8.symm, hq8.symm⟩
        have H8 : Hid (LawAt w W8 w1.heap.size b m v6 T6 a l ∧ PrfAt W8 w1.heap.size (mkP l f k ds) p1 p2 ∧ EntsAt W8 w1.heap.size p1 ((l.drop f).take k)) := ⟨H6.out.1.low hb8, HPA.out.keep (Fx.of_below hb8 H6.out.1.bk.le), H6.out.2.2.2.2.2.2.keep (Fx.of_below hb8 H6.out.1.bk.le)⟩
        have HMC : Hid (∀ X : World, X.heap[q8]? = some (.cells #[.int .i64 (n : Int), .int .i64 (f : Int), .slice p1 k g1, .slice p2 dl g2] 25 (0, 0)) → X.cell? ⟨q8, 0, none⟩ = some (.int .i64 (n : Int)) ∧ X.cell? ⟨q8, 1, none⟩ = some (.int .i64 (f : Int)) ∧ X.cell? ⟨q8, 2, none⟩ = some (.slice p1 k g1) ∧ X.cell? ⟨q8, 3, none⟩ = some (.slice p2 dl g2)) := fun X hX => ⟨by rw [cell_of_row _ _ _ _ _ _ hX]; rfl, by rw [cell_of_row _ _ _ _ _ _ hX]; rfl, by rw [cell_of_row _ _ _ _ _ _ hX]; rfl, by rw [cell_of_row _ _ _ _ _ _ hX]; rfl⟩
        have HBX8 := Lib.hid hbx8
        have HCK : Hid (∀ X : World, Below W8.heap.size W8 X → Calls Try.prog 13 #[.pointer (some ⟨b, 0, none⟩), .int .i64 (d : Int), .agg #[.int .i64 (n : Int), .int .i64 (f : Int), .slice p1 k g1, .slice p2 dl g2]] X fun e X' => e = .returned .nilIface ∧ MdSt w X' w1.heap.size b m a l t d ∧ X'.heap[q8]? = some (.cells #[.int .i64 (n : Int), .int .i64 (f : Int), .slice p1 k g1, .slice p2 dl g2] 25 (0, 0)) ∧ EntsAt X' w1.heap.size p1 ((l.drop f).take k)) := fun X hX => by
          have hfk : f + k ≤ l.length := by have := HN.out; omega
          have hc := chk_yes w1.heap.size b m v6 T6 (d : Int) (mkP l f k ds) l.length f p1 p2 g1 g2 X (H8.out.1.low hX).bk (H8.out.2.1.keep (Fx.of_below hX H8.out.1.bk.le)) (by show (ds.map _).length ≤ g2; rw [List.length_map]; exact H6.out.2.2.2.2.2.1) (mkP_shaped HRI.out hfk H6.out.2.2.2.2.1) (by have := H6.out.2.2.2.1; omega)
          rw [HPV.out] at hc
          refine hc.mono ?_
          rintro e X' ⟨v', T', t', d', he, q1, q2, q3, q4, q5⟩
          have hdd : d' = d := made_root q1.nd hfk H6.out.2.2.2.2.1 q2 q3 (H6.out.2.1.ext q2) (q2 _ _ H6.out.2.2.1)
          subst hdd
          rw [if_pos rfl] at he
          exact ⟨he, ⟨v', T', (H8.out.1.low hX).next q1 q5, H6.out.2.1.ext q2, q2 _ _ H6.out.2.2.1, by have := H6.out.2.2.2.1; have := HN.out; omega⟩, q5.kept _ _ (box_kept hX HBX8.out) rfl, (H8.out.2.2.keep (Fx.of_below hX H8.out.1.bk.le)).keep q5⟩
        have HSM : Hid (∀ X Y : World, MdSt w X w1.heap.size b m a l t d → EntsAt X w1.heap.size p1 ((l.drop f).take k) → Below X.heap.size X Y → Calls Try.prog 14 #[.slice p1 k g1, .slice (if cap = f then a else Option.map (fun x => x.add (f * 3)) a) k (cap - f)] Y fun e Y' => e = .returned (.bool true) ∧ Below Y.heap.size Y Y') := fun X Y hX hE hY => by
          obtain ⟨_, _, hla, _⟩ := hX.ex
          have hab := part_lies (f := f) (L := (l.drop f).take k) (hla.ents.lies.below hY) (by rw [HK6.out]) (by rw [HK6.out]; have := HN.out; omega) HCAP.out.1
          exact same_yes p1 _ g1 (cap - f) k _ Y HK6.out.symm (hE.lies.below hY) hab (by omega)
        obtain ⟨ab, hab0⟩ : ∃ ab, (if cap = f then a else Option.map (fun x => x.add (f * 3)) a) = ab := ⟨_, rfl⟩
        rw [hab0] at HSM
        obtain ⟨y0, y1, y2, y3⟩ := HMC.out W8 hbx8
        clear hW8 hq8 hbx8 hb8 HPA HPV
        have j1 : (f : Int) + (k : Int) ≤ (n : Int) := by omega
        have j2 : (f : Int) + (k : Int) ≤ (cap : Int) := by omega
        have j3 : (0 : Int) ≤ (f : Int) := by omega
        have j4 : (0 : Int) ≤ (f : Int) + (k : Int) := by omega
        have j5 : ((f : Int) + (k : Int)).toNat = f + k := by omega
        have j6 : IntKind.i64.wrap ((f : Int) + (k : Int)) = (f : Int) + (k : Int) := IntWalk.i64_in _ (by omega)
        have j7 : f + k - f = k := by omega
        have j8 : (f : Int) ≤ (f : Int) + (k : Int) := by omega
        go_upto_region 11 with fail
        rw [HW8.out.1, HW8.out.2]
        have hd : Below W8.heap.size W8 W8.drew := ⟨rfl, rfl, rfl, Nat.le_refl _, fun _ _ => rfl⟩
        have HDD := Lib.hid hd
        clear hd
        go_cut [104] from 71 to 103 (fun v wx => v = .bool false ∧ MdSt w wx w1.heap.size b m a l t d)
        case first =>
          go_region_held3 (fun X => X.cell? ⟨q8, 0, none⟩ = some (.int .i64 (n : Int)) ∧ X.cell? ⟨q8, 1, none⟩ = some (.int .i64 (f : Int)) ∧ X.cell? ⟨q8, 2, none⟩ = some (.slice p1 k g1) ∧ X.cell? ⟨q8, 3, none⟩ = some (.slice p2 dl g2)) (first | assumption | exact HMC.out _ (by assumption) | go_keep)
            (first
            | (go_at_call 13; refine (HCK.out _ HDD.out).mono ?_; rintro e wa ⟨rfl, hst, hbx, hea⟩; have HST := Lib.hid hst; have HEA := Lib.hid hea; have HBXA := Lib.hid hbx; clear hst hea)
            | (go_at_call 14; refine (HSM.out _ _ HST.out HEA.out (Below.refl _ _)).mono ?_; rintro e wb ⟨rfl, hbb⟩; have hbx := box_kept hbb HBXA.out; have HBB := Lib.hid hbb; clear hbb))
          all_goals
            go_wp2_with fail
            go_meet
            exact ⟨rfl, HST.out.low HBB.out⟩
        case rest =>
          obtain ⟨rfl, hst⟩ := hcut
          have HST := Lib.hid hst
          clear hst y0 y1 y2 y3 j1 j2 j3 j4 j5 j6 j7 j8 hab0
          obtain ⟨v9, T9, h9, ht9, hr9, hl9⟩ := HST.out.ex
          have H9 : Hid (LawAt w wc w1.heap.size b m v9 T9 a l ∧ TopAt enc T9 l t ∧ At T9 d (rootT l.length t) ∧ T9.length ≤ 20000) := ⟨h9, ht9, hr9, hl9⟩
          have HEO : Hid (EntsAt wc w1.heap.size a9 o) := HIO.out.ents h9.ge h9.below
          clear h9 ht9 hr9 hl9
          go_wp2_with fail
          cases hr : rightB o with
          | false =>
            have HR := root_no b a9 cap9 o wc HEO.out.lies (by have := HN69.out; omega) HW9.out hr
            rw [← HN9.out] at HR
            refine HR.mono ?_
            rintro e w10 ⟨rfl, hb10⟩
            have H10 := Lib.hid (H9.out.1.low hb10).below
            clear hb10 hr HR
            unfold wrongV
            go_wp2_with fail
            go_ret
            exact ⟨rfl, H10.out⟩
          | true =>
            have HR := root_yes w1.heap.size b m v9 T9 a9 cap9 o wc H9.out.1.bk HEO.out HW9.out hr (by have := H9.out.2.2.2; omega)
            rw [← HN9.out] at HR
            refine HR.mono ?_
            rintro e w10 ⟨v10, T10, d2, t2, rfl, h10, hx10, ht10, hr10, hl10, hf10⟩
            have hn11 := right_len hr
            have hsm := same_any a a9 cap cap9 n n9 l o w10 HN.out HN9.out (H9.out.1.ents.keep hf10).lies (HEO.out.keep hf10).lies (by omega) (by have := HN9.out; omega)
            have HRO : Hid (d2 = d ↔ l = o) := roots_one h10.nd (by have := H9.out.2.2.2; omega) (by have := HN.out; omega) (by omega) (right_good HRI.out HW.out) (right_good hr HW9.out) (H9.out.2.1.ext hx10) (hx10 _ _ H9.out.2.2.1) ht10 hr10
            have H10 : Hid (LawAt w w10 w1.heap.size b m v10 T10 a l) := H9.out.1.next h10 hf10
            have HSA := Lib.hid hsm
            clear h10 hx10 ht10 hr10 hl10 hf10 hn11 hsm HR hr
            by_cases hdd : d2 = d
            · subst hdd
              have HLO : Hid (l = o) := HRO.out.1 rfl
              go_wp2_with fail
              refine HSA.out.mono ?_
              rintro e w11 ⟨z, rfl, hz, hb11⟩
              obtain rfl : z = true := hz.2 HLO.out
              have H11 := Lib.hid (H10.out.low hb11).below
              clear hz hb11
              go_wp2_with fail
              go_ret
              exact ⟨rfl, H11.out⟩
            · have hdj : ((d2 : Int) == (d : Int)) = false := by simp; omega
              go_wp2_with fail
              refine HSA.out.mono ?_
              rintro e w11 ⟨z, rfl, hz, hb11⟩
              obtain rfl : z = false := by
                cases z with
                | false => rfl
                | true => exact absurd (HRO.out.2 (hz.1 rfl)) hdd
              have H11 := Lib.hid (H10.out.low hb11).below
              clear hz hb11
              go_wp2_with fail
              go_ret
              exact ⟨rfl, H11.out⟩
end Go.Proofs.Ytlepjjcnlcnnfaa.Merkle
