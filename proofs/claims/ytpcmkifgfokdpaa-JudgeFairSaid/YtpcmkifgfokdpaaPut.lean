/- The model: the document's put. -/
import Derived.Test.YtpcmkifgfokdpaaRbase
import Derived.Test.YtpcmkifgfokdpaaDoc
import Derived.Deep.AppendLies
namespace Go.Proofs.Ytpcmkifgfokdpaa
open Go.RowKit Go.My Go.My.Model Go.Deep
structure PutRel (w : World) (R : List Ent) (v : Value) (wr : World) : Prop where
  out : wr.ownsRow w.heap.size 43 3 v R.length (R.flatMap entL)
  below : Below w.heap.size w wr
theorem PutRel.start (w : World) : PutRel w [] (.slice none 0 0) w := ⟨World.ownsRow_nil _ _ _ _, Below.refl _ _⟩
theorem PutRel.append {w wr W0 w1 : World} {R : List Ent} {v v1 : Value} {e : Ent} (h : PutRel w R v wr) (hb : Below wr.heap.size wr W0)
    (hown : w1.ownsRow w.heap.size 43 3 v1 (R.length + 1) (R.flatMap entL ++ entL e)) (hg : W0.grownBy w1 v.ownBlock) : PutRel w (R ++ [e]) v1 w1 := by
  have h1 := row_below h.out hb
  have hW : Wrote v.ownBlock.toList W0 w1 := Wrote.of_grown hg
  have hB := h.below.trans (hb.mono h.below.size)
  refine ⟨by simpa using hown, hB.trans (hW.below hB.size fun g hg' => ?_)⟩
  simp only [Option.mem_toList] at hg'
  exact (row_block h1 hg').1
def PutDone (w : World) (R : List Ent) (e : Ending) (w' : World) : Prop := ∃ v, e = .returned v ∧ PutRel w R v w'
def foldS (k v : ByteArray) (L : List Ent) (j : Nat) : List Ent × Bool := (L.take j).foldl (stepP k v) ([], false)
theorem foldS_succ {k v : ByteArray} {L : List Ent} {j : Nat} {e : Ent} (h : L[j]? = some e) : foldS k v L (j + 1) = stepP k v (foldS k v L j) e := by
  unfold foldS
  rw [List.take_add_one, h]
  simp
theorem fold_len {k v : ByteArray} : ∀ (L : List Ent) (s : List Ent × Bool) (c : Nat), s.1.length ≤ c + s.2.toNat → (L.foldl (stepP k v) s).1.length ≤ c + L.length + (L.foldl (stepP k v) s).2.toNat
  | [], s, c, h => h
  | e :: L, s, c, h => by
    rw [List.foldl_cons]
    have h1 : (stepP k v s e).1.length ≤ (c + 1) + (stepP k v s e).2.toNat := by
      obtain ⟨R, b⟩ := s
      unfold stepP midP
      by_cases hk : e.key = k <;> cases b <;> cases gtB e k <;> simp [hk] at h ⊢ <;> omega
    have h2 := fold_len (k := k) (v := v) L _ _ h1
    rw [List.length_cons]
    omega
theorem ne_beq {a b : ByteArray} (h : a ≠ b) : (a.toList == b.toList) = false := by
  cases hb : a.toList == b.toList with
  | false => rfl
  | true => exact absurd (bytes_eq (by simpa using hb)) h
theorem step_eq {k v : ByteArray} {R : List Ent} {b : Bool} {e : Ent} (h : e.key = k) : stepP k v (R, b) e = (R ++ [updE v e], true) := by cases b <;> simp [stepP, midP, h, gtB]
theorem step_ne {k v : ByteArray} {R : List Ent} {e : Ent} (h : e.key ≠ k) : stepP k v (R, true) e = (R ++ [e], true) := by simp [stepP, midP, h]
theorem step_lt {k v : ByteArray} {R : List Ent} {e : Ent} (h : e.key ≠ k) (hl : lessK e.key k = true) : stepP k v (R, false) e = (R ++ [e], false) := by simp [stepP, midP, h, gtB, hl]
theorem step_gt {k v : ByteArray} {R : List Ent} {e : Ent} (h : e.key ≠ k) (hl : lessK e.key k = false) : stepP k v (R, false) e = ((R ++ [newE k v]) ++ [e], true) := by simp [stepP, midP, h, gtB, hl]
theorem foldS_len (k v : ByteArray) (L : List Ent) (j : Nat) : (foldS k v L j).1.length ≤ j + 1 := by
  have h := fold_len (k := k) (v := v) (L.take j) ([], false) 0 (by simp)
  have h2 := List.length_take_le j L
  have h3 := Bool.toNat_le ((L.take j).foldl (stepP k v) ([], false)).2
  unfold foldS
  omega
set_option maxRecDepth 100000 in
set_option maxHeartbeats 3200000 in
theorem put_any (ra : Option Addr) (cap : Nat) (L : List Ent) (key val : ByteArray) (w : World) (hL : RowsIn w ra L) (hn : L.length ≤ 10000) (hv : ∀ e ∈ L, 0 ≤ e.ver ∧ e.ver ≤ 1000000) :
    Calls Try.prog 40 #[.slice ra L.length cap, .string key, .string val] w (PutDone w (endP key val (foldS key val L L.length))) := by
  have HL := Lib.hid hL
  have HV := Lib.hid hv
  obtain ⟨n, hnn⟩ : ∃ n, n = L.length := ⟨_, rfl⟩
  have HN := Lib.hid hnn
  rw [← hnn] at hn ⊢
  have hn9 : (n : Int) ≤ 10000 := by omega
  obtain ⟨i0, hi0, hz0, hz1, hz2⟩ := info_parts ent_info
  have HI := Lib.hid hi0
  have HZ := Lib.hid hz0
  have HSI := Lib.hid hz1
  have HY := Lib.hid hz2
  have P0 := Lib.hid (PutRel.start w)
  clear hi0 hz0 hz1 hz2 hL hnn hn hv
  go_enter Try.func40, Try.ntmps40
  go_wp2_with fail
  go_loopw [7, 8, 9] (fun o d i wr => ∃ j : Nat, j ≤ n ∧ i = .int .i64 j ∧ d = .bool (foldS key val L j).2 ∧ Hid (PutRel w (foldS key val L j).1 o wr)) (fun _ _ i _ => n - (intOf i).toNat)
  case atStart => exact ⟨0, by omega, rfl, rfl, P0⟩
  case round =>
    clear P0
    obtain ⟨j, hj, rfl, rfl, HP⟩ := hrel
    by_cases hlt : j < n
    · obtain ⟨e, he⟩ : ∃ e, L[j]? = some e := ⟨_, List.getElem?_eq_getElem (by rw [← HN.out]; exact hlt)⟩
      have HST : Hid (foldS key val L (j + 1) = stepP key val (foldS key val L j) e) := foldS_succ he
      have hlen := foldS_len key val L j
      rcases hS : foldS key val L j with ⟨R, b⟩
      rw [hS] at HP HST hlen
      simp only at HP hlen
      obtain ⟨g, rfl, hg, d0, d1, d2⟩ := HL.out.below HP.out.below j e he
      obtain ⟨hv0, hv1⟩ := HV.out e (List.mem_of_getElem? he)
      have hj0 : (0 : Int) ≤ (j : Int) := by omega
      have hj1 : (j : Int) < (n : Int) := by omega
      obtain ⟨ek, ev, en⟩ := e
      simp only at d0 d1 d2 hv0 hv1
      obtain ⟨va, vcap, rfl, _⟩ := row_form HP.out.out
      have hcR : (R.length : Int) ≤ 20000 := by omega
      have HEL := Lib.hid he
      clear he hS
      by_cases hk : ek = key
      · have hE : (ek.toList == key.toList) = true := by rw [hk]; simp
        have hlk : Op.bytesLess ek.toList key.toList = false := by rw [hk]; exact lessK_irr key
        rw [step_eq (b := b) (e := ⟨ek, ev, en⟩) hk] at HST
        clear hk
        cases b with
        | true =>
          go_wp2_with (at_builtin; refine wpList_append_lies _ rfl _ _ 37 rfl w.heap.size 43 i0 (entV Model.ent0) 3 40 Try.underlying37 HI.out HZ.out HSI.out HY.out rfl (by decide) _ _ _ rfl (row_below HP.out.out (((Below.refl _ wr).alloc (Nat.le_refl _) _).alloc (by simp) _)) ⟨wr.heap.size + 1, 0, none⟩ 1 1 (entL ⟨ek, val, en + 1⟩) rfl rfl ?c1 ?c2 (by decide) ?c3 ?c4 ?c5 _ rfl ?_)
          case c1 => exact World.news_of_block (cs := #[.string ek, .string val, .int .i64 (en + 1)]) (t := 43) (fr := (0, 0)) (by simpa using heap_alloc_new (wr.alloc (.cells #[.string ek, .string val, .int .i64 (en + 1)] 43)) (.cells #[.string ek, .string val, .int .i64 (en + 1)] 43))
          case c2 => simp [entL, Value.oneCell']
          case c3 => unfold maxLen; omega
          case c4 => omega
          case c5 => have := HP.out.below.size; simp; omega
          intro g2 cap2 w5 hown hgrow hat hlt1
          have hp2 := HP.out.append (((Below.refl _ wr).alloc (Nat.le_refl _) _).alloc (by simp) _) hown hgrow
          clear hown hgrow hat hlt1
          have HPN : Hid (PutRel w (foldS key val L (j + 1)).1 (.slice (some ⟨g2, 0, none⟩) (R.length + 1) cap2) w5) := by
            show PutRel _ _ _ _
            rw [HST.out]
            exact hp2
          have HBN : Hid ((foldS key val L (j + 1)).2 = true) := by rw [HST.out]; exact rfl
          clear hp2
          go_wp2_with fail
          go_roundw
          case rel => exact ⟨j + 1, by omega, by go_num, by rw [HBN.out], HPN⟩
          case measure => simp [intOf]; omega
        | false =>
          go_wp2_with (at_builtin; refine wpList_append_lies _ rfl _ _ 37 rfl w.heap.size 43 i0 (entV Model.ent0) 3 40 Try.underlying37 HI.out HZ.out HSI.out HY.out rfl (by decide) _ _ _ rfl (row_below HP.out.out (((Below.refl _ wr).alloc (Nat.le_refl _) _).alloc (by simp) _)) ⟨wr.heap.size + 1, 0, none⟩ 1 1 (entL ⟨ek, val, en + 1⟩) rfl rfl ?c1 ?c2 (by decide) ?c3 ?c4 ?c5 _ rfl ?_)
          case c1 => exact World.news_of_block (cs := #[.string ek, .string val, .int .i64 (en + 1)]) (t := 43) (fr := (0, 0)) (by simpa using heap_alloc_new (wr.alloc (.cells #[.string ek, .string val, .int .i64 (en + 1)] 43)) (.cells #[.string ek, .string val, .int .i64 (en + 1)] 43))
          case c2 => simp [entL, Value.oneCell']
          case c3 => unfold maxLen; omega
          case c4 => omega
          case c5 => have := HP.out.below.size; simp; omega
          intro g2 cap2 w5 hown hgrow hat hlt1
          have hp2 := HP.out.append (((Below.refl _ wr).alloc (Nat.le_refl _) _).alloc (by simp) _) hown hgrow
          clear hown hgrow hat hlt1
          have HPN : Hid (PutRel w (foldS key val L (j + 1)).1 (.slice (some ⟨g2, 0, none⟩) (R.length + 1) cap2) w5) := by
            show PutRel _ _ _ _
            rw [HST.out]
            exact hp2
          have HBN : Hid ((foldS key val L (j + 1)).2 = true) := by rw [HST.out]; exact rfl
          clear hp2
          go_wp2_with fail
          go_roundw
          case rel => exact ⟨j + 1, by omega, by go_num, by rw [HBN.out], HPN⟩
          case measure => simp [intOf]; omega
      · have hE : (ek.toList == key.toList) = false := ne_beq hk
        cases b with
        | true =>
          rw [step_ne (e := ⟨ek, ev, en⟩) hk] at HST
          clear hk
          go_wp2_with (at_builtin; refine wpList_append_lies _ rfl _ _ 37 rfl w.heap.size 43 i0 (entV Model.ent0) 3 40 Try.underlying37 HI.out HZ.out HSI.out HY.out rfl (by decide) _ _ _ rfl (row_below HP.out.out (((Below.refl _ wr).alloc (Nat.le_refl _) _).alloc (by simp) _)) ⟨wr.heap.size + 1, 0, none⟩ 1 1 (entL ⟨ek, ev, en⟩) rfl rfl ?c1 ?c2 (by decide) ?c3 ?c4 ?c5 _ rfl ?_)
          case c1 => exact World.news_of_block (cs := #[.string ek, .string ev, .int .i64 en]) (t := 43) (fr := (0, 0)) (by simpa using heap_alloc_new (wr.alloc (.cells #[.string ek, .string ev, .int .i64 en] 43)) (.cells #[.string ek, .string ev, .int .i64 en] 43))
          case c2 => simp [entL, Value.oneCell']
          case c3 => unfold maxLen; omega
          case c4 => omega
          case c5 => have := HP.out.below.size; simp; omega
          intro g2 cap2 w5 hown hgrow hat hlt1
          have hp2 := HP.out.append (((Below.refl _ wr).alloc (Nat.le_refl _) _).alloc (by simp) _) hown hgrow
          clear hown hgrow hat hlt1
          have HPN : Hid (PutRel w (foldS key val L (j + 1)).1 (.slice (some ⟨g2, 0, none⟩) (R.length + 1) cap2) w5) := by
            show PutRel _ _ _ _
            rw [HST.out]
            exact hp2
          have HBN : Hid ((foldS key val L (j + 1)).2 = true) := by rw [HST.out]; exact rfl
          clear hp2
          go_wp2_with fail
          go_roundw
          case rel => exact ⟨j + 1, by omega, by go_num, by rw [HBN.out], HPN⟩
          case measure => simp [intOf]; omega
        | false =>
          cases hlk : Op.bytesLess ek.toList key.toList with
          | true =>
            rw [step_lt (e := ⟨ek, ev, en⟩) hk hlk] at HST
            clear hk
            go_wp2_with (at_builtin; refine wpList_append_lies _ rfl _ _ 37 rfl w.heap.size 43 i0 (entV Model.ent0) 3 40 Try.underlying37 HI.out HZ.out HSI.out HY.out rfl (by decide) _ _ _ rfl (row_below HP.out.out (((Below.refl _ wr).alloc (Nat.le_refl _) _).alloc (by simp) _)) ⟨wr.heap.size + 1, 0, none⟩ 1 1 (entL ⟨ek, ev, en⟩) rfl rfl ?c1 ?c2 (by decide) ?c3 ?c4 ?c5 _ rfl ?_)
            case c1 => exact World.news_of_block (cs := #[.string ek, .string ev, .int .i64 en]) (t := 43) (fr := (0, 0)) (by simpa using heap_alloc_new (wr.alloc (.cells #[.string ek, .string ev, .int .i64 en] 43)) (.cells #[.string ek, .string ev, .int .i64 en] 43))
            case c2 => simp [entL, Value.oneCell']
            case c3 => unfold maxLen; omega
            case c4 => omega
            case c5 => have := HP.out.below.size; simp; omega
            intro g2 cap2 w5 hown hgrow hat hlt1
            have hp2 := HP.out.append (((Below.refl _ wr).alloc (Nat.le_refl _) _).alloc (by simp) _) hown hgrow
            clear hown hgrow hat hlt1
            have HPN : Hid (PutRel w (foldS key val L (j + 1)).1 (.slice (some ⟨g2, 0, none⟩) (R.length + 1) cap2) w5) := by
              show PutRel _ _ _ _
              rw [HST.out]
              exact hp2
            have HBN : Hid ((foldS key val L (j + 1)).2 = false) := by rw [HST.out]; exact rfl
            clear hp2
            go_wp2_with fail
            go_roundw
            case rel => exact ⟨j + 1, by omega, by go_num, by rw [HBN.out], HPN⟩
            case measure => simp [intOf]; omega
          | false =>
            rw [step_gt (e := ⟨ek, ev, en⟩) hk hlk] at HST
            clear hk
            go_wp2_with (at_builtin; refine wpList_append_lies _ rfl _ _ 37 rfl w.heap.size 43 i0 (entV Model.ent0) 3 40 Try.underlying37 HI.out HZ.out HSI.out HY.out rfl (by decide) _ _ _ rfl (row_below HP.out.out ((Below.refl _ wr).alloc (Nat.le_refl _) _)) ⟨wr.heap.size, 0, none⟩ 1 1 (entL (newE key val)) rfl rfl ?c1 ?c2 (by decide) ?c3 ?c4 ?c5 _ rfl ?_)
            case c1 => exact World.news_of_block (cs := #[.string key, .string val, .int .i64 1]) (t := 43) (fr := (0, 0)) (heap_alloc_new wr _)
            case c2 => simp [entL, newE, Value.oneCell']
            case c3 => unfold maxLen; omega
            case c4 => omega
            case c5 => have := HP.out.below.size; simp; omega
            intro g1 cap1 w3 hown hgrow hat hlt1
            have HP3 : Hid (PutRel w (R ++ [newE key val]) (.slice (some ⟨g1, 0, none⟩) (R.length + 1) cap1) w3) := HP.out.append ((Below.refl _ wr).alloc (Nat.le_refl _) _) hown hgrow
            clear hown hgrow hat hlt1
            obtain ⟨q0, hq0, hg3, f0, f1, f2⟩ := HL.out.below HP3.out.below j _ HEL.out
            obtain rfl : g = q0 := by injection hq0 with h1; injection h1
            simp only at f0 f1 f2
            obtain ⟨R2, hR2⟩ : ∃ R2, R2 = R ++ [newE key val] := ⟨_, rfl⟩
            have hl2 : R.length + 1 = R2.length := by rw [hR2]; simp
            rw [← hR2] at HP3 HST
            rw [hl2] at HP3 ⊢
            have hcR2 : (R2.length : Int) ≤ 20001 := by omega
            clear hR2 hl2 hcR HP
            go_wp2_with (at_builtin; refine wpList_append_lies _ rfl _ _ 37 rfl w.heap.size 43 i0 (entV Model.ent0) 3 40 Try.underlying37 HI.out HZ.out HSI.out HY.out rfl (by decide) _ _ _ rfl (row_below HP3.out.out (((Below.refl _ w3).alloc (Nat.le_refl _) _).alloc (by simp) _)) ⟨w3.heap.size + 1, 0, none⟩ 1 1 (entL ⟨ek, ev, en⟩) rfl rfl ?c1 ?c2 (by decide) ?c3 ?c4 ?c5 _ rfl ?_)
            case c1 => first | exact fun _ _ h => h | exact World.news_of_block (cs := #[.string ek, .string ev, .int .i64 en]) (t := 43) (fr := (0, 0)) (by simpa using heap_alloc_new (w3.alloc (.cells #[.string ek, .string ev, .int .i64 en] 43)) (.cells #[.string ek, .string ev, .int .i64 en] 43))
            case c2 => simp [entL, Value.oneCell']
            case c3 => unfold maxLen; omega
            case c4 => omega
            case c5 => have := HP3.out.below.size; simp; omega
            intro g2 cap2 w5 hown hgrow hat hlt1
            have hp2 := HP3.out.append (((Below.refl _ w3).alloc (Nat.le_refl _) _).alloc (by simp) _) hown hgrow
            clear hown hgrow hat hlt1
            have HPN : Hid (PutRel w (foldS key val L (j + 1)).1 (.slice (some ⟨g2, 0, none⟩) (R2.length + 1) cap2) w5) := by
              show PutRel _ _ _ _
              rw [HST.out]
              exact hp2
            have HBN : Hid ((foldS key val L (j + 1)).2 = true) := by rw [HST.out]; exact rfl
            clear hp2
            go_wp2_with fail
            go_roundw
            case rel => exact ⟨j + 1, by omega, by go_num, by rw [HBN.out], HPN⟩
            case measure => simp [intOf]; omega
    · obtain rfl : j = n := by omega
      have hlen := foldS_len key val L j
      rcases hS : foldS key val L j with ⟨R, b⟩
      rw [hS] at HP hlen
      simp only at HP hlen
      obtain ⟨va, vcap, rfl, _⟩ := row_form HP.out.out
      have hcR : (R.length : Int) ≤ 20000 := by omega
      have HEN : Hid (endP key val (foldS key val L j) = if b = true then R else R ++ [newE key val]) := by rw [hS]; exact rfl
      clear hS
      cases b with
      | true =>
        go_wp2_with fail
        go_ret
        refine ⟨_, rfl, ?_⟩
        rw [HEN.out]
        exact HP.out
      | false =>
        go_wp2_with (at_builtin; refine wpList_append_lies _ rfl _ _ 37 rfl w.heap.size 43 i0 (entV Model.ent0) 3 40 Try.underlying37 HI.out HZ.out HSI.out HY.out rfl (by decide) _ _ _ rfl (row_below HP.out.out ((Below.refl _ wr).alloc (Nat.le_refl _) _)) ⟨wr.heap.size, 0, none⟩ 1 1 (entL (newE key val)) rfl rfl ?c1 ?c2 (by decide) ?c3 ?c4 ?c5 _ rfl ?_)
        case c1 => exact World.news_of_block (cs := #[.string key, .string val, .int .i64 1]) (t := 43) (fr := (0, 0)) (heap_alloc_new wr _)
        case c2 => simp [entL, newE, Value.oneCell']
        case c3 => unfold maxLen; omega
        case c4 => omega
        case c5 => have := HP.out.below.size; simp; omega
        intro g1 cap1 w3 hown hgrow hat hlt1
        have HP3 : Hid (PutRel w (R ++ [newE key val]) (.slice (some ⟨g1, 0, none⟩) (R.length + 1) cap1) w3) := HP.out.append ((Below.refl _ wr).alloc (Nat.le_refl _) _) hown hgrow
        clear hown hgrow hat hlt1
        go_wp2_with fail
        go_ret
        refine ⟨_, rfl, ?_⟩
        rw [HEN.out]
        exact HP3.out
end Go.Proofs.Ytpcmkifgfokdpaa
