/- The model: Run. -/
import Derived.Test.YtacdnpacpndekaaAtM
import Derived.Test.YtacdnpacpndekaaIter
import Derived.Deep.AppendLies
namespace Go.Proofs.Ytacdnpacpndekaa
open Go.RowKit Go.My Go.My.Model

def entL (e : Ent) : List Value := [.string e.key, .string e.value, .int .i64 e.ver]
theorem entL_len (e : Ent) : (entL e).length = 3 := rfl
def runK (m : St) (k : Nat) : List Ent := ((sortS m).take k).map fun s => (aget m s).getD Model.ent0
def runL (m : St) : List Ent := (sortS m).map fun s => (aget m s).getD Model.ent0
theorem sortS_len (m : St) : (sortS m).length = m.length := by simp [sortS]
theorem runL_len (m : St) : (runL m).length = m.length := by simp [runL, sortS_len]
theorem runK_succ {m : St} {k : Nat} {s : ByteArray} (h : (sortS m)[k]? = some s) : runK m (k + 1) = runK m k ++ [(aget m s).getD Model.ent0] := by
  unfold runK
  rw [List.take_add_one, h]
  simp
theorem ent_info : (Try.prog.info? 26).map (fun i => (i.zero, i.size, i.bytes)) = some (some (entV Model.ent0), 3, 40) := by kernel_rfl
theorem far_size {S : List Nat} {w : World} {a : Option Addr} {T : List Tx} (h : OrdFar S w a T) : ∀ x ∈ flat T T.length, x.1.size ≤ maxLen := by
  intro x hx
  unfold flat at hx
  rw [List.take_of_length_le (Nat.le_refl _)] at hx
  obtain ⟨t, ht, hxt⟩ := List.mem_flatMap.1 hx
  obtain ⟨i, hi⟩ := List.getElem?_of_mem ht
  obtain ⟨j, hj⟩ := List.getElem?_of_mem hxt
  obtain ⟨g, o, _, hf⟩ := h i t hi
  obtain ⟨wa, wc, _, hw⟩ := hf.c3
  obtain ⟨_, _, _, _, _, _, _, hm⟩ := hw j x hj
  exact hm
theorem row_base {w : World} {base base' : Nat} {e : TypeId} {c : Nat} {v : Value} {n : Nat} {xs : List Value} (h : w.ownsRow base e c v n xs) (hb : base' ≤ base) : w.ownsRow base' e c v n xs := by
  refine ⟨h.1, ?_⟩
  rcases h.2 with h0 | ⟨g, cap, cur, rfl, hg, h3⟩
  · exact .inl h0
  · exact .inr ⟨g, cap, cur, rfl, Nat.le_trans hb hg, h3⟩
structure RunRel (w : World) (m : St) (b : Nat) (kv : Value) (k : Nat) (v : Value) (wr : World) : Prop where
  out : wr.ownsRow w.heap.size 26 3 v k ((runK m k).flatMap entL)
  keys : wr.ownsRow w.heap.size 9 1 kv m.length ((sortS m).map bs)
  map : MapAt wr b bs entV m
  below : Below w.heap.size w wr
def RunDone (w : World) (m : St) (e : Ending) (w' : World) : Prop :=
  ∃ v, e = .returned v ∧ w'.ownsRow w.heap.size 26 3 v (runL m).length ((runL m).flatMap entL) ∧ Below w.heap.size w w'
theorem RunRel.append {w wr w1 : World} {m : St} {b : Nat} {kv v v1 : Value} {k : Nat} {s : ByteArray} {o : Obj} (h : RunRel w m b kv k v wr) (hn : (sortS m)[k]? = some s)
    (hown : w1.ownsRow w.heap.size 26 3 v1 (k + 1) ((runK m k).flatMap entL ++ entL ((aget m s).getD Model.ent0))) (hg : (wr.alloc o).grownBy w1 v.ownBlock) : RunRel w m b kv (k + 1) v1 w1 := by
  have hb : Below wr.heap.size wr (wr.alloc o) := (Below.refl _ wr).alloc (Nat.le_refl _) o
  have h1 := row_below h.out hb
  have h2 := row_below h.keys hb
  have hW : Wrote v.ownBlock.toList (wr.alloc o) w1 := Wrote.of_grown hg
  refine ⟨?_, row_wrote h2 hW fun g hg' => ?_, (h.map.alloc o).touch hW fun hm => ?_, (h.below.alloc h.below.size o).trans (hW.below (h.below.alloc h.below.size o).size fun g hg' => ?_)⟩
  · rw [runK_succ hn, List.flatMap_append]
    simpa using hown
  · simp only [Option.mem_toList]
    exact rows_apart h2 h1 (by decide) hg'
  · simp only [Option.mem_toList] at hm
    obtain ⟨_, cur, hc⟩ := row_block h1 hm
    exact (h.map.alloc o).ne_cells hc rfl
  · simp only [Option.mem_toList] at hg'
    exact (row_block h1 hg').1

set_option maxRecDepth 100000 in
set_option maxHeartbeats 1600000 in
theorem run_any (a : Option Addr) (cap : Nat) (T : List Tx) (w : World) (ho : OrdFar [] w a T) (hl : T.length ≤ 2000) (ht : (flat T T.length).length ≤ 100000) :
    Calls Try.prog 13 #[.slice a T.length cap] w (RunDone w (stateOf (flat T T.length))) := by
  have hands : Hands w a T [] (fun _ _ => True) (fun _ _ _ => True) (fun ds _ => ds = flat T T.length) (fun _ => true) (fun _ => true) 19 21 [] [] := by
    refine ⟨by simp, ho, fun i W' b hi hj hm => ?_, fun i ds x W' _ _ hj => ?_, fun _ _ _ _ => trivial, fun _ _ => rfl, fun _ _ _ _ _ => trivial, fun _ _ _ _ _ _ => trivial, trivial⟩
    · refine (always_any _ _ W').mono ?_
      rintro e W2 ⟨he, rfl⟩
      exact ⟨he, Wrote.refl _ _, fun _ => trivial, fun h => by cases h⟩
    · refine (all_any _ W').mono ?_
      rintro e W2 ⟨he, hb⟩
      exact ⟨he, Wrote.of_below hb, fun _ => trivial, fun h => by cases h⟩
  obtain ⟨ws, hws⟩ : ∃ ws, ws = flat T T.length := ⟨_, rfl⟩
  have hgood := good_state ws
  have hsz : ∀ p ∈ stateOf ws, p.1.size ≤ maxLen := fun p hp => by
    obtain ⟨_, _, x, hx, e⟩ := hgood.key p hp
    rw [← e]
    exact far_size ho x (by rw [← hws]; exact hx)
  have hfew : (stateOf ws).length ≤ 100000 := by have := hgood.few; rw [hws] at this ⊢; omega
  have HRUN := Lib.hid ((run_19_21 a cap T w _ _ _ _ _ _ hands hl (by omega)).mono (R' := fun e w' => e = .returned (.map (some w.heap.size)) ∧ MapAt w' w.heap.size bs entV (stateOf ws) ∧ Wrote [] w w') (by
    intro e w' hrl
    obtain ⟨ds, he, hm, hd, hw⟩ := hrl
    rw [hd, ← hws] at hm
    exact ⟨he, hm, hw⟩))
  rw [← hws]
  have HSZ := Lib.hid hsz
  generalize stateOf ws = m at HRUN HSZ hfew ⊢
  have HFEW := Lib.hid hfew
  generalize T.length = n at HRUN ⊢
  clear hands ho hl ht hws hgood hsz hfew
  obtain ⟨i0, hi0, hz0, hz1, hz2⟩ := info_parts ent_info
  have HI := Lib.hid hi0
  have HZ := Lib.hid hz0
  have HS := Lib.hid hz1
  have HY := Lib.hid hz2
  clear hi0 hz0 hz1 hz2
  go_enter Try.func13, Try.ntmps13
  go_wp2_with fail
  refine HRUN.out.mono ?_
  rintro e w1 ⟨rfl, hm, hw⟩
  have HM1 := Lib.hid hm
  have HB1 : Hid (Below w.heap.size w w1) := hw.below (Nat.le_refl _) (by simp)
  have HK := Lib.hid (sorted_keys hm HSZ.out (by have := HFEW.out; omega))
  clear hm hw
  obtain ⟨b, hb⟩ : ∃ b, b = w.heap.size := ⟨_, rfl⟩
  rw [← hb] at HM1 HK ⊢
  clear hb
  go_wp2_with (go_at_call 23; refine (keys_call _ _).mono ?_; rintro e w' ⟨rfl, rfl⟩)
  refine HK.out.mono ?_
  rintro e w2 ⟨kv, rfl, hrow, hb⟩
  have R0 : Hid (RunRel w m b kv 0 (.slice none 0 0) w2) := ⟨World.ownsRow_nil _ _ _ _, (row_base hrow HB1.out.size), HM1.out.keep (hb.block _ HM1.out.lt), HB1.out.trans (hb.mono HB1.out.size)⟩
  obtain ⟨kn, hkn⟩ : ∃ kn, kn = m.length := ⟨_, rfl⟩
  have HKN := Lib.hid hkn
  obtain ⟨ka, kcap, rfl, _⟩ := row_form hrow
  rw [← hkn]
  have hk9 : (kn : Int) ≤ 100000 := by have := HFEW.out; omega
  clear hrow hb hkn
  go_wp2_with fail
  go_loopw [4, 13] (fun v i wr => ∃ k : Nat, k ≤ kn ∧ i = .int .i64 k ∧ Hid (RunRel w m b (.slice ka m.length kcap) k v wr)) (fun _ i _ => kn - (intOf i).toNat)
  case atStart => exact ⟨0, by omega, rfl, R0⟩
  case round =>
    clear R0
    obtain ⟨k, hk, rfl, HR⟩ := hrel
    by_cases hlt : k < kn
    · obtain ⟨s, hs⟩ : ∃ s, (sortS m)[k]? = some s := ⟨_, List.getElem?_eq_getElem (by rw [sortS_len, ← HKN.out]; exact hlt)⟩
      have HNK := Lib.hid hs
      have hrow := HR.out.keys
      obtain ⟨g, rfl, _, _⟩ := row_pos hrow (by rw [← HKN.out]; omega)
      have e1 : wr.cell? ⟨g, k, none⟩ = some (.string s) := by
        rw [hrow.cellAt k (by rw [← HKN.out]; omega), List.getElem?_map, hs]
        rfl
      have hlk := HR.out.map.lookup1 kStr Try.underlying46 (zero26 wr) s
      obtain ⟨p, hp⟩ : ∃ p, p = (aget m s).getD Model.ent0 := ⟨_, rfl⟩
      have hv : ((aget m s).map entV).getD (entV Model.ent0) = entV p := by rw [hp]; cases aget m s <;> rfl
      have hv2 : ((aget m s).map entV).getD (entV ent0) = entV p := hv
      rw [hv2] at hlk
      have HP := Lib.hid hp
      clear hv hv2 hs hp hrow
      obtain ⟨pk, pv, pn⟩ := p
      unfold entV bs at hlk
      simp only at hlk
      go_wp2_with (at_builtin; refine wpList_append_lies _ rfl _ _ 30 rfl w.heap.size 26 i0 (entV Model.ent0) 3 40 Try.underlying30 HI.out HZ.out HS.out HY.out rfl (by decide) _ _ _ rfl (row_below HR.out.out ((Below.refl _ wr).alloc (Nat.le_refl _) _)) ⟨wr.heap.size, 0, none⟩ 1 1 (entL ⟨pk, pv, pn⟩) rfl rfl ?c1 ?c2 (by decide) ?c3 ?c4 ?c5 _ rfl ?_)
      case c1 => exact World.news_of_block (cs := #[.string pk, .string pv, .int .i64 pn]) (t := 26) (fr := (0, 0)) (heap_alloc_new wr _)
      case c2 => simp [entL, Value.oneCell']
      case c3 => unfold maxLen; omega
      case c4 => omega
      case c5 => have := HR.out.below.size; simp; omega
      intro g1 cap1 w3 hown hgrow hat hlt1
      have hown' := hown
      rw [HP.out] at hown'
      have HR2 := Lib.hid (HR.out.append HNK.out hown' hgrow)
      clear hown hown' hgrow hat hlt1
      go_wp2_with fail
      go_roundw
      case rel => exact ⟨k + 1, by omega, by go_num, HR2⟩
      case measure => simp [intOf]; omega
    · obtain rfl : k = kn := by omega
      go_wp2_with fail
      go_ret
      refine ⟨_, rfl, ?_, HR.out.below⟩
      have h2 := HR.out.out
      have e : runK m k = runL m := by unfold runK runL; rw [List.take_of_length_le (by rw [sortS_len, HKN.out]; exact Nat.le_refl _)]
      rw [e] at h2
      have e2 : (runL m).length = k := by rw [runL_len, HKN.out]
      rw [e2]
      exact h2
end Go.Proofs.Ytacdnpacpndekaa
