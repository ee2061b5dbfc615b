/- The model: At. -/
import Derived.Test.YtpcmkifgfokdpaaFit
import Derived.RegionTactic
import Derived.ChangeAlike
import Derived.BigRegion
import Derived.Handy
namespace Go.Proofs.Ytpcmkifgfokdpaa
open Go.RowKit Go.My Go.My.Model

theorem far_below {w W : World} {a : Option Addr} {T : List Tx} {S : List Nat} (ho : OrdFar [] w a T) (hb : Below w.heap.size w W) (hS : ∀ g ∈ S, w.heap.size ≤ g) : OrdFar S W a T := by
  intro i t hi
  obtain ⟨g, o, ha, hx⟩ := ho i t hi
  have ce : ∀ g j, g < w.heap.size → W.cell? ⟨g, j, none⟩ = w.cell? ⟨g, j, none⟩ := fun g j hg => hb.cell (p := ⟨g, j, none⟩) hg
  have far : ∀ g, g < w.heap.size → g ∉ S := fun g hg hm => by have := hS g hm; omega
  have lt : ∀ g, g < w.heap.size → g < W.heap.size := fun g hg => Nat.lt_of_lt_of_le hg hb.size
  refine ⟨g, o, ha, lt _ hx.lt, far _ hx.lt, (ce _ _ hx.lt).trans hx.c0, (ce _ _ hx.lt).trans hx.c1, ?_, ?_⟩
  · obtain ⟨ra, rc, c2, hr⟩ := hx.c2
    refine ⟨ra, rc, (ce _ _ hx.lt).trans c2, fun j r hj => ?_⟩
    obtain ⟨g', o', ha', hg', _, d0, d1⟩ := hr j r hj
    exact ⟨g', o', ha', lt _ hg', far _ hg', (ce _ _ hg').trans d0, (ce _ _ hg').trans d1⟩
  · obtain ⟨wa, wc, c3, hr⟩ := hx.c3
    refine ⟨wa, wc, (ce _ _ hx.lt).trans c3, fun j x hj => ?_⟩
    obtain ⟨g', o', ha', hg', _, d0, d1, dm⟩ := hr j x hj
    exact ⟨g', o', ha', lt _ hg', far _ hg', (ce _ _ hg').trans d0, (ce _ _ hg').trans d1, dm⟩

def missB (ws : List Wri) (k : ByteArray) (v : Int) (x : Wri) : Bool := !(decide (x.1 = k) && decide ((countK ws k : Int) + 1 = v))
/-- nothing was found among some writes -/
def None (ws : List Wri) (k : ByteArray) (v : Int) : Prop := v ≤ 0 ∨ (countK ws k : Int) < v
theorem next_ver (ds : List Wri) (x : Wri) : (nextE (stateOf ds) x).ver = (countK ds x.1 : Int) + 1 := by
  unfold nextE
  simp only [ver_state]

/-- the last of a list, asked -/
def lastB (k : ByteArray) (v : Int) (l : List Wri) : Bool := match l.getLast? with | none => true | some x => missB l.dropLast k v x
theorem lastB_snoc (k : ByteArray) (v : Int) (ds : List Wri) (x : Wri) : lastB k v (ds ++ [x]) = missB ds k v x := by simp [lastB]

def AtLeft (w : World) (T : List Tx) (k : ByteArray) (v : Int) (e : Ending) (w' : World) : Prop :=
  e = .returned (.tuple #[entV (atEnt (flat T T.length) k v), .bool (atOk (flat T T.length) k v)]) ∧ Below w.heap.size w w'
set_option maxRecDepth 100000 in
set_option maxHeartbeats 1600000 in
theorem at_any (a : Option Addr) (cap : Nat) (T : List Tx) (k : ByteArray) (v : Int) (w : World) (ho : OrdFar [] w a T) (hl : T.length ≤ 2000) (ht : (flat T T.length).length ≤ 1000000) :
    Calls Try.prog 18 #[.slice a T.length cap, .string k, .int .i64 v] w (AtLeft w T k v) := by
  obtain ⟨W, hW⟩ : ∃ W, W = (((w.alloc (.cells #[.string k] 9)).alloc (.cells #[.int .i64 v] 2)).alloc (.cells #[.string ⟨#[]⟩, .string ⟨#[]⟩, .int .i64 0] 43)).alloc (.cells #[.string ⟨#[]⟩, .string ⟨#[]⟩, .int .i64 0] 43) := ⟨_, rfl⟩
  have hbW : Below w.heap.size w W := by rw [hW]; exact ((((Below.refl _ w).alloc (Nat.le_refl _) _).alloc (by simp) _).alloc (by simp; omega) _).alloc (by simp; omega) _
  have hsz : W.heap.size = w.heap.size + 4 := by rw [hW]; simp
  have hoW := far_below (S := [w.heap.size + 3]) ho hbW (by simp)
  have b0 : W.heap[w.heap.size]? = some (.cells #[.string k] 9 (0, 0)) := by rw [hW]; exact (Below.heap_alloc _ _ _ (by simp; omega)).trans ((Below.heap_alloc _ _ _ (by simp; omega)).trans ((Below.heap_alloc _ _ _ (by simp)).trans (heap_alloc_new w _)))
  have b1 : W.heap[w.heap.size + 1]? = some (.cells #[.int .i64 v] 2 (0, 0)) := by rw [hW]; exact (Below.heap_alloc _ _ _ (by simp)).trans ((Below.heap_alloc _ _ _ (by simp)).trans (by simpa using heap_alloc_new (w.alloc _) _))
  have b2 : W.heap[w.heap.size + 2]? = some (.cells #[.string ⟨#[]⟩, .string ⟨#[]⟩, .int .i64 0] 43 (0, 0)) := by rw [hW]; exact (Below.heap_alloc _ _ _ (by simp)).trans (by simpa using heap_alloc_new ((w.alloc _).alloc _) _)
  have b3 : W.heap[w.heap.size + 3]? = some (.cells #[.string ⟨#[]⟩, .string ⟨#[]⟩, .int .i64 0] 43 (0, 0)) := by rw [hW]; simpa using heap_alloc_new (((w.alloc _).alloc _).alloc _) _
  have C0 : Caught W w.heap.size (w.heap.size + 1) (w.heap.size + 3) k v Model.ent0 := ⟨b0, b1, b3⟩
  have hands : Hands W a T [w.heap.size + 3] (fun i W' => Caught W' w.heap.size (w.heap.size + 1) (w.heap.size + 3) k v Model.ent0 ∧ None (flat T i) k v) (fun _ ds W' => Caught W' w.heap.size (w.heap.size + 1) (w.heap.size + 3) k v Model.ent0 ∧ None ds k v)
      (fun _ W' => Caught W' w.heap.size (w.heap.size + 1) (w.heap.size + 3) k v (atEnt (flat T T.length) k v)) (fun _ => true) (lastB k v) 32 33 [] [.pointer (some ⟨w.heap.size, 0, none⟩), .pointer (some ⟨w.heap.size + 1, 0, none⟩), .pointer (some ⟨w.heap.size + 3, 0, none⟩)] := by
    refine ⟨by simp; omega, hoW, fun i W' b hi hj hm => ?_, fun i ds x W' _ hp hj => ?_, fun i W' _ hj => hj, fun W' hj => ?_, fun i W' W2 hj hw => ⟨hj.1.wrote hw (by simp; omega) (by simp; omega) (by simp; omega), hj.2⟩, fun i _ W' W2 hj hw => ⟨hj.1.wrote hw (by simp; omega) (by simp; omega) (by simp; omega), hj.2⟩, ⟨C0, ?_⟩⟩
    · refine (always_any _ _ W').mono ?_
      rintro e W2 ⟨he, rfl⟩
      exact ⟨he, Wrote.refl _ _, fun _ => hj, fun h => by cases h⟩
    · rw [lastB_snoc]
      have hv := next_ver ds x
      by_cases hmt : x.1 = k ∧ (countK ds k : Int) + 1 = v
      · have hB : missB ds k v x = false := by unfold missB; simp [hmt.1, hmt.2]
        have h1 := at1_yes w.heap.size (w.heap.size + 1) (w.heap.size + 3) k v (nextE (stateOf ds) x) W' hj.1 hmt.1 (by rw [hv, hmt.1]; exact hmt.2) (by omega) (by omega) (by omega)
        rw [hB]
        refine h1.mono ?_
        rintro e W2 ⟨he, hc, hw⟩
        refine ⟨he, hw, (fun h => by cases h), fun _ => ?_⟩
        rw [at_found hp hmt.1 hmt.2]
        have e1 : nextE (stateOf ds) x = ⟨k, x.2, v⟩ := by
          have : (nextE (stateOf ds) x).ver = v := by rw [hv, hmt.1]; exact hmt.2
          have h2 : nextE (stateOf ds) x = ⟨x.1, x.2, (nextE (stateOf ds) x).ver⟩ := rfl
          rw [h2, this, hmt.1]
        rw [e1] at hc
        exact hc
      · have hB : missB ds k v x = true := by
          unfold missB
          simp only [Bool.not_eq_true', Bool.and_eq_false_iff, decide_eq_false_iff_not]
          by_cases h1 : x.1 = k
          · exact .inr fun h2 => hmt ⟨h1, h2⟩
          · exact .inl h1
        have h1 := at1_no w.heap.size (w.heap.size + 1) (w.heap.size + 3) k v (nextE (stateOf ds) x) W' hj.1 (fun h => hmt ⟨h.1, by have := h.2; rw [hv] at this; rw [← h.1]; exact this⟩)
        rw [hB]
        refine h1.mono ?_
        rintro e W2 ⟨he, hc, hw⟩
        refine ⟨he, hw, fun _ => ⟨hc, ?_⟩, fun h => by cases h⟩
        unfold None at hj ⊢
        rw [countK_snoc]
        rcases hj.2 with h2 | h2
        · exact .inl h2
        · right
          split
          · rename_i h3
            have : ¬ (countK ds k : Int) + 1 = v := fun h4 => hmt ⟨h3, h4⟩
            simp
            omega
          · simpa using h2
    · rw [at_none hj.2]
      exact hj.1
    · unfold None
      have : countK (flat T 0) k = 0 := rfl
      omega
  have HRUN := Lib.hid (run_19_20 _ _ _ a cap T W _ _ _ _ _ _ hands hl ht)
  have HBW := Lib.hid hbW
  have HB2 := Lib.hid b2
  have HOK := Lib.hid (at_ok (flat T T.length) k v)
  obtain ⟨f, hf⟩ : ∃ f, f = atEnt (flat T T.length) k v := ⟨_, rfl⟩
  unfold AtLeft
  rw [← hf] at HRUN HOK ⊢
  rw [← HOK.out]
  generalize T.length = n at HRUN hl ⊢
  have HW := Lib.hid hW
  clear hands b0 b1 b2 b3 hoW hbW ho hl ht C0 hf HOK
  rw [HW.out] at HRUN
  clear hW
  go_enter Try.func18, Try.ntmps18
  go_wp2_with fail
  refine HRUN.out.mono ?_
  rintro e w2 ⟨ds, rfl, hm, hc, hw⟩
  rw [← HW.out] at hw
  have hbf := hc.bf
  have hbr := hw.heap HB2.out (by simp)
  have HB : Hid (Below w.heap.size w w2) := HBW.out.trans (hw.below HBW.out.size (by simp))
  clear hm hc hw
  have f0 : w2.cell? ⟨w.heap.size + 1 + 1 + 1, 0, none⟩ = some (.string f.key) := by rw [cell_of_row _ _ _ _ _ _ hbf]; rfl
  have f1 : w2.cell? ⟨w.heap.size + 1 + 1 + 1, 1, none⟩ = some (.string f.value) := by rw [cell_of_row _ _ _ _ _ _ hbf]; rfl
  have f2 : w2.cell? ⟨w.heap.size + 1 + 1 + 1, 2, none⟩ = some (.int .i64 f.ver) := by rw [cell_of_row _ _ _ _ _ _ hbf]; rfl
  have r0 : w2.cell? ⟨w.heap.size + 1 + 1, 0, none⟩ = some (.string ⟨#[]⟩) := by rw [cell_of_row _ _ _ _ _ _ hbr]; rfl
  have r1 : w2.cell? ⟨w.heap.size + 1 + 1, 1, none⟩ = some (.string ⟨#[]⟩) := by rw [cell_of_row _ _ _ _ _ _ hbr]; rfl
  have r2 : w2.cell? ⟨w.heap.size + 1 + 1, 2, none⟩ = some (.int .i64 0) := by rw [cell_of_row _ _ _ _ _ _ hbr]; rfl
  have fz : ∀ i, w2.frozen? ⟨w.heap.size + 1 + 1, i, none⟩ = false := fun i => by
    unfold World.frozen?
    rw [show w2.heap[w.heap.size + 1 + 1]? = _ from hbr]
    simp
  clear hbf hbr hsz
  obtain ⟨fk, fv, fn⟩ := f
  simp only at f0 f1 f2 ⊢
  go_wp2_with fail
  go_region
  go_wp2_with fail
  have hb := HB.out
  refine bodyPost_ret (v := .tuple #[.agg #[.string fk, .string fv, .int .i64 fn], .bool (decide (0 < fn))]) (by simp [results, Try.results18, go_sem, r0, r1, r2]) rfl ⟨rfl, ?_⟩
  go_grown
end Go.Proofs.Ytpcmkifgfokdpaa
