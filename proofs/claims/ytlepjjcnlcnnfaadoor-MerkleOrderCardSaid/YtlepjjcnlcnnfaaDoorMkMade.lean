/- Merkle: what Prove makes is taken. -/
import Derived.Test.YtlepjjcnlcnnfaaDoorMkProve
import Derived.Test.YtlepjjcnlcnnfaaDoorMkLaw0
namespace Go.Proofs.YtlepjjcnlcnnfaaDoor.Merkle
open Go.RowKit Go.My

theorem okB_part {l : List Ent} {f k i : Nat} (h : ∀ j, j < l.length → okB l j = true) (hi : i < ((l.drop f).take k).length) : okB ((l.drop f).take k) i = true := by
  have hik : i < k ∧ f + i < l.length := by rw [List.length_take, List.length_drop] at hi; omega
  have hg : ∀ j, j < k → ((l.drop f).take k)[j]? = l[f + j]? := fun j hj => by rw [List.getElem?_take, if_pos hj, List.getElem?_drop]
  have h0 := h (f + i) hik.2
  unfold okB at h0 ⊢
  rw [hg i hik.1]
  rw [List.getElem?_eq_getElem hik.2] at h0 ⊢
  simp only [Bool.and_eq_true, Bool.or_eq_true, decide_eq_true_eq] at h0 ⊢
  refine ⟨h0.1, h0.2.1, ?_⟩
  by_cases e : i = 0
  · exact .inl e
  · right
    rw [hg (i - 1) (by omega)]
    rcases h0.2.2 with h1 | h1
    · omega
    · rw [show f + i - 1 = f + (i - 1) by omega] at h1
      exact h1
theorem right_all {l : List Ent} (h : rightB l = true) : ∀ j, j < l.length → okB l j = true := fun j hj => by
  unfold rightB at h
  rw [Bool.and_eq_true, List.all_eq_true] at h
  exact h.1 j (by simpa using hj)
theorem right_part {l : List Ent} (h : rightB l = true) (f k : Nat) : rightB ((l.drop f).take k) = true := by
  rw [right_end fun i hi => okB_part (right_all h) hi]
  have := right_len h
  simp
  omega
/-- the proof that Prove made -/
def mkP (l : List Ent) (f k : Nat) (ds : List Nat) : Prf := ⟨(l.length : Int), (f : Int), (l.drop f).take k, ds.map fun d => ((d : Nat) : Int)⟩
theorem toN_map (ds : List Nat) : toN (ds.map fun d => ((d : Nat) : Int)) = ds := by
  unfold toN
  rw [List.map_map]
  conv => rhs; rw [← List.map_id ds]
  apply List.map_congr_left
  intro x _
  simp
theorem mkP_shaped {T : List ByteArray} {l : List Ent} {f k : Nat} {ds : List Nat} (hr : rightB l = true) (hfk : f + k ≤ l.length) (hb : BesideAt enc T f (f + k) 0 l ds) : Shaped (mkP l f k ds) l.length f := by
  have hk : ((l.drop f).take k).length = k := by rw [List.length_take, List.length_drop]; omega
  refine ⟨rfl, rfl, right_len hr, right_part hr f k, ?_, ?_, ?_⟩
  · show f + ((l.drop f).take k).length ≤ _
    omega
  · intro z hz
    obtain ⟨d, _, rfl⟩ := List.mem_map.1 hz
    omega
  · show (ds.map _).length = parts 0 l.length f (f + ((l.drop f).take k).length)
    rw [hk, List.length_map, hb.len]
theorem mkP_at {w : World} {bB f k : Nat} {T : List ByteArray} {l : List Ent} {ds : List Nat} {a1 a2 : Option Addr} (he : EntsAt w bB a1 ((l.drop f).take k)) (hn : LiesAt w a2 1 numN ds) (hs : ∀ g o, a2 = some ⟨g, o, none⟩ → ds ≠ [] → Safe bB w g) (hw : Wide l) (hr : rightB l = true) (hT : T.length ≤ 60000) (hb : BesideAt enc T f (f + k) 0 l ds) (hl : ds.length ≤ 6000) : PrfAt w bB (mkP l f k ds) a1 a2 := by
  refine ⟨he, fun i x hi => ?_, fun g o e hne => hs g o e fun e2 => hne (by unfold mkP; simp [e2]), fun x hx => hw x (List.mem_of_mem_drop (List.mem_of_mem_take hx)), ?_, ?_, ?_⟩
  · have hi : (ds.map fun d => ((d : Nat) : Int))[i]? = some x := hi
    rw [List.getElem?_map] at hi
    obtain ⟨d, hd, rfl⟩ := Option.map_eq_some_iff.1 hi
    exact hn i d hd
  · show ((l.drop f).take k).length ≤ 6000
    have := right_len hr
    rw [List.length_take, List.length_drop]
    omega
  · show (ds.map _).length ≤ 6000
    rw [List.length_map]
    exact hl
  · intro z hz
    obtain ⟨d, hd, rfl⟩ := List.mem_map.1 (show z ∈ ds.map _ from hz)
    have := hb.lt d hd
    omega
/-- P6.3: what Prove makes is taken for the root -/
theorem made_root {T0 T' : List ByteArray} {l : List Ent} {f k t0 d0 t d : Nat} {ds : List Nat} (hn : T'.Nodup) (hfk : f + k ≤ l.length) (hb : BesideAt enc T0 f (f + k) 0 l ds) (he : Ext T0 T') (ht : Told T' (mkP l f k ds) l.length f t d) (h0 : TopAt enc T' l t0) (hr0 : At T' d0 (rootT l.length t0)) : d = d0 := by
  have hk : ((l.drop f).take k).length = k := by rw [List.length_take, List.length_drop]; omega
  have hm := ht.made
  have e1 : toN (mkP l f k ds).B = ds := toN_map ds
  rw [e1] at hm
  have hb2 : BesideAt enc T0 f (f + (mkP l f k ds).L.length) 0 l ds := by
    show BesideAt enc T0 f (f + ((l.drop f).take k).length) 0 l ds
    rw [hk]
    exact hb
  obtain ⟨h1, _⟩ := hb2.made (q := []) he (fun i hi h2 h3 => by
    have h3 : 0 + i < f + ((l.drop f).take k).length := h3
    show l[i]? = ((l.drop f).take k)[0 + i - f]?
    rw [List.getElem?_take, if_pos (by omega), List.getElem?_drop]
    congr 1
    omega) (by rw [List.append_nil]; exact hm)
  have e := h1.uniq hn h0
  subst e
  exact ht.root.inj hn hr0
/-- P6.2: a proof that is taken for the root: its leaves are those entries -/
theorem told_sound {T' : List ByteArray} {l : List Ent} {p : Prf} {n f t d t0 : Nat} (hlim : T'.length ≤ 60000) (ht : Told T' p n f t d) (hw : Wide p.L) (hg : ∀ x ∈ l, Good x) (hl : l.length ≤ 2000) (h0 : TopAt enc T' l t0) (hr0 : At T' d (rootT l.length t0)) : n = l.length ∧ p.L = (l.drop f).take p.L.length ∧ f + p.L.length ≤ l.length := by
  have htlt := h0.lt
  have hmlt := ht.made.lt (by show _ ≤ 9223372036854775808; omega)
  have hmlt : t < 9223372036854775808 := hmlt
  have hsm := ht.shaped.small
  obtain ⟨e1, e2⟩ := rootT_inj (by omega) (by omega) (by omega) hmlt (hr0.text ht.root)
  subst e1
  subst e2
  have hfit := ht.shaped.fits
  refine ⟨rfl, ?_, hfit⟩
  have hs := ht.made.sound (by show _ ≤ 9223372036854775808; omega) (right_good ht.shaped.right hw) l rfl hg h0
  apply List.ext_getElem?
  intro i
  rcases Nat.lt_or_ge i p.L.length with h | h
  · rw [List.getElem?_take, if_pos h, List.getElem?_drop]
    have := hs (f + i) (by omega) (by omega) (by omega)
    rw [this]
    congr 1
    omega
  · rw [List.getElem?_eq_none h, List.getElem?_eq_none (by rw [List.length_take]; omega)]
end Go.Proofs.YtlepjjcnlcnnfaaDoor.Merkle
