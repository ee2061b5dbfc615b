/- The model: plain laws of what a key has of a version, and how many fit. -/
import Derived.Test.YtpcmkifgfokdpaaSpec
namespace Go.My.Model
open Go.My
def vals (ws : List Wri) (k : ByteArray) : List ByteArray := (ws.filter fun x => decide (x.1 = k)).map (·.2)
theorem vals_len (ws : List Wri) (k : ByteArray) : (vals ws k).length = countK ws k := by simp [vals, countK]
theorem vals_snoc (ws : List Wri) (x : Wri) (k : ByteArray) : vals (ws ++ [x]) k = if x.1 = k then vals ws k ++ [x.2] else vals ws k := by
  unfold vals
  rw [List.filter_append]
  by_cases h : x.1 = k <;> simp [h]
theorem vals_pre {ws ws' : List Wri} (h : ws <+: ws') (k : ByteArray) : vals ws k <+: vals ws' k := (h.filter _).map _
theorem count_pre {ws ws' : List Wri} (h : ws <+: ws') (k : ByteArray) : countK ws k ≤ countK ws' k := by
  rw [← vals_len, ← vals_len]
  exact (vals_pre h k).length_le
/-- What a key has of a version. -/
def atOk (ws : List Wri) (k : ByteArray) (v : Int) : Bool := decide (1 ≤ v) && decide (v ≤ (countK ws k : Int))
def ent0 : Ent := ⟨ByteArray.empty, ByteArray.empty, 0⟩
def atEnt (ws : List Wri) (k : ByteArray) (v : Int) : Ent := if atOk ws k v then ⟨k, (vals ws k).getD (v - 1).toNat ByteArray.empty, v⟩ else ent0
theorem at_found {ds ws : List Wri} {x : Wri} {k : ByteArray} {v : Int} (hp : (ds ++ [x]) <+: ws) (hk : x.1 = k) (hv : (countK ds k : Int) + 1 = v) : atEnt ws k v = ⟨k, x.2, v⟩ := by
  have h1 := count_pre hp k
  rw [countK_snoc, if_pos hk] at h1
  have ho : atOk ws k v = true := by simp [atOk]; omega
  unfold atEnt
  rw [if_pos ho]
  have h2 := vals_pre hp k
  rw [vals_snoc, if_pos hk] at h2
  obtain ⟨r, hr⟩ := h2
  have e : (v - 1).toNat = (vals ds k).length := by rw [vals_len]; omega
  rw [← hr, e]
  simp [List.getD]
theorem at_none {ws : List Wri} {k : ByteArray} {v : Int} (h : v ≤ 0 ∨ (countK ws k : Int) < v) : atEnt ws k v = ent0 := by
  have ho : atOk ws k v = false := by simp [atOk]; omega
  unfold atEnt
  rw [ho]
  rfl
theorem at_ok (ws : List Wri) (k : ByteArray) (v : Int) : decide (0 < (atEnt ws k v).ver) = atOk ws k v := by
  unfold atEnt
  split
  · rename_i h
    have h' := h
    simp only [atOk, Bool.and_eq_true, decide_eq_true_eq] at h'
    rw [h]
    simp
    omega
  · rename_i h
    simp only [Bool.not_eq_true] at h
    rw [h]
    rfl
/-- Does one read what is there? -/
def readsB (m : St) (rs : List (ByteArray × Int)) : Bool := rs.all fun r => decide (ver m r.1 = r.2)
def okB (T : List Tx) (i : Nat) : Bool := readsB (stateOf (flat T i)) ((T[i]?.map Tx.reads).getD [])
def fitsN (T : List Tx) : Nat := (List.range T.length).findIdx fun i => !okB T i
theorem fits_le (T : List Tx) : fitsN T ≤ T.length := by
  have := List.findIdx_le_length (xs := List.range T.length) (p := fun i => !okB T i)
  rw [List.length_range] at this
  exact this
theorem fits_stop {T : List Tx} {i : Nat} (hi : i < T.length) (h : ∀ j, j < i → okB T j = true) (hf : okB T i = false) : fitsN T = i := by
  unfold fitsN
  rw [List.findIdx_eq (by simpa using hi)]
  exact ⟨by simp [hf], fun j hj => by simp [h j hj]⟩
theorem fits_all {T : List Tx} (h : ∀ j, j < T.length → okB T j = true) : fitsN T = T.length := by
  unfold fitsN
  have := List.findIdx_eq_length (xs := List.range T.length) (p := fun i => !okB T i)
  rw [List.length_range] at this
  rw [this]
  intro x hx
  simp [h x (List.mem_range.1 hx)]
end Go.My.Model
