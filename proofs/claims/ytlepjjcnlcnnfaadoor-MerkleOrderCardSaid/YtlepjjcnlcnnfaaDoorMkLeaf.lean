/- Merkle: the digests of leaves, nodes, roots. -/
import Derived.Test.YtlepjjcnlcnnfaaDoorMkHalf
namespace Go.Proofs.YtlepjjcnlcnnfaaDoor.Merkle
open Go.RowKit Go.My

def entV (x : Ent) : Value := .agg #[.string x.key, .string x.value, .int .i64 x.ver]
def entL (x : Ent) : List Value := [.string x.key, .string x.value, .int .i64 x.ver]
theorem entL_len (x : Ent) : (entL x).length = 3 := rfl
theorem lies_new {α : Type} (w : World) (e : α → Value) (l : List α) (t : TypeId) : LiesAt (w.alloc (.cells (l.map e).toArray t)) (some ⟨w.heap.size, 0, none⟩) 1 (fun x => [e x]) l := fun i x hx => by
  refine ⟨w.heap.size, 0, rfl, by simp, fun j v hv => ?_⟩
  match j, hv with
  | 0, hv =>
    have hv : e x = v := by simpa using hv
    rw [cell_of_row _ _ _ _ _ _ (heap_alloc_new w _)]
    simp [hx, hv]
section
variable {w w0 w' : World} {bB b m tb : Nat} {v : Value} {T : List ByteArray} {s : ByteArray} {e : Ending}
theorem DigT.from (h : DigT w0 bB b m tb T s e w') (hb : Below w.heap.size w w0) (hB : bB ≤ w.heap.size) : DigT w bB b m tb T s e w' := by
  obtain ⟨v', T', d, h1, h2, h3, h4, h5, h6⟩ := h
  exact ⟨v', T', d, h1, h2, h3, h4, h5, (Fx.of_below hb hB).trans h6⟩
end
set_option maxRecDepth 100000 in
set_option maxHeartbeats 800000 in
theorem leaf_any (bB b m tb : Nat) (v : Value) (T : List ByteArray) (x : Ent) (w : World) (h : TrAt w bB b m v T tb) (hx : Good x) (hn : T.length < 65536) :
    Calls Tryd.prog 28 #[.pointer (some ⟨tb, 0, none⟩), entV x] w (DigT w bB b m tb T (leafT x)) := by
  obtain ⟨k, u, n⟩ := x
  obtain ⟨g1, g2, g3, g4⟩ := hx
  simp only at g1 g2 g3 g4
  have hb : Below w.heap.size w (((w.alloc (.cells #[.string k, .string u, .int .i64 n] 36)).alloc (.cells #[.string ⟨#[108, 101, 97, 102]⟩, .string k, .string u] 9)).alloc (.cells #[.int .i64 n] 2)) := (((Below.refl _ _).alloc (Nat.le_refl _) _).alloc (by simp) _).alloc (by simp; omega) _
  have l1 : LiesAt (((w.alloc (.cells #[.string k, .string u, .int .i64 n] 36)).alloc (.cells #[.string ⟨#[108, 101, 97, 102]⟩, .string k, .string u] 9)).alloc (.cells #[.int .i64 n] 2)) (some ⟨w.heap.size + 1, 0, none⟩) 1 strs [leafW, k, u] := by
    have := (lies_new (w.alloc (.cells #[.string k, .string u, .int .i64 n] 36)) Value.string [leafW, k, u] 9).below ((Below.refl _ _).alloc (Nat.le_refl _) (.cells #[.int .i64 n] 2))
    show LiesAt _ _ 1 (fun x => [Value.string x]) _
    simpa [leafW] using this
  have l2 : LiesAt (((w.alloc (.cells #[.string k, .string u, .int .i64 n] 36)).alloc (.cells #[.string ⟨#[108, 101, 97, 102]⟩, .string k, .string u] 9)).alloc (.cells #[.int .i64 n] 2)) (some ⟨w.heap.size + 1 + 1, 0, none⟩) 1 nums [n] := by
    have := lies_new ((w.alloc (.cells #[.string k, .string u, .int .i64 n] 36)).alloc (.cells #[.string ⟨#[108, 101, 97, 102]⟩, .string k, .string u] 9)) (Value.int .i64) [n] 2
    show LiesAt _ _ 1 (fun x => [Value.int .i64 x]) _
    simpa using this
  have ht : encS [leafW, k, u] = txt leafW ++ (txt k ++ txt u) := by simp [encS]
  have hz : encZ [n] = be 8 n := by simp [encZ]
  have hl : (encS [leafW, k, u]).length + 8 * [n].length ≤ 60000 := by
    rw [ht, List.length_append, List.length_append, txt_len, txt_len, txt_len]
    have : leafW.size = 4 := rfl
    simp
    omega
  have hD := digest_any bB b m tb v T _ _ 3 1 [leafW, k, u] [n] _ (h.below hb) l1 l2 hn hl (by rw [ht, List.length_append, txt_len]; omega) (by simp)
  have hs : ofL (encS [leafW, k, u] ++ encZ [n]) = leafT ⟨k, u, n⟩ := by
    unfold leafT
    rw [ht, hz]
    simp
  rw [hs] at hD
  have HD := Lib.hid hD
  have HF := Lib.hid (fun e w' (q : DigT _ bB b m tb T (leafT ⟨k, u, n⟩) e w') => DigT.from q hb h.le)
  unfold entV
  clear hs hD hl hz ht l1 l2 hb
  go_enter Tryd.func28, Tryd.ntmps28
  go_wp2_with fail
  refine HD.out.mono ?_
  rintro e w1 hd
  have HE := Lib.hid (HF.out _ _ hd)
  obtain ⟨_, _, d, rfl, _⟩ := hd
  go_wp2_with fail
  go_ret
  exact HE.out
set_option maxRecDepth 100000 in
set_option maxHeartbeats 800000 in
theorem node_any (bB b m tb : Nat) (v : Value) (T : List ByteArray) (x y : Nat) (w : World) (h : TrAt w bB b m v T tb) (hn : T.length < 65536) :
    Calls Tryd.prog 40 #[.pointer (some ⟨tb, 0, none⟩), .int .i64 (x : Int), .int .i64 (y : Int)] w (DigT w bB b m tb T (nodeT x y)) := by
  have hb : Below w.heap.size w ((w.alloc (.cells #[.string ⟨#[110, 111, 100, 101]⟩] 9)).alloc (.cells #[.int .i64 (x : Int), .int .i64 (y : Int)] 2)) := ((Below.refl _ _).alloc (Nat.le_refl _) _).alloc (by simp) _
  have l1 : LiesAt ((w.alloc (.cells #[.string ⟨#[110, 111, 100, 101]⟩] 9)).alloc (.cells #[.int .i64 (x : Int), .int .i64 (y : Int)] 2)) (some ⟨w.heap.size, 0, none⟩) 1 strs [nodeW] := by
    have := (lies_new w Value.string [nodeW] 9).below ((Below.refl _ _).alloc (Nat.le_refl _) (.cells #[.int .i64 (x : Int), .int .i64 (y : Int)] 2))
    show LiesAt _ _ 1 (fun x => [Value.string x]) _
    simpa [nodeW] using this
  have l2 : LiesAt ((w.alloc (.cells #[.string ⟨#[110, 111, 100, 101]⟩] 9)).alloc (.cells #[.int .i64 (x : Int), .int .i64 (y : Int)] 2)) (some ⟨w.heap.size + 1, 0, none⟩) 1 nums [(x : Int), (y : Int)] := by
    have := lies_new (w.alloc (.cells #[.string ⟨#[110, 111, 100, 101]⟩] 9)) (Value.int .i64) [(x : Int), (y : Int)] 2
    show LiesAt _ _ 1 (fun x => [Value.int .i64 x]) _
    simpa using this
  have ht : encS [nodeW] = txt nodeW := by simp [encS]
  have hz : encZ [(x : Int), (y : Int)] = be 8 (x : Int) ++ be 8 (y : Int) := by simp [encZ]
  have hsz : nodeW.size = 4 := rfl
  have hD := digest_any bB b m tb v T _ _ 1 2 [nodeW] [(x : Int), (y : Int)] _ (h.below hb) l1 l2 hn (by rw [ht, txt_len, hsz]; simp) (by rw [ht, txt_len]; omega) (by simp)
  have hs : ofL (encS [nodeW] ++ encZ [(x : Int), (y : Int)]) = nodeT x y := by
    unfold nodeT
    rw [ht, hz]
  rw [hs] at hD
  have HD := Lib.hid hD
  have HF := Lib.hid (fun e w' (q : DigT _ bB b m tb T (nodeT x y) e w') => DigT.from q hb h.le)
  clear hs hD hz ht l1 l2 hb hsz
  obtain ⟨zx, hzx⟩ : ∃ z : Int, z = x := ⟨_, rfl⟩
  obtain ⟨zy, hzy⟩ : ∃ z : Int, z = y := ⟨_, rfl⟩
  rw [← hzx, ← hzy] at HD HF ⊢
  clear hzx hzy
  go_enter Tryd.func40, Tryd.ntmps40
  go_wp2_with fail
  refine HD.out.mono ?_
  rintro e w1 hd
  have HE := Lib.hid (HF.out _ _ hd)
  obtain ⟨_, _, d, rfl, _⟩ := hd
  go_wp2_with fail
  go_ret
  exact HE.out
set_option maxRecDepth 100000 in
set_option maxHeartbeats 800000 in
theorem root_any (bB b m tb : Nat) (v : Value) (T : List ByteArray) (x y : Nat) (w : World) (h : TrAt w bB b m v T tb) (hn : T.length < 65536) :
    Calls Tryd.prog 17 #[.pointer (some ⟨tb, 0, none⟩), .int .i64 (x : Int), .int .i64 (y : Int)] w (DigT w bB b m tb T (rootT x y)) := by
  have hb : Below w.heap.size w ((w.alloc (.cells #[.string ⟨#[114, 111, 111, 116]⟩] 9)).alloc (.cells #[.int .i64 (x : Int), .int .i64 (y : Int)] 2)) := ((Below.refl _ _).alloc (Nat.le_refl _) _).alloc (by simp) _
  have l1 : LiesAt ((w.alloc (.cells #[.string ⟨#[114, 111, 111, 116]⟩] 9)).alloc (.cells #[.int .i64 (x : Int), .int .i64 (y : Int)] 2)) (some ⟨w.heap.size, 0, none⟩) 1 strs [rootW] := by
    have := (lies_new w Value.string [rootW] 9).below ((Below.refl _ _).alloc (Nat.le_refl _) (.cells #[.int .i64 (x : Int), .int .i64 (y : Int)] 2))
    show LiesAt _ _ 1 (fun x => [Value.string x]) _
    simpa [rootW] using this
  have l2 : LiesAt ((w.alloc (.cells #[.string ⟨#[114, 111, 111, 116]⟩] 9)).alloc (.cells #[.int .i64 (x : Int), .int .i64 (y : Int)] 2)) (some ⟨w.heap.size + 1, 0, none⟩) 1 nums [(x : Int), (y : Int)] := by
    have := lies_new (w.alloc (.cells #[.string ⟨#[114, 111, 111, 116]⟩] 9)) (Value.int .i64) [(x : Int), (y : Int)] 2
    show LiesAt _ _ 1 (fun x => [Value.int .i64 x]) _
    simpa using this
  have ht : encS [rootW] = txt rootW := by simp [encS]
  have hz : encZ [(x : Int), (y : Int)] = be 8 (x : Int) ++ be 8 (y : Int) := by simp [encZ]
  have hsz : rootW.size = 4 := rfl
  have hD := digest_any bB b m tb v T _ _ 1 2 [rootW] [(x : Int), (y : Int)] _ (h.below hb) l1 l2 hn (by rw [ht, txt_len, hsz]; simp) (by rw [ht, txt_len]; omega) (by simp)
  have hs : ofL (encS [rootW] ++ encZ [(x : Int), (y : Int)]) = rootT x y := by
    unfold rootT
    rw [ht, hz]
  rw [hs] at hD
  have HD := Lib.hid hD
  have HF := Lib.hid (fun e w' (q : DigT _ bB b m tb T (rootT x y) e w') => DigT.from q hb h.le)
  clear hs hD hz ht l1 l2 hb hsz
  obtain ⟨zx, hzx⟩ : ∃ z : Int, z = x := ⟨_, rfl⟩
  obtain ⟨zy, hzy⟩ : ∃ z : Int, z = y := ⟨_, rfl⟩
  rw [← hzx, ← hzy] at HD HF ⊢
  clear hzx hzy
  go_enter Tryd.func17, Tryd.ntmps17
  go_wp2_with fail
  refine HD.out.mono ?_
  rintro e w1 hd
  have HE := Lib.hid (HF.out _ _ hd)
  obtain ⟨_, _, d, rfl, _⟩ := hd
  go_wp2_with fail
  go_ret
  exact HE.out
end Go.Proofs.YtlepjjcnlcnnfaaDoor.Merkle
