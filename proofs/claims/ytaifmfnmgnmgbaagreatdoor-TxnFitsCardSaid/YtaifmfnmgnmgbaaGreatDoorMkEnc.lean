/- Merkle: the bytes of texts and numbers, and what they tell. -/
import Derived.Test.YtaifmfnmgnmgbaaGreatDoorMkTree
namespace Go.Proofs.YtaifmfnmgnmgbaaGreatDoor.Merkle

/-- a number's last byte -/
def b8 (z : Int) : UInt8 := UInt8.ofNat (z % 256).toNat
theorem b8_inj {y z : Int} (h : b8 y = b8 z) : y % 256 = z % 256 := by
  have := congrArg UInt8.toNat h
  unfold b8 at this
  rw [UInt8.toNat_ofNat', UInt8.toNat_ofNat'] at this
  omega
theorem b8_int (z : Int) : ((b8 z).toNat : Int) = z % 256 := by
  unfold b8
  rw [UInt8.toNat_ofNat']
  omega
/-- a number's last bytes -/
def be : Nat → Int → List UInt8
  | 0, _ => []
  | k + 1, z => be k (z / 256) ++ [b8 z]
theorem be_len : ∀ (k : Nat) (z : Int), (be k z).length = k
  | 0, _ => rfl
  | k + 1, z => by rw [be, List.length_append, be_len k]; rfl
theorem be_inj : ∀ (k : Nat) {y z : Int}, be k y = be k z → ∃ q, y - z = q * 256 ^ k
  | 0, y, z, _ => ⟨y - z, by simp⟩
  | k + 1, y, z, h => by
    unfold be at h
    obtain ⟨h1, h2⟩ := List.append_inj h (by rw [be_len, be_len])
    obtain ⟨q, hq⟩ := be_inj k h1
    have h3 : y % 256 = z % 256 := b8_inj (by simpa using h2)
    refine ⟨q, ?_⟩
    rw [Int.pow_succ, ← Int.mul_assoc, ← hq]
    omega
theorem be8_inj {y z : Int} (hy : -9223372036854775808 ≤ y ∧ y ≤ 9223372036854775807) (hz : -9223372036854775808 ≤ z ∧ z ≤ 9223372036854775807) (h : be 8 y = be 8 z) : y = z := by
  obtain ⟨q, hq⟩ := be_inj 8 h
  have e : (256 : Int) ^ 8 = 18446744073709551616 := by decide
  rw [e] at hq
  omega
theorem be4_inj {y z : Int} (hy : 0 ≤ y ∧ y < 4294967296) (hz : 0 ≤ z ∧ z < 4294967296) (h : be 4 y = be 4 z) : y = z := by
  obtain ⟨q, hq⟩ := be_inj 4 h
  have e : (256 : Int) ^ 4 = 4294967296 := by decide
  rw [e] at hq
  omega
/-- a text's bytes -/
def txt (s : ByteArray) : List UInt8 := be 4 (s.size : Int) ++ s.data.toList
theorem txt_len (s : ByteArray) : (txt s).length = 4 + s.size := by unfold txt; rw [List.length_append, be_len]; rfl
theorem txt_inj {s s' : ByteArray} {r r' : List UInt8} (hs : s.size ≤ 65536) (hs' : s'.size ≤ 65536) (h : txt s ++ r = txt s' ++ r') : s = s' ∧ r = r' := by
  unfold txt at h
  rw [List.append_assoc, List.append_assoc] at h
  obtain ⟨h1, h2⟩ := List.append_inj h (by rw [be_len, be_len])
  have hz := be4_inj (by omega) (by omega) h1
  obtain ⟨h3, h4⟩ := List.append_inj h2 (by show s.size = s'.size; omega)
  refine ⟨?_, h4⟩
  obtain ⟨⟨l⟩⟩ := s
  obtain ⟨⟨l'⟩⟩ := s'
  simp at h3
  rw [h3]
structure Ent where
  key : ByteArray
  value : ByteArray
  ver : Int
def leafW : ByteArray := ⟨#[108, 101, 97, 102]⟩
def nodeW : ByteArray := ⟨#[110, 111, 100, 101]⟩
def noneW : ByteArray := ⟨#[110, 111, 110, 101]⟩
def rootW : ByteArray := ⟨#[114, 111, 111, 116]⟩
def ofL (l : List UInt8) : ByteArray := ⟨l.toArray⟩
theorem ofL_inj {l l' : List UInt8} (h : ofL l = ofL l') : l = l' := by
  unfold ofL at h
  have := congrArg (fun b : ByteArray => b.data.toList) h
  simpa using this
theorem ofL_size (l : List UInt8) : (ofL l).size = l.length := by unfold ofL; rfl
def leafT (x : Ent) : ByteArray := ofL (txt leafW ++ (txt x.key ++ (txt x.value ++ be 8 x.ver)))
def nodeT (a b : Nat) : ByteArray := ofL (txt nodeW ++ (be 8 (a : Int) ++ be 8 (b : Int)))
def noneT : ByteArray := ofL (txt noneW)
def rootT (n top : Nat) : ByteArray := ofL (txt rootW ++ (be 8 (n : Int) ++ be 8 (top : Int)))
def Good (x : Ent) : Prop := x.key.size ≤ 16 ∧ x.value.size ≤ 64 ∧ -9223372036854775808 ≤ x.ver ∧ x.ver ≤ 9223372036854775807
theorem leafT_inj {x y : Ent} (hx : Good x) (hy : Good y) (h : leafT x = leafT y) : x = y := by
  obtain ⟨k, v, n⟩ := x
  obtain ⟨k', v', n'⟩ := y
  obtain ⟨a1, a2, a3⟩ := hx
  obtain ⟨b1, b2, b3⟩ := hy
  simp only at a1 a2 a3 b1 b2 b3
  have h := ofL_inj h
  obtain ⟨_, h⟩ := txt_inj (by decide) (by decide) h
  obtain ⟨h1, h⟩ := txt_inj (by simp only; omega) (by simp only; omega) h
  obtain ⟨h2, h⟩ := txt_inj (by simp only; omega) (by simp only; omega) h
  simp only at h h1 h2
  rw [h1, h2, be8_inj a3 b3 h]
theorem pair_inj {t t' : ByteArray} (ht : t.size ≤ 65536) (ht' : t'.size ≤ 65536) {a b c d : Nat} (ha : a < 9223372036854775808) (hb : b < 9223372036854775808) (hc : c < 9223372036854775808) (hd : d < 9223372036854775808)
    (h : ofL (txt t ++ (be 8 (a : Int) ++ be 8 (b : Int))) = ofL (txt t' ++ (be 8 (c : Int) ++ be 8 (d : Int)))) : a = c ∧ b = d := by
  have h := ofL_inj h
  obtain ⟨_, h⟩ := txt_inj ht ht' h
  obtain ⟨h1, h2⟩ := List.append_inj h (by rw [be_len, be_len])
  have := be8_inj (y := (a : Int)) (z := (c : Int)) (by omega) (by omega) h1
  have := be8_inj (y := (b : Int)) (z := (d : Int)) (by omega) (by omega) h2
  omega
theorem tag_ne {t t' : ByteArray} (ht : t.size ≤ 65536) (ht' : t'.size ≤ 65536) (hne : t ≠ t') {r r' : List UInt8} : ofL (txt t ++ r) ≠ ofL (txt t' ++ r') := fun h => hne (txt_inj ht ht' (ofL_inj h)).1
theorem tag_one {t t' : ByteArray} (ht : t.size ≤ 65536) (ht' : t'.size ≤ 65536) (hne : t ≠ t') {r' : List UInt8} : ofL (txt t) ≠ ofL (txt t' ++ r') := fun h => by
  have h := ofL_inj h
  rw [← List.append_nil (txt t)] at h
  exact hne (txt_inj ht ht' h).1
theorem ne_words : leafW ≠ nodeW ∧ noneW ≠ leafW ∧ noneW ≠ nodeW := by decide
/-- the document's texts -/
def enc : Enc Ent where
  leafT := leafT
  nodeT := nodeT
  noneT := noneT
  good := Good
  lim := 9223372036854775808
  leaf_inj := leafT_inj
  node_inj := pair_inj (by decide) (by decide)
  leaf_node := tag_ne (by decide) (by decide) ne_words.1
  none_leaf := tag_one (by decide) (by decide) ne_words.2.1
  none_node := tag_one (by decide) (by decide) ne_words.2.2
theorem rootT_inj {a b c d : Nat} (ha : a < 9223372036854775808) (hb : b < 9223372036854775808) (hc : c < 9223372036854775808) (hd : d < 9223372036854775808) (h : rootT a b = rootT c d) : a = c ∧ b = d := pair_inj (by decide) (by decide) ha hb hc hd h
end Go.Proofs.YtaifmfnmgnmgbaaGreatDoor.Merkle
