/- Txn: a transaction's bytes, and what they tell. -/
import Derived.Test.YtaifmfnmgnmgbaaGreatDoorMkEnc
import Derived.Test.YtaifmfnmgnmgbaaGreatDoorLess
import Derived.IntWalk
namespace Go.Proofs.YtaifmfnmgnmgbaaGreatDoor.Txn
open Go.Proofs.YtaifmfnmgnmgbaaGreatDoor.Merkle (be be_len b8 b8_int txt txt_len ofL ofL_size)

structure Rd where
  key : ByteArray
  ver : Int
structure Wr where
  key : ByteArray
  val : ByteArray
structure Tx where
  cl : Int
  num : Int
  R : List Rd
  W : List Wr
def rdT (x : Rd) : List UInt8 := txt x.key ++ be 8 x.ver
def wrT (x : Wr) : List UInt8 := txt x.key ++ txt x.val
/-- a transaction's bytes -/
def txT (t : Tx) : List UInt8 := be 8 t.cl ++ (be 8 t.num ++ (be 8 (t.R.length : Int) ++ (t.R.flatMap rdT ++ (be 8 (t.W.length : Int) ++ t.W.flatMap wrT))))
/-- bytes as a number -/
def beN (l : List UInt8) : Nat := l.foldl (fun n c => n * 256 + c.toNat) 0
theorem beN_snoc (l : List UInt8) (c : UInt8) : beN (l ++ [c]) = beN l * 256 + c.toNat := by unfold beN; rw [List.foldl_append]; rfl
theorem snocInd {p : List UInt8 → Prop} (h0 : p []) (h1 : ∀ l c, p l → p (l ++ [c])) (l : List UInt8) : p l := by
  rw [← List.reverse_reverse l]
  induction l.reverse with
  | nil => exact h0
  | cons c t ih => rw [List.reverse_cons]; exact h1 _ _ ih
theorem beN_lt (l : List UInt8) : beN l < 256 ^ l.length := by
  induction l using snocInd with
  | h0 => simp [beN]
  | h1 l c ih =>
    rw [beN_snoc, List.length_append, List.length_singleton, Nat.pow_succ]
    have := c.toNat_lt
    omega
theorem beN_be : ∀ (k : Nat) (z : Int), (beN (be k z) : Int) = z % (256 : Int) ^ k
  | 0, z => by simp [beN, be, Int.emod_one]
  | k + 1, z => by
    rw [be, beN_snoc]
    have h1 := beN_be k (z / 256)
    have h2 := b8_int z
    have h3 : z % (256 : Int) ^ (k + 1) = (z / 256) % (256 : Int) ^ k * 256 + z % 256 := by
      rw [Int.pow_succ]
      have hp : (0 : Int) < 256 ^ k := Int.pow_pos (by omega)
      have e1 := Int.emod_add_mul_ediv z 256
      have e2 := Int.emod_add_mul_ediv (z / 256) (256 ^ k)
      have e3 := Int.emod_nonneg (z / 256) (Int.ne_of_gt hp)
      have e4 := Int.emod_lt_of_pos (z / 256) hp
      have e5 : z = (z / 256 % 256 ^ k * 256 + z % 256) + (256 ^ k * 256) * (z / 256 / 256 ^ k) := by
        have e6 : 256 ^ k * 256 * (z / 256 / 256 ^ k) = 256 * (256 ^ k * (z / 256 / 256 ^ k)) := by rw [Int.mul_comm (256 ^ k) 256, Int.mul_assoc]
        omega
      have e7 : (z / 256 % 256 ^ k * 256 + z % 256) < 256 ^ k * 256 := by omega
      conv => lhs; rw [e5]
      rw [Int.add_mul_emod_self_left, Int.emod_eq_of_lt (by omega) e7]
    rw [h3, ← h1, ← h2, Int.natCast_add, Int.natCast_mul]
    rfl
theorem be_beN : ∀ (l : List UInt8), be l.length (beN l : Int) = l := by
  intro l
  induction l using snocInd with
  | h0 => rfl
  | h1 l c ih =>
    rw [List.length_append, List.length_singleton, be, beN_snoc]
    have h1 : (((beN l * 256 + c.toNat : Nat) : Int)) / 256 = (beN l : Int) := by
      have := c.toNat_lt
      omega
    have h2 : b8 ((beN l * 256 + c.toNat : Nat) : Int) = c := by
      apply UInt8.toNat_inj.1
      have h3 := b8_int ((beN l * 256 + c.toNat : Nat) : Int)
      have := c.toNat_lt
      omega
    rw [h1, h2, ih]
/-- eight bytes as a number with a sign -/
def num8 (l : List UInt8) : Int := IntKind.i64.wrap (beN l : Int)
theorem wrap_form (z : Int) : ∃ q, IntKind.i64.wrap z = z + q * 18446744073709551616 ∧ -9223372036854775808 ≤ IntKind.i64.wrap z ∧ IntKind.i64.wrap z ≤ 9223372036854775807 := by
  rw [IntKind.wrap_i64]
  exact ⟨-((z + 9223372036854775808) / 18446744073709551616), by omega, by omega, by omega⟩
theorem be_add (k : Nat) : ∀ (z q : Int), be k (z + q * 256 ^ k) = be k z := by
  induction k with
  | zero => intro z q; rfl
  | succ k ih =>
    intro z q
    rw [be, be]
    have h1 : (z + q * 256 ^ (k + 1)) / 256 = z / 256 + q * 256 ^ k := by
      rw [Int.pow_succ, ← Int.mul_assoc, Int.add_mul_ediv_right _ _ (by omega)]
    have h2 : b8 (z + q * 256 ^ (k + 1)) = b8 z := by
      unfold b8
      rw [Int.pow_succ, ← Int.mul_assoc, Int.add_mul_emod_self_right]
    rw [h1, h2, ih]
theorem num8_be {z : Int} (h : -9223372036854775808 ≤ z ∧ z ≤ 9223372036854775807) : num8 (be 8 z) = z := by
  unfold num8
  obtain ⟨q, h1, h2, h3⟩ := wrap_form (beN (be 8 z) : Int)
  have h4 := beN_be 8 z
  rw [show (256 : Int) ^ 8 = 18446744073709551616 by decide] at h4
  omega
theorem be_num8 {l : List UInt8} (h : l.length = 8) : be 8 (num8 l) = l := by
  obtain ⟨q, h1, _⟩ := wrap_form (beN l : Int)
  have h2 := be_beN l
  unfold num8
  rw [h1, show (18446744073709551616 : Int) = 256 ^ 8 by decide, be_add 8]
  rw [h] at h2
  exact h2
theorem num8_i64 (l : List UInt8) : -9223372036854775808 ≤ num8 l ∧ num8 l ≤ 9223372036854775807 := by
  obtain ⟨q, h1, h2, h3⟩ := wrap_form (beN l : Int)
  exact ⟨h2, h3⟩

/-! ### reading: what is left, or that it went wrong -/
abbrev St := Option (List UInt8)
def stNum : St → Int × St
  | none => (0, none)
  | some l => if l.length < 8 then (0, none) else (num8 (l.take 8), some (l.drop 8))
def stInt (most : Int) : St → Int × St
  | none => (0, none)
  | some l => if l.length < 8 then (0, none) else if num8 (l.take 8) < 0 ∨ most < num8 (l.take 8) then (0, none) else (num8 (l.take 8), some (l.drop 8))
def stText : St → ByteArray × St
  | none => (⟨#[]⟩, none)
  | some l => if l.length < 4 ∨ 65536 < beN (l.take 4) ∨ l.length < 4 + beN (l.take 4) then (⟨#[]⟩, none) else (ofL ((l.drop 4).take (beN (l.take 4))), some ((l.drop 4).drop (beN (l.take 4))))
def stRd (s : St) : Rd × St := (⟨(stText s).1, (stNum (stText s).2).1⟩, (stNum (stText s).2).2)
def stWr (s : St) : Wr × St := (⟨(stText s).1, (stText (stText s).2).1⟩, (stText (stText s).2).2)
def stRows {α : Type} (one : St → α × St) : Nat → St → List α × St
  | 0, s => ([], s)
  | n + 1, s => ((one s).1 :: (stRows one n (one s).2).1, (stRows one n (one s).2).2)
theorem stRows_snoc {α : Type} (one : St → α × St) : ∀ (n : Nat) (s : St), stRows one (n + 1) s = ((stRows one n s).1 ++ [(one (stRows one n s).2).1], (one (stRows one n s).2).2)
  | 0, s => rfl
  | n + 1, s => by
    rw [stRows, stRows_snoc one n]
    rfl
def stSome {α : Type} (one : St → α × St) (s : St) : List α × St := stRows one (stInt 8 s).1.toNat (stInt 8 s).2
def stTx (s : St) : Tx × St :=
  (⟨(stNum s).1, (stNum (stNum s).2).1, (stSome stRd (stNum (stNum s).2).2).1, (stSome stWr (stSome stRd (stNum (stNum s).2).2).2).1⟩, (stSome stWr (stSome stRd (stNum (stNum s).2).2).2).2)

theorem stNum_some (l : List UInt8) : stNum (some l) = if l.length < 8 then (0, none) else (num8 (l.take 8), some (l.drop 8)) := rfl
theorem stInt_some (most : Int) (l : List UInt8) : stInt most (some l) = if l.length < 8 then (0, none) else if num8 (l.take 8) < 0 ∨ most < num8 (l.take 8) then (0, none) else (num8 (l.take 8), some (l.drop 8)) := rfl
theorem stText_some (l : List UInt8) : stText (some l) = if l.length < 4 ∨ 65536 < beN (l.take 4) ∨ l.length < 4 + beN (l.take 4) then (⟨#[]⟩, none) else (ofL ((l.drop 4).take (beN (l.take 4))), some ((l.drop 4).drop (beN (l.take 4)))) := rfl
theorem stNum_be {z : Int} (h : -9223372036854775808 ≤ z ∧ z ≤ 9223372036854775807) (r : List UInt8) : stNum (some (be 8 z ++ r)) = (z, some r) := by
  have hl := be_len 8 z
  rw [stNum_some, if_neg (by rw [List.length_append, hl]; omega), List.take_append_of_le_length (by omega), List.drop_append_of_le_length (by omega), List.take_of_length_le (by omega), List.drop_of_length_le (by omega), num8_be h]
  rfl
theorem stInt_be {most z : Int} (h : 0 ≤ z ∧ z ≤ most) (hm : most ≤ 9223372036854775807) (r : List UInt8) : stInt most (some (be 8 z ++ r)) = (z, some r) := by
  have hl := be_len 8 z
  rw [stInt_some, if_neg (by rw [List.length_append, hl]; omega), List.take_append_of_le_length (by omega), List.drop_append_of_le_length (by omega), List.take_of_length_le (by omega), List.drop_of_length_le (by omega), num8_be (by omega), if_neg (by omega)]
  rfl
theorem stText_txt {s : ByteArray} (h : s.size ≤ 65536) (r : List UInt8) : stText (some (txt s ++ r)) = (s, some r) := by
  have hl := be_len 4 (s.size : Int)
  have h1 : (txt s ++ r).take 4 = be 4 (s.size : Int) := by
    unfold txt
    rw [List.append_assoc, List.take_append_of_le_length (by omega), List.take_of_length_le (by omega)]
  have h2 : (txt s ++ r).drop 4 = s.data.toList ++ r := by
    unfold txt
    rw [List.append_assoc, List.drop_append_of_le_length (by omega), List.drop_of_length_le (by omega)]
    rfl
  have h3 : beN (be 4 (s.size : Int)) = s.size := by
    have h4 := beN_be 4 (s.size : Int)
    rw [show (256 : Int) ^ 4 = 4294967296 by decide] at h4
    omega
  have h5 : s.data.toList.length = s.size := Array.length_toList
  rw [stText_some, h1, h2, h3, if_neg (by rw [List.length_append, txt_len]; omega), List.take_append_of_le_length (by omega), List.drop_append_of_le_length (by omega), List.take_of_length_le (by omega), List.drop_of_length_le (by omega)]
  unfold ofL
  simp
theorem stNum_inv {s : St} {z : Int} {r : List UInt8} (h : stNum s = (z, some r)) : s = some (be 8 z ++ r) ∧ -9223372036854775808 ≤ z ∧ z ≤ 9223372036854775807 := by
  cases s with
  | none => simp [stNum] at h
  | some l =>
    rw [stNum_some] at h
    by_cases hl : l.length < 8
    · rw [if_pos hl] at h
      simp at h
    · rw [if_neg hl] at h
      simp only [Prod.mk.injEq, Option.some.injEq] at h
      obtain ⟨rfl, rfl⟩ := h
      refine ⟨?_, num8_i64 _⟩
      rw [be_num8 (by rw [List.length_take]; omega), List.take_append_drop]
theorem stInt_inv {most : Int} {s : St} {z : Int} {r : List UInt8} (h : stInt most s = (z, some r)) : s = some (be 8 z ++ r) ∧ 0 ≤ z ∧ z ≤ most := by
  cases s with
  | none => simp [stInt] at h
  | some l =>
    rw [stInt_some] at h
    by_cases hl : l.length < 8
    · rw [if_pos hl] at h
      simp at h
    · rw [if_neg hl] at h
      by_cases hb : num8 (l.take 8) < 0 ∨ most < num8 (l.take 8)
      · rw [if_pos hb] at h
        simp at h
      · rw [if_neg hb] at h
        simp only [Prod.mk.injEq, Option.some.injEq] at h
        obtain ⟨rfl, rfl⟩ := h
        refine ⟨?_, by omega, by omega⟩
        rw [be_num8 (by rw [List.length_take]; omega), List.take_append_drop]
theorem stText_inv {s : St} {k : ByteArray} {r : List UInt8} (h : stText s = (k, some r)) : s = some (txt k ++ r) := by
  cases s with
  | none => simp [stText] at h
  | some l =>
    rw [stText_some] at h
    by_cases hl : l.length < 4 ∨ 65536 < beN (l.take 4) ∨ l.length < 4 + beN (l.take 4)
    · rw [if_pos hl] at h
      simp at h
    · rw [if_neg hl] at h
      simp only [Prod.mk.injEq, Option.some.injEq] at h
      obtain ⟨rfl, rfl⟩ := h
      have h4 : (l.take 4).length = 4 := by rw [List.length_take]; omega
      have h5 : ((l.drop 4).take (beN (l.take 4))).length = beN (l.take 4) := by rw [List.length_take, List.length_drop]; omega
      unfold txt
      rw [ofL_size, h5]
      have h6 := be_beN (l.take 4)
      rw [h4] at h6
      rw [h6]
      have h7 : (ofL ((l.drop 4).take (beN (l.take 4)))).data.toList = (l.drop 4).take (beN (l.take 4)) := by simp [ofL]
      rw [h7, List.append_assoc, List.take_append_drop, List.take_append_drop]
theorem stRd_rdT {x : Rd} (h : x.key.size ≤ 65536 ∧ -9223372036854775808 ≤ x.ver ∧ x.ver ≤ 9223372036854775807) (r : List UInt8) : stRd (some (rdT x ++ r)) = (x, some r) := by
  unfold stRd rdT
  rw [List.append_assoc, stText_txt h.1, stNum_be h.2]
theorem stWr_wrT {x : Wr} (h : x.key.size ≤ 65536 ∧ x.val.size ≤ 65536) (r : List UInt8) : stWr (some (wrT x ++ r)) = (x, some r) := by
  unfold stWr wrT
  rw [List.append_assoc, stText_txt h.1, stText_txt h.2]
theorem stRd_inv {s : St} {x : Rd} {r : List UInt8} (h : stRd s = (x, some r)) : s = some (rdT x ++ r) := by
  unfold stRd at h
  simp only [Prod.mk.injEq] at h
  obtain ⟨rfl, h⟩ := h
  have h1 := stNum_inv (s := (stText s).2) (z := (stNum (stText s).2).1) (r := r) (by rw [← h])
  have h2 := stText_inv (s := s) (k := (stText s).1) (r := be 8 (stNum (stText s).2).1 ++ r) (by rw [← h1.1])
  show s = some ((txt _ ++ be 8 _) ++ r)
  rw [List.append_assoc]
  exact h2
theorem stWr_inv {s : St} {x : Wr} {r : List UInt8} (h : stWr s = (x, some r)) : s = some (wrT x ++ r) := by
  unfold stWr at h
  simp only [Prod.mk.injEq] at h
  obtain ⟨rfl, h⟩ := h
  have h1 := stText_inv (s := (stText s).2) (k := (stText (stText s).2).1) (r := r) (by rw [← h])
  have h2 := stText_inv (s := s) (k := (stText s).1) (r := txt (stText (stText s).2).1 ++ r) (by rw [← h1])
  show s = some ((txt _ ++ txt _) ++ r)
  rw [List.append_assoc]
  exact h2
theorem stRows_flat {α : Type} (one : St → α × St) (T : α → List UInt8) (ok : α → Prop) (h1 : ∀ x r, ok x → one (some (T x ++ r)) = (x, some r)) : ∀ (L : List α) (r : List UInt8), (∀ x ∈ L, ok x) → stRows one L.length (some (L.flatMap T ++ r)) = (L, some r)
  | [], r, _ => rfl
  | x :: L, r, h => by
    rw [List.length_cons, stRows, List.flatMap_cons, List.append_assoc, h1 x _ (h x (by simp))]
    simp only
    rw [stRows_flat one T ok h1 L r (fun y hy => h y (by simp [hy]))]
theorem stRows_inv {α : Type} (one : St → α × St) (T : α → List UInt8) (h1 : ∀ s x r, one s = (x, some r) → s = some (T x ++ r)) : ∀ (n : Nat) (s : St) (L : List α) (r : List UInt8), stRows one n s = (L, some r) → s = some (L.flatMap T ++ r) ∧ L.length = n
  | 0, s, L, r, h => by
    unfold stRows at h
    simp only [Prod.mk.injEq] at h
    obtain ⟨rfl, rfl⟩ := h
    exact ⟨rfl, rfl⟩
  | n + 1, s, L, r, h => by
    unfold stRows at h
    simp only [Prod.mk.injEq] at h
    obtain ⟨rfl, h⟩ := h
    obtain ⟨h2, h3⟩ := stRows_inv one T h1 n (one s).2 (stRows one n (one s).2).1 r (by rw [← h])
    have h4 := h1 s (one s).1 ((stRows one n (one s).2).1.flatMap T ++ r) (by rw [← h2])
    refine ⟨?_, by rw [List.length_cons, h3]⟩
    rw [List.flatMap_cons, List.append_assoc]
    exact h4
/-! ### what may be a transaction -/
def okR (l : List Rd) (i : Nat) : Bool :=
  match l[i]? with
  | none => true
  | some x => decide (x.key.size ≤ 16) && (decide (0 ≤ x.ver) && decide (x.ver ≤ 1099511627776)) && (decide (i = 0) || match l[i - 1]? with
    | some y => Op.bytesLess y.key.toList x.key.toList
    | none => true)
def okW (l : List Wr) (i : Nat) : Bool :=
  match l[i]? with
  | none => true
  | some x => decide (x.key.size ≤ 16) && decide (x.val.size ≤ 64) && (decide (i = 0) || match l[i - 1]? with
    | some y => Op.bytesLess y.key.toList x.key.toList
    | none => true)
def risesR (l : List Rd) : Bool := (List.range l.length).all (okR l) && decide (l.length ≤ 8)
def risesW (l : List Wr) : Bool := (List.range l.length).all (okW l) && decide (l.length ≤ 8)
def rightT (t : Tx) : Bool := decide (0 ≤ t.cl) && decide (t.cl < 16) && decide (1 ≤ t.num) && decide (t.num ≤ 1099511627776) && decide (0 < t.R.length + t.W.length) && risesR t.R && risesW t.W
structure RightT (t : Tx) : Prop where
  cl : 0 ≤ t.cl ∧ t.cl < 16
  num : 1 ≤ t.num ∧ t.num ≤ 1099511627776
  some : 0 < t.R.length + t.W.length
  rl : t.R.length ≤ 8
  wl : t.W.length ≤ 8
  r : ∀ x ∈ t.R, x.key.size ≤ 16 ∧ 0 ≤ x.ver ∧ x.ver ≤ 1099511627776
  w : ∀ x ∈ t.W, x.key.size ≤ 16 ∧ x.val.size ≤ 64
theorem rightT_of {t : Tx} (h : rightT t = true) : RightT t := by
  unfold rightT risesR risesW at h
  simp only [Bool.and_eq_true, decide_eq_true_eq, List.all_eq_true] at h
  obtain ⟨⟨⟨⟨⟨⟨h1, h2⟩, h3⟩, h4⟩, h5⟩, h6, h7⟩, h8, h9⟩ := h
  refine ⟨⟨h1, h2⟩, ⟨h3, h4⟩, h5, h7, h9, fun x hx => ?_, fun x hx => ?_⟩
  · obtain ⟨i, hi⟩ := List.getElem?_of_mem hx
    have hl := (List.getElem?_eq_some_iff.1 hi).1
    have := h6 i (by simpa using hl)
    unfold okR at this
    rw [hi] at this
    simp only [Bool.and_eq_true, decide_eq_true_eq] at this
    exact ⟨this.1.1, this.1.2⟩
  · obtain ⟨i, hi⟩ := List.getElem?_of_mem hx
    have hl := (List.getElem?_eq_some_iff.1 hi).1
    have := h8 i (by simpa using hl)
    unfold okW at this
    rw [hi] at this
    simp only [Bool.and_eq_true, decide_eq_true_eq] at this
    exact this.1
/-- P10.2: a right transaction's bytes are read as it was -/
theorem back_yes {t : Tx} (h : rightT t = true) : stTx (some (txT t)) = (t, some []) := by
  have H := rightT_of h
  have hr : ∀ r, stSome stRd (some (be 8 (t.R.length : Int) ++ (t.R.flatMap rdT ++ r))) = (t.R, some r) := fun r => by
    unfold stSome
    have := H.rl
    rw [stInt_be (by omega) (by omega)]
    simp only [Int.toNat_natCast]
    exact stRows_flat stRd rdT (fun x => x.key.size ≤ 65536 ∧ -9223372036854775808 ≤ x.ver ∧ x.ver ≤ 9223372036854775807) (fun x r hx => stRd_rdT hx r) t.R r (fun x hx => by have := H.r x hx; omega)
  have hw : stSome stWr (some (be 8 (t.W.length : Int) ++ t.W.flatMap wrT)) = (t.W, some []) := by
    unfold stSome
    have := H.wl
    rw [stInt_be (by omega) (by omega)]
    simp only [Int.toNat_natCast]
    have h2 := stRows_flat stWr wrT (fun x => x.key.size ≤ 65536 ∧ x.val.size ≤ 65536) (fun x r hx => stWr_wrT hx r) t.W [] (fun x hx => by have := H.w x hx; omega)
    rw [List.append_nil] at h2
    exact h2
  unfold stTx txT
  have h1 := H.cl
  have h2 := H.num
  rw [stNum_be (by omega)]
  simp only
  rw [stNum_be (by omega)]
  simp only
  rw [hr]
  simp only
  rw [hw]
theorem stSome_inv {α : Type} (one : St → α × St) (T : α → List UInt8) (h1 : ∀ s x r, one s = (x, some r) → s = some (T x ++ r)) {s : St} {L : List α} {r : List UInt8} (h : stSome one s = (L, some r)) : s = some (be 8 (L.length : Int) ++ (L.flatMap T ++ r)) := by
  unfold stSome at h
  obtain ⟨h2, h3⟩ := stRows_inv one T h1 _ _ _ _ h
  obtain ⟨h4, h5, h6⟩ := stInt_inv (most := 8) (s := s) (z := (stInt 8 s).1) (r := L.flatMap T ++ r) (by rw [← h2])
  have h7 : (L.length : Int) = (stInt 8 s).1 := by omega
  rw [h7]
  exact h4
/-- P10.2: what is read has the bytes as they stood -/
theorem back_no {l : List UInt8} {t : Tx} (h : stTx (some l) = (t, some [])) : txT t = l := by
  unfold stTx at h
  simp only [Prod.mk.injEq] at h
  obtain ⟨rfl, h⟩ := h
  have h1 := stSome_inv stWr wrT (fun s x r => stWr_inv) (s := (stSome stRd (stNum (stNum (some l)).2).2).2) (L := (stSome stWr (stSome stRd (stNum (stNum (some l)).2).2).2).1) (r := []) (by rw [← h])
  have h2 := stSome_inv stRd rdT (fun s x r => stRd_inv) (s := (stNum (stNum (some l)).2).2) (L := (stSome stRd (stNum (stNum (some l)).2).2).1) (r := _) (by rw [← h1])
  have h3 := stNum_inv (s := (stNum (some l)).2) (z := (stNum (stNum (some l)).2).1) (r := _) (by rw [← h2])
  have h4 := stNum_inv (s := some l) (z := (stNum (some l)).1) (r := _) (by rw [← h3.1])
  have h5 := h4.1
  simp only [Option.some.injEq, List.append_nil] at h5
  exact h5.symm
theorem txT_len {t : Tx} (h : RightT t) : (txT t).length ≤ 2000 := by
  have h1 : ∀ L : List Rd, (∀ x ∈ L, x.key.size ≤ 16) → (L.flatMap rdT).length ≤ L.length * 28 := by
    intro L
    induction L with
    | nil => intro _; simp
    | cons x L ih =>
      intro hx
      have := ih (fun y hy => hx y (by simp [hy]))
      have := hx x (by simp)
      have hr : (rdT x).length = 12 + x.key.size := by unfold rdT; rw [List.length_append, txt_len, be_len]; omega
      rw [List.flatMap_cons, List.length_append, List.length_cons]
      omega
  have h2 : ∀ L : List Wr, (∀ x ∈ L, x.key.size ≤ 16 ∧ x.val.size ≤ 64) → (L.flatMap wrT).length ≤ L.length * 88 := by
    intro L
    induction L with
    | nil => intro _; simp
    | cons x L ih =>
      intro hx
      have := ih (fun y hy => hx y (by simp [hy]))
      have := hx x (by simp)
      have hr : (wrT x).length = 8 + x.key.size + x.val.size := by unfold wrT; rw [List.length_append, txt_len, txt_len]; omega
      rw [List.flatMap_cons, List.length_append, List.length_cons]
      omega
  have h3 := h1 t.R (fun x hx => (h.r x hx).1)
  have h4 := h2 t.W h.w
  have := h.rl
  have := h.wl
  unfold txT
  rw [List.length_append, List.length_append, List.length_append, List.length_append, List.length_append, be_len, be_len, be_len, be_len]
  omega
end Go.Proofs.YtaifmfnmgnmgbaaGreatDoor.Txn
