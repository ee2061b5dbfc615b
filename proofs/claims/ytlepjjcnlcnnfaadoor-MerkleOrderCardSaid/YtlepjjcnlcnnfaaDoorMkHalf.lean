/- Merkle: half, apart, parts. -/
import Derived.Test.YtlepjjcnlcnnfaaDoorMkDig
namespace Go.Proofs.YtlepjjcnlcnnfaaDoor.Merkle
open Go.RowKit Go.My

theorem ret_i {k : IntKind} {a b : Int} (h : a = b) : Ending.returned (.int k a) = .returned (.int k b) := by rw [h]
/-- how many bits a number has -/
def bl (x : Int) : Int := if x = 0 then 0 else (x.toNat.log2 + 1 : Nat)
theorem log2_256 {n : Nat} (h : 256 ≤ n) : n.log2 = (n / 256).log2 + 8 := by
  obtain ⟨h1, h2⟩ := (Nat.log2_eq_iff (n := n / 256) (k := (n / 256).log2) (by omega)).1 rfl
  refine (Nat.log2_eq_iff (by omega)).2 ?_
  rw [Nat.pow_add, show (n / 256).log2 + 8 + 1 = ((n / 256).log2 + 1) + 8 by omega, Nat.pow_add (m := (n / 256).log2 + 1)]
  generalize 2 ^ (n / 256).log2 = p at *
  generalize 2 ^ ((n / 256).log2 + 1) = q at *
  omega
theorem bl_256 {x : Int} (h : 256 ≤ x) : bl x = 8 + bl (x / 256) := by
  obtain ⟨n, rfl⟩ : ∃ n : Nat, x = n := ⟨x.toNat, by omega⟩
  have h1 : ¬ (n : Int) = 0 := by omega
  have h2 : ¬ (n : Int) / 256 = 0 := by omega
  unfold bl
  rw [if_neg h1, if_neg h2, Int.toNat_natCast, show ((n : Int) / 256).toNat = n / 256 by omega, log2_256 (by omega)]
  omega
theorem ba_get (l : Array UInt8) (i : Nat) (h : i < (⟨l⟩ : ByteArray).size) : (⟨l⟩ : ByteArray)[i]'h = l.toList.getD i 0 := by
  have h' : i < l.toList.length := by rw [Array.length_toList]; exact h
  show l[i] = _
  rw [List.getD_eq_getElem?_getD, List.getElem?_eq_getElem h']
  simp
set_option maxRecDepth 100000 in
theorem len_low (x : Int) (w : World) (h0 : 0 ≤ x) (hx : x < 256) : Calls Tryd.prog 46 #[.int .u64 x] w fun e w' => e = .returned (.int .i64 (bl x)) ∧ w = w' := by
  go_enter Tryd.func46, Tryd.ntmps46
  go_wp2
  go_ret
  refine ⟨ret_i ?_, rfl⟩
  rw [ba_get]
  obtain ⟨k, rfl⟩ : ∃ k : Nat, x = k := ⟨x.toNat, by omega⟩
  rw [Int.toNat_natCast]
  have hk : k < 256 := by omega
  rename_i q1 q2 q3
  clear q1 q2 q3 h0 hx
  revert k
  decide +kernel
set_option maxRecDepth 100000 in
theorem len_high (x : Int) (w : World) (h0 : 256 ≤ x) (hx : x < 65536) : Calls Tryd.prog 46 #[.int .u64 x] w fun e w' => e = .returned (.int .i64 (bl x)) ∧ w = w' := by
  go_enter Tryd.func46, Tryd.ntmps46
  go_wp2
  go_ret
  refine ⟨ret_i ?_, rfl⟩
  rw [ba_get]
  rw [bl_256 h0]
  obtain ⟨k, hk⟩ : ∃ k : Nat, x / 256 = k := ⟨(x / 256).toNat, by omega⟩
  rw [hk, Int.toNat_natCast]
  have hk2 : k < 256 := by omega
  have hk1 : 1 ≤ k := by omega
  rename_i q1 q2 q3
  clear q1 q2 q3 h0 hx hk x
  revert k
  decide +kernel
theorem len_any (x : Int) (w : World) (h0 : 0 ≤ x) (hx : x < 65536) : Calls Tryd.prog 46 #[.int .u64 x] w fun e w' => e = .returned (.int .i64 (bl x)) ∧ w = w' := by
  by_cases h : x < 256
  · exact len_low x w h0 h
  · exact len_high x w (by omega) hx
set_option maxRecDepth 100000 in
theorem half_any (n : Nat) (w : World) (h2 : 2 ≤ n) (hn : n ≤ 65536) : Calls Tryd.prog 22 #[.int .i64 (n : Int)] w fun e w' => e = .returned (.int .i64 (half n : Nat)) ∧ w = w' := by
  obtain ⟨z, hz⟩ : ∃ z : Int, z = n := ⟨_, rfl⟩
  have h20 : 2 ≤ z := by omega
  have hn0 : z ≤ 65536 := by omega
  have HL := Lib.hid (len_any (z - 1) w (by omega) (by omega))
  obtain ⟨k, hk⟩ : ∃ k, k = bl (z - 1) := ⟨_, rfl⟩
  have HK : Hid (k = bl (z - 1)) := hk
  have hk0 : 1 ≤ k := by
    rw [hk]
    unfold bl
    rw [if_neg (by omega)]
    omega
  have hk1 : k ≤ 16 := by
    rw [hk]
    unfold bl
    rw [if_neg (by omega)]
    have := (Nat.log2_lt (n := (z - 1).toNat) (k := 16) (by omega)).2 (by omega)
    omega
  rw [← hk] at HL
  rw [← hz]
  have HZ := Lib.hid hz
  clear hz hk h2 hn
  go_enter Tryd.func22, Tryd.ntmps22
  go_wp2_with (first | (go_at_call 46; refine HL.out.mono ?_; rintro e w1 ⟨rfl, rfl⟩) | go_in)
  go_ret
  refine ⟨ret_i ?_, rfl⟩
  have hz := HZ.out
  have e : k.toNat - 1 = (n - 1).log2 := by
    rw [HK.out, hz]
    unfold bl
    rw [if_neg (by omega)]
    have : ((n : Int) - 1).toNat = n - 1 := by omega
    rw [this]
    omega
  rw [e]
  unfold half
  have hlt : (n - 1).log2 < 16 := (Nat.log2_lt (by omega)).2 (by omega)
  have hp : 2 ^ (n - 1).log2 ≤ 2 ^ 16 := Nat.pow_le_pow_right (by omega) (by omega)
  have hi : ((2 : Int) ^ (n - 1).log2) = ((2 ^ (n - 1).log2 : Nat) : Int) := by simp
  rw [hi]
  generalize 2 ^ (n - 1).log2 = q at *
  exact IntWalk.wrap64_in _ ⟨by omega, by omega⟩
set_option maxRecDepth 100000 in
theorem apart_any (p n first fin : Nat) (w : World) (hp : p ≤ 100000) (hn : n ≤ 100000) (h1 : first ≤ 100000) (h2 : fin ≤ 100000) :
    Calls Tryd.prog 21 #[.int .i64 (p : Int), .int .i64 (n : Int), .int .i64 (first : Int), .int .i64 (fin : Int)] w fun e w' => e = .returned (.bool (apart p n first fin)) ∧ w = w' := by
  obtain ⟨zp, hzp⟩ : ∃ z : Int, z = p := ⟨_, rfl⟩
  obtain ⟨zn, hzn⟩ : ∃ z : Int, z = n := ⟨_, rfl⟩
  obtain ⟨zf, hzf⟩ : ∃ z : Int, z = first := ⟨_, rfl⟩
  obtain ⟨ze, hze⟩ : ∃ z : Int, z = fin := ⟨_, rfl⟩
  have a0 : 0 ≤ zp ∧ zp ≤ 100000 := by omega
  have a1 : 0 ≤ zn ∧ zn ≤ 100000 := by omega
  have a2 : 0 ≤ zf ∧ zf ≤ 100000 := by omega
  have a3 : 0 ≤ ze ∧ ze ≤ 100000 := by omega
  obtain ⟨a0, b0⟩ := a0
  obtain ⟨a1, b1⟩ := a1
  obtain ⟨a2, b2⟩ := a2
  obtain ⟨a3, b3⟩ := a3
  obtain ⟨r, hr⟩ : ∃ r, r = apart p n first fin := ⟨_, rfl⟩
  have HR : Hid (r = (decide (ze ≤ zf) || (decide (ze ≤ zp) || decide (zp + zn ≤ zf)))) := by
    show r = _
    rw [hr]
    unfold apart
    have e1 : decide (fin ≤ first) = decide (ze ≤ zf) := decide_eq_decide.2 (by omega)
    have e2 : decide (fin ≤ p) = decide (ze ≤ zp) := decide_eq_decide.2 (by omega)
    have e3 : decide (p + n ≤ first) = decide (zp + zn ≤ zf) := decide_eq_decide.2 (by omega)
    rw [e1, e2, e3]
  rw [← hzp, ← hzn, ← hzf, ← hze, ← hr]
  clear hzp hzn hzf hze hr hp hn h1 h2
  by_cases c1 : ze ≤ zf
  · have HE : Hid (r = true) := by show r = _; rw [HR.out]; simp [c1]
    go_enter Tryd.func21, Tryd.ntmps21
    go_wp2
    go_ret
    exact ⟨by rw [HE.out]; rfl, rfl⟩
  · by_cases c2 : ze ≤ zp
    · have HE : Hid (r = true) := by show r = _; rw [HR.out]; simp [c2]
      go_enter Tryd.func21, Tryd.ntmps21
      go_wp2
      go_ret
      exact ⟨by rw [HE.out]; rfl, rfl⟩
    · have HE : Hid (r = decide (zp + zn ≤ zf)) := by show r = _; rw [HR.out]; simp [c1, c2]
      go_enter Tryd.func21, Tryd.ntmps21
      go_wp2
      go_ret
      exact ⟨by rw [HE.out]; rfl, rfl⟩
set_option maxRecDepth 100000 in
set_option maxHeartbeats 1600000 in
theorem parts_any (n : Nat) : ∀ (p first fin : Nat) (w : World), p + n ≤ 2000 → first ≤ 4000 → fin ≤ 4000 → (n = 0 → apart p n first fin = true) →
    Calls Tryd.prog 39 #[.int .i64 (p : Int), .int .i64 (n : Int), .int .i64 (first : Int), .int .i64 (fin : Int)] w fun e w' => e = .returned (.int .i64 ((parts p n first fin : Nat) : Int)) ∧ w = w' := by
  induction n using Nat.strongRecOn with
  | ind n ih =>
    intro p first fin w hpn h1 h2 h0
    have HA := Lib.hid (fun W => apart_any p n first fin W (by omega) (by omega) (by omega) (by omega))
    cases ha : apart p n first fin with
    | true =>
      rw [parts_apart ha]
      rw [ha] at HA
      clear ih h0 ha
      go_enter Tryd.func39, Tryd.ntmps39
      go_wp2_with (go_at_call 21; refine (HA.out _).mono ?_; rintro e w1 ⟨rfl, rfl⟩)
      go_ret
      exact ⟨rfl, rfl⟩
    | false =>
      rw [ha] at HA
      rcases Nat.lt_or_ge n 2 with hn | hn
      · have hn1 : n = 1 := by
          rcases Nat.lt_or_ge n 1 with h | h
          · rw [h0 (by omega)] at ha; cases ha
          · omega
        subst hn1
        rw [parts_leaf ha]
        clear ih h0 ha
        go_enter Tryd.func39, Tryd.ntmps39
        go_wp2_with (go_at_call 21; refine (HA.out _).mono ?_; rintro e w1 ⟨rfl, rfl⟩)
        go_ret
        exact ⟨rfl, rfl⟩
      · have hp := half_pos n
        have hl := half_lt hn
        have HH := Lib.hid (fun W => half_any n W hn (by omega))
        have hnp := parts_node ha hn
        obtain ⟨x, hx⟩ : ∃ x, x = parts p (half n) first fin := ⟨_, rfl⟩
        obtain ⟨y, hy⟩ : ∃ y, y = parts (p + half n) (n - half n) first fin := ⟨_, rfl⟩
        have hxl : x ≤ 2000 := by rw [hx]; have := parts_le (half n) p first fin hp; omega
        have hyl : y ≤ 2000 := by rw [hy]; have := parts_le (n - half n) (p + half n) first fin (by omega); omega
        rw [hnp, ← hx, ← hy]
        have HX := Lib.hid (fun W => ih (half n) hl p first fin W (by omega) h1 h2 (by omega))
        have HY := Lib.hid (fun W => ih (n - half n) (by omega) (p + half n) first fin W (by omega) h1 h2 (by omega))
        rw [← hx] at HX
        rw [← hy] at HY
        obtain ⟨k, hk⟩ : ∃ k, k = half n := ⟨_, rfl⟩
        rw [← hk] at hp hl HH HX HY
        obtain ⟨q, hq⟩ : ∃ q, q = n - k := ⟨_, rfl⟩
        rw [← hq] at HY
        have e1 : ((p + k : Nat) : Int) = (p : Int) + (k : Int) := by omega
        have e2 : ((q : Nat) : Int) = (n : Int) - (k : Int) := by omega
        rw [e1, e2] at HY
        have i1 : (n : Int) ≤ 2000 := by omega
        have i2 : (k : Int) < (n : Int) := by omega
        have i3 : (p : Int) ≤ 2000 := by omega
        have i4 : ((n : Int) == 1) = false := by simp; omega
        have i5 : (x : Int) ≤ 2000 := by omega
        have i6 : (y : Int) ≤ 2000 := by omega
        clear ih h0 ha hnp hx hy hk hq e1 e2
        go_enter Tryd.func39, Tryd.ntmps39
        go_wp2_with fail
        refine (HA.out _).mono ?_
        rintro e w1 ⟨rfl, rfl⟩
        go_wp2_with fail
        refine (HH.out _).mono ?_
        rintro e w1 ⟨rfl, rfl⟩
        go_wp2_with fail
        refine (HX.out _).mono ?_
        rintro e w1 ⟨rfl, rfl⟩
        go_wp2_with fail
        refine (HH.out _).mono ?_
        rintro e w1 ⟨rfl, rfl⟩
        go_wp2_with fail
        refine (HH.out _).mono ?_
        rintro e w1 ⟨rfl, rfl⟩
        go_wp2_with fail
        refine (HY.out _).mono ?_
        rintro e w1 ⟨rfl, rfl⟩
        go_wp2_with fail
        go_ret
        exact ⟨ret_i (by omega), rfl⟩
end Go.Proofs.YtlepjjcnlcnnfaaDoor.Merkle
