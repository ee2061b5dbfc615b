/- strconv.Itoa at this program: the shelf's contract, laid (the laying was written by the kit's tool lay-plain). -/
import Derived.Shelf.LaysM
import Derived.Shelf.Strconv.Itoa3
import Derived.Test.YtapeplcpgcbinaaDoorChecked
import Derived.Test.YtapeplcpgcbinaaDoorGen
namespace Go.Proofs.YtapeplcpgcbinaaDoor
open Go.Shelf Go.RowKit Go.My
def itoaL_ren : Go.Shelf.Ren := ⟨fun | 171 => 19 | 243 => 25 | 246 => 30 | 283 => 31 | 284 => 32 | 285 => 33 | 286 => 34 | 129 => 36 | 317 => 35 | 318 => 37 | 319 => 38 | 320 => 39 | 337 => 40 | 338 => 41 | n => n, fun | 3 => 3 | 9 => 9 | 2 => 2 | 4 => 4 | 171 => 82 | 0 => 0 | 53 => 83 | 37 => 86 | 5 => 5 | 173 => 87 | 212 => 91 | 51 => 92 | 20 => 20 | 213 => 93 | 46 => 95 | 232 => 98 | 233 => 99 | n => n, fun | 17 => 1 | 18 => 2 | 19 => 3 | n => n⟩
theorem itoaL : Go.Proofs.LaysM.n171 Tryd.prog itoaL_ren := {
  mixed := by kernel_rfl
  f129 := Tryd.func36.trans (congrArg some (by kernel_rfl))
  f171 := Tryd.func19.trans (congrArg some (by kernel_rfl))
  f243 := Tryd.func25.trans (congrArg some (by kernel_rfl))
  f246 := Tryd.func30.trans (congrArg some (by kernel_rfl))
  f283 := Tryd.func31.trans (congrArg some (by kernel_rfl))
  f284 := Tryd.func32.trans (congrArg some (by kernel_rfl))
  f285 := Tryd.func33.trans (congrArg some (by kernel_rfl))
  f286 := Tryd.func34.trans (congrArg some (by kernel_rfl))
  f317 := Tryd.func35.trans (congrArg some (by kernel_rfl))
  f318 := Tryd.func37.trans (congrArg some (by kernel_rfl))
  f319 := Tryd.func38.trans (congrArg some (by kernel_rfl))
  f320 := Tryd.func39.trans (congrArg some (by kernel_rfl))
  f337 := Tryd.func40.trans (congrArg some (by kernel_rfl))
  f338 := Tryd.func41.trans (congrArg some (by kernel_rfl))
  t0 := Tryd.underlying0
  a0 := Tryd.isAgg0
  z0 := Tryd.sizeOf0
  v0 := Tryd.zeroValue0
  t2 := Tryd.underlying2
  a2 := Tryd.isAgg2
  z2 := Tryd.sizeOf2
  v2 := Tryd.zeroValue2
  t3 := Tryd.underlying3
  a3 := Tryd.isAgg3
  z3 := Tryd.sizeOf3
  v3 := Tryd.zeroValue3
  t4 := Tryd.underlying4
  a4 := Tryd.isAgg4
  z4 := Tryd.sizeOf4
  v4 := Tryd.zeroValue4
  t5 := Tryd.underlying5
  a5 := Tryd.isAgg5
  z5 := Tryd.sizeOf5
  v5 := Tryd.zeroValue5
  t9 := Tryd.underlying9
  a9 := Tryd.isAgg9
  z9 := Tryd.sizeOf9
  v9 := Tryd.zeroValue9
  t20 := Tryd.underlying20
  a20 := Tryd.isAgg20
  z20 := Tryd.sizeOf20
  v20 := Tryd.zeroValue20
  t37 := Tryd.underlying86
  a37 := Tryd.isAgg86
  z37 := Tryd.sizeOf86
  v37 := Tryd.zeroValue86
  t46 := Tryd.underlying95
  a46 := Tryd.isAgg95
  z46 := Tryd.sizeOf95
  v46 := Tryd.zeroValue95
  t51 := Tryd.underlying92
  a51 := Tryd.isAgg92
  z51 := Tryd.sizeOf92
  v51 := Tryd.zeroValue92
  t53 := Tryd.underlying83
  a53 := Tryd.isAgg83
  z53 := Tryd.sizeOf83
  v53 := Tryd.zeroValue83
  t171 := Tryd.underlying82
  a171 := Tryd.isAgg82
  z171 := Tryd.sizeOf82
  v171 := Tryd.zeroValue82
  t173 := Tryd.underlying87
  a173 := Tryd.isAgg87
  z173 := Tryd.sizeOf87
  v173 := Tryd.zeroValue87
  t212 := Tryd.underlying91
  a212 := Tryd.isAgg91
  z212 := Tryd.sizeOf91
  v212 := Tryd.zeroValue91
  t213 := Tryd.underlying93
  a213 := Tryd.isAgg93
  z213 := Tryd.sizeOf93
  t232 := Tryd.underlying98
  a232 := Tryd.isAgg98
  z232 := Tryd.sizeOf98
  v232 := Tryd.zeroValue98
  t233 := Tryd.underlying99
  a233 := Tryd.isAgg99
  z233 := Tryd.sizeOf99
  v233 := Tryd.zeroValue99
  g17 := by kernel_rfl
  g18 := by kernel_rfl
  g19 := by kernel_rfl
  i0 := by kernel_rfl
  i2 := by kernel_rfl
  i3 := by kernel_rfl
  i4 := by kernel_rfl
  i5 := by kernel_rfl
  i9 := by kernel_rfl
  i20 := by kernel_rfl
  i37 := by kernel_rfl
  i46 := by kernel_rfl
  i51 := by kernel_rfl
  i53 := by kernel_rfl
  i171 := by kernel_rfl
  i173 := by kernel_rfl
  i212 := by kernel_rfl
  i232 := by kernel_rfl
  i233 := by kernel_rfl
  m17 := by kernel_rfl
  m18 := by kernel_rfl
  m19 := by kernel_rfl }
theorem below_grow (w : World) (k : Nat) (os : Array Obj) : Below w.heap.size w (Go.Sort.grow (w.drewN k) os) :=
  ⟨rfl, rfl, rfl, by simp [Go.Sort.grow], fun i hi => by simp [Go.Sort.grow, Array.getElem?_append_left hi]⟩
/-- a number's decimals -/
def numB (n : Int) : ByteArray := ⟨(Lib.itoa n).toArray⟩
/-- the table that Itoa reads -/
def TabHere (w : World) : Prop := Lib.TabIs Tryd.prog w "internal/strconv.uint64pow10" .u64 Lib.pow10Tab
theorem itoa_19 (n : Int) (h0 : -9223372036854775808 ≤ n) (h1 : n ≤ 9223372036854775807) (w : World) (ht : TabHere w) :
    Calls Tryd.prog 19 #[.int .i64 n] w fun e w' => e = .returned (.string (numB n)) ∧ Below w.heap.size w w' :=
  (Any.strconv_Itoa itoaL n h0 h1 w ht).mono fun e w' ⟨he, k, os, hw⟩ => ⟨he, by rw [hw]; exact below_grow w k os⟩
end Go.Proofs.YtapeplcpgcbinaaDoor
