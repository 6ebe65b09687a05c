/-
  Contracts and plain facts for the laws on the whole program: the parts below say each what they are. No further condition.
-/
import Derived.Shelf.Strconv.Itoa0
import Derived.Shelf.Strconv.Itoa1
import Derived.Shelf.LaysM
import Derived.Shelf.Strconv.Itoa2
import Derived.Shelf.Strconv.Itoa3
import Derived.Test.YtdgaflcnigljlaaGreatDoorProg
/-
  DERIVED: THE SHELF's CONTRACTS AT THIS DUMP, IN PLAIN WORDS (tools/lay-plain.mjs out of 'TryzItoa.lean', which tools/lay-shelf.mjs wrote): THE SAME DECLARATIONS UNDER THE SAME NAMES: 'import', 'namespace', 'open', 'def', 'theorem' AND NOTHING ELSE: no command of the shelf's: FOR A HAND-IN. Each laying: the table of numbers ('.._ren') and one theorem, a field a fact of the dump's own or the kernel's comparison; each contract: ONE APPLICATION.
-/
namespace Go.Proofs
open Go.Shelf
def Tryz.laysM171_ren : Go.Shelf.Ren := ⟨fun | 171 => 148 | 243 => 192 | 246 => 220 | 283 => 239 | 284 => 240 | 285 => 241 | 286 => 242 | 129 => 251 | 317 => 250 | 318 => 252 | 319 => 253 | 320 => 254 | 337 => 261 | 338 => 262 | n => n, fun | 3 => 3 | 9 => 9 | 2 => 2 | 4 => 4 | 171 => 295 | 0 => 0 | 53 => 296 | 37 => 254 | 5 => 5 | 173 => 299 | 212 => 306 | 51 => 307 | 20 => 20 | 213 => 308 | 46 => 287 | 232 => 318 | 233 => 319 | n => n, fun | 17 => 4 | 18 => 6 | 19 => 7 | n => n⟩
theorem Tryz.laysM171 : Go.Proofs.LaysM.n171 Tryz.prog Tryz.laysM171_ren := {
  mixed := by kernel_rfl
  f129 := Tryz.func251.trans (congrArg some (by kernel_rfl))
  f171 := Tryz.func148.trans (congrArg some (by kernel_rfl))
  f243 := Tryz.func192.trans (congrArg some (by kernel_rfl))
  f246 := Tryz.func220.trans (congrArg some (by kernel_rfl))
  f283 := Tryz.func239.trans (congrArg some (by kernel_rfl))
  f284 := Tryz.func240.trans (congrArg some (by kernel_rfl))
  f285 := Tryz.func241.trans (congrArg some (by kernel_rfl))
  f286 := Tryz.func242.trans (congrArg some (by kernel_rfl))
  f317 := Tryz.func250.trans (congrArg some (by kernel_rfl))
  f318 := Tryz.func252.trans (congrArg some (by kernel_rfl))
  f319 := Tryz.func253.trans (congrArg some (by kernel_rfl))
  f320 := Tryz.func254.trans (congrArg some (by kernel_rfl))
  f337 := Tryz.func261.trans (congrArg some (by kernel_rfl))
  f338 := Tryz.func262.trans (congrArg some (by kernel_rfl))
  t0 := Tryz.underlying0
  a0 := Tryz.isAgg0
  z0 := Tryz.sizeOf0
  v0 := Tryz.zeroValue0
  t2 := Tryz.underlying2
  a2 := Tryz.isAgg2
  z2 := Tryz.sizeOf2
  v2 := Tryz.zeroValue2
  t3 := Tryz.underlying3
  a3 := Tryz.isAgg3
  z3 := Tryz.sizeOf3
  v3 := Tryz.zeroValue3
  t4 := Tryz.underlying4
  a4 := Tryz.isAgg4
  z4 := Tryz.sizeOf4
  v4 := Tryz.zeroValue4
  t5 := Tryz.underlying5
  a5 := Tryz.isAgg5
  z5 := Tryz.sizeOf5
  v5 := Tryz.zeroValue5
  t9 := Tryz.underlying9
  a9 := Tryz.isAgg9
  z9 := Tryz.sizeOf9
  v9 := Tryz.zeroValue9
  t20 := Tryz.underlying20
  a20 := Tryz.isAgg20
  z20 := Tryz.sizeOf20
  v20 := Tryz.zeroValue20
  t37 := Tryz.underlying254
  a37 := Tryz.isAgg254
  z37 := Tryz.sizeOf254
  v37 := Tryz.zeroValue254
  t46 := Tryz.underlying287
  a46 := Tryz.isAgg287
  z46 := Tryz.sizeOf287
  v46 := Tryz.zeroValue287
  t51 := Tryz.underlying307
  a51 := Tryz.isAgg307
  z51 := Tryz.sizeOf307
  v51 := Tryz.zeroValue307
  t53 := Tryz.underlying296
  a53 := Tryz.isAgg296
  z53 := Tryz.sizeOf296
  v53 := Tryz.zeroValue296
  t171 := Tryz.underlying295
  a171 := Tryz.isAgg295
  z171 := Tryz.sizeOf295
  v171 := Tryz.zeroValue295
  t173 := Tryz.underlying299
  a173 := Tryz.isAgg299
  z173 := Tryz.sizeOf299
  v173 := Tryz.zeroValue299
  t212 := Tryz.underlying306
  a212 := Tryz.isAgg306
  z212 := Tryz.sizeOf306
  v212 := Tryz.zeroValue306
  t213 := Tryz.underlying308
  a213 := Tryz.isAgg308
  z213 := Tryz.sizeOf308
  t232 := Tryz.underlying318
  a232 := Tryz.isAgg318
  z232 := Tryz.sizeOf318
  v232 := Tryz.zeroValue318
  t233 := Tryz.underlying319
  a233 := Tryz.isAgg319
  z233 := Tryz.sizeOf319
  v233 := Tryz.zeroValue319
  g17 := by kernel_rfl
  g18 := by kernel_rfl
  g19 := by kernel_rfl
  i0 := by kernel_rfl
  i2 := by kernel_rfl
  i3 := by kernel_rfl
  i4 := by kernel_rfl
  i5 := by kernel_rfl
  i9 := by kernel_rfl
  i20 := by kernel_rfl
  i37 := by kernel_rfl
  i46 := by kernel_rfl
  i51 := by kernel_rfl
  i53 := by kernel_rfl
  i171 := by kernel_rfl
  i173 := by kernel_rfl
  i212 := by kernel_rfl
  i232 := by kernel_rfl
  i233 := by kernel_rfl
  m17 := by kernel_rfl
  m18 := by kernel_rfl
  m19 := by kernel_rfl }
open Go.RowKit Go.Sort Go.Lib in
/-- strconv.Itoa: "Itoa is equivalent to FormatInt(int64(i), 10).": i's DECIMAL NUMERAL ('Lib.itoa': a '-' where i is negative, then the digits), FOR EVERY int. The world behind the call: the world before it, new blocks behind the heap (the library's 'var a [24]byte'), draws. (LAID: no walk: one application.) -/
theorem Tryz.strconv_Itoa (n : Int) (h0 : -9223372036854775808 ≤ n) (h1 : n ≤ 9223372036854775807) (w : World) (htab : Lib.TabIs Tryz.prog w "internal/strconv.uint64pow10" .u64 Lib.pow10Tab) :
    Calls Tryz.prog 148 #[.int .i64 n] w fun e w' => e = .returned (.string ⟨(Lib.itoa n).toArray⟩) ∧ ∃ k os, w' = grow (w.drewN k) os := Any.strconv_Itoa Tryz.laysM171 n h0 h1 w htab
end Go.Proofs
