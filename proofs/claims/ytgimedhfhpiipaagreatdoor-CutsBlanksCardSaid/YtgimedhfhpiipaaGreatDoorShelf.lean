/-
  DERIVED: THE SHELF's CONTRACTS AT THIS DUMP, IN PLAIN WORDS (tools/lay-plain.mjs out of 'TryShShelf.lean', which tools/lay-shelf.mjs wrote): THE SAME DECLARATIONS UNDER THE SAME NAMES: 'import', 'namespace', 'open', 'def', 'theorem' AND NOTHING ELSE: no command of the shelf's: FOR A HAND-IN. Each laying: the table of numbers ('.._ren') and one theorem, a field a fact of the dump's own or the kernel's comparison; each contract: ONE APPLICATION.
-/
import Derived.Shelf.Small.Strs
import Derived.Shelf.Small.Utf8
import Derived.Shelf.Utf8.AppendRunePlain
import Derived.Shelf.LaysM
import Derived.Shelf.LaysC
import Derived.Shelf.Strconv.Itoa3
import Derived.Shelf.Strconv.AtoiAll
import Derived.Shelf.Strconv.ErrVarAll
import Derived.Shelf.Strings.IndexAny
import Derived.Shelf.Strings.IndexAnyAll
import Derived.Shelf.Unicode.DecodeAny
import Derived.Shelf.Unicode.ValidAny
import Derived.Test.YtgimedhfhpiipaaGreatDoorProg
namespace Go.Proofs
open Go.Shelf
def Tryz.lays119_ren : Go.Shelf.Ren := ⟨fun | 119 => 115 | n => n, fun | 21 => 21 | 4 => 4 | n => n, fun | n => n⟩
theorem Tryz.lays119 : Go.Proofs.Lays.n119 Tryz.prog Tryz.lays119_ren := {
  mixed := by kernel_rfl
  f119 := Tryz.func115.trans (congrArg some (by kernel_rfl))
  t4 := Tryz.underlying4
  a4 := Tryz.isAgg4
  z4 := Tryz.sizeOf4
  v4 := Tryz.zeroValue4
  t21 := Tryz.underlying21
  a21 := Tryz.isAgg21
  z21 := Tryz.sizeOf21
  v21 := Tryz.zeroValue21 }
/-- utf8.ValidRune: "ValidRune reports whether r can be legally encoded as UTF-8. Code points that are out of range or a surrogate half are illegal.": IT RETURNS 'Lib.validRune r'; the world is as it was. (LAID: no walk: one application.) -/
theorem Tryz.utf8_ValidRune (r : Int) (w : World) :
    Calls Tryz.prog 115 #[.int .i32 r] w fun e w' => e = .returned (.bool (Lib.validRune r)) ∧ w' = w := Any.utf8_ValidRune Tryz.lays119 r w
def Tryz.lays137_ren : Go.Shelf.Ren := ⟨fun | 137 => 25 | 217 => 55 | 266 => 93 | n => n, fun | 9 => 9 | 5 => 5 | 3 => 3 | n => n, fun | n => n⟩
theorem Tryz.lays137 : Go.Proofs.Lays.n137 Tryz.prog Tryz.lays137_ren := {
  mixed := by kernel_rfl
  f137 := Tryz.func25.trans (congrArg some (by kernel_rfl))
  f217 := Tryz.func55.trans (congrArg some (by kernel_rfl))
  f266 := Tryz.func93.trans (congrArg some (by kernel_rfl))
  t3 := Tryz.underlying3
  a3 := Tryz.isAgg3
  z3 := Tryz.sizeOf3
  v3 := Tryz.zeroValue3
  t5 := Tryz.underlying5
  a5 := Tryz.isAgg5
  z5 := Tryz.sizeOf5
  v5 := Tryz.zeroValue5
  t9 := Tryz.underlying9
  a9 := Tryz.isAgg9
  z9 := Tryz.sizeOf9
  v9 := Tryz.zeroValue9 }
open Go.RowKit in
/-- strings.IndexByte: "IndexByte returns the index of the first instance of c in s, or -1 if c is not present in s.": IT RETURNS 'Lib.indexByte s c'; the world is as it was. (LAID: no walk: one application.) -/
theorem Tryz.strings_IndexByte (s : ByteArray) (c : Int) (w : World) :
    Calls Tryz.prog 25 #[.string s, .int .u8 c] w fun e w' => e = .returned (.int .i64 (Lib.indexByte s.data.toList c.toNat.toUInt8)) ∧ w' = w := Any.strings_IndexByte Tryz.lays137 s c w
def Tryz.lays242_ren : Go.Shelf.Ren := ⟨fun | 242 => 89 | 278 => 109 | n => n, fun | 37 => 160 | 21 => 21 | 51 => 190 | 4 => 4 | 5 => 5 | 46 => 154 | n => n, fun | n => n⟩
theorem Tryz.lays242 : Go.Proofs.Lays.n242 Tryz.prog Tryz.lays242_ren := {
  mixed := by kernel_rfl
  f242 := Tryz.func89.trans (congrArg some (by kernel_rfl))
  f278 := Tryz.func109.trans (congrArg some (by kernel_rfl))
  t4 := Tryz.underlying4
  a4 := Tryz.isAgg4
  z4 := Tryz.sizeOf4
  v4 := Tryz.zeroValue4
  t5 := Tryz.underlying5
  a5 := Tryz.isAgg5
  z5 := Tryz.sizeOf5
  v5 := Tryz.zeroValue5
  t21 := Tryz.underlying21
  a21 := Tryz.isAgg21
  z21 := Tryz.sizeOf21
  v21 := Tryz.zeroValue21
  t37 := Tryz.underlying160
  a37 := Tryz.isAgg160
  z37 := Tryz.sizeOf160
  v37 := Tryz.zeroValue160
  t46 := Tryz.underlying154
  a46 := Tryz.isAgg154
  z46 := Tryz.sizeOf154
  v46 := Tryz.zeroValue154
  t51 := Tryz.underlying190
  a51 := Tryz.isAgg190
  z51 := Tryz.sizeOf190
  v51 := Tryz.zeroValue190 }
open Go.RowKit in
/-- unicode/utf8.AppendRune: "AppendRune appends the UTF-8 encoding of r to the end of p and returns the extended buffer. If the rune is out of range, it appends the encoding of RuneError.": ONTO A ROW OF BYTES THAT THE CALL OWNS (its head frozen or not): EVERY int32: 'Lib.runeCells r' goes in behind what the row holds; the world: one new block (the bytes as the call's variadic argument), then what 'append' does to the row. (LAID: no walk: one application.) -/
theorem Tryz.utf8_AppendRune_plain (B : Nat) (v : Value) (n : Nat) (xs : List Value) (r : Int) (hr0 : -2147483648 ≤ r) (hr1 : r ≤ 2147483647) (w : World) (hown : w.ownsRow B 5 1 v n xs) (hlen : n + 4 ≤ 140737488355328) (hBw : B ≤ w.heap.size) :
    Calls Tryz.prog 89 #[v, .int .i32 r] w fun e w' => ∃ v', e = .returned v' ∧ w'.ownsRow B 5 1 v' (n + (Lib.runeCells r).length) (xs ++ Lib.runeCells r) ∧ ∃ o, (w.alloc o).grownBy w' v.ownBlock := Any.utf8_AppendRune_plain Tryz.lays242 (by kernel_rfl) B v n xs r hr0 hr1 w hown hlen hBw
def Tryz.laysM171_ren : Go.Shelf.Ren := ⟨fun | 171 => 91 | 243 => 114 | 246 => 128 | 283 => 134 | 284 => 135 | 285 => 136 | 286 => 137 | 129 => 141 | 317 => 140 | 318 => 142 | 319 => 143 | 320 => 144 | 337 => 145 | 338 => 146 | n => n, fun | 3 => 3 | 9 => 9 | 2 => 2 | 4 => 4 | 171 => 213 | 0 => 0 | 53 => 159 | 37 => 160 | 5 => 5 | 173 => 216 | 212 => 224 | 51 => 190 | 20 => 20 | 213 => 225 | 46 => 154 | 232 => 228 | 233 => 229 | n => n, fun | 17 => 7 | 18 => 8 | 19 => 9 | n => n⟩
theorem Tryz.laysM171 : Go.Proofs.LaysM.n171 Tryz.prog Tryz.laysM171_ren := {
  mixed := by kernel_rfl
  f129 := Tryz.func141.trans (congrArg some (by kernel_rfl))
  f171 := Tryz.func91.trans (congrArg some (by kernel_rfl))
  f243 := Tryz.func114.trans (congrArg some (by kernel_rfl))
  f246 := Tryz.func128.trans (congrArg some (by kernel_rfl))
  f283 := Tryz.func134.trans (congrArg some (by kernel_rfl))
  f284 := Tryz.func135.trans (congrArg some (by kernel_rfl))
  f285 := Tryz.func136.trans (congrArg some (by kernel_rfl))
  f286 := Tryz.func137.trans (congrArg some (by kernel_rfl))
  f317 := Tryz.func140.trans (congrArg some (by kernel_rfl))
  f318 := Tryz.func142.trans (congrArg some (by kernel_rfl))
  f319 := Tryz.func143.trans (congrArg some (by kernel_rfl))
  f320 := Tryz.func144.trans (congrArg some (by kernel_rfl))
  f337 := Tryz.func145.trans (congrArg some (by kernel_rfl))
  f338 := Tryz.func146.trans (congrArg some (by kernel_rfl))
  t0 := Tryz.underlying0
  a0 := Tryz.isAgg0
  z0 := Tryz.sizeOf0
  v0 := Tryz.zeroValue0
  t2 := Tryz.underlying2
  a2 := Tryz.isAgg2
  z2 := Tryz.sizeOf2
  v2 := Tryz.zeroValue2
  t3 := Tryz.underlying3
  a3 := Tryz.isAgg3
  z3 := Tryz.sizeOf3
  v3 := Tryz.zeroValue3
  t4 := Tryz.underlying4
  a4 := Tryz.isAgg4
  z4 := Tryz.sizeOf4
  v4 := Tryz.zeroValue4
  t5 := Tryz.underlying5
  a5 := Tryz.isAgg5
  z5 := Tryz.sizeOf5
  v5 := Tryz.zeroValue5
  t9 := Tryz.underlying9
  a9 := Tryz.isAgg9
  z9 := Tryz.sizeOf9
  v9 := Tryz.zeroValue9
  t20 := Tryz.underlying20
  a20 := Tryz.isAgg20
  z20 := Tryz.sizeOf20
  v20 := Tryz.zeroValue20
  t37 := Tryz.underlying160
  a37 := Tryz.isAgg160
  z37 := Tryz.sizeOf160
  v37 := Tryz.zeroValue160
  t46 := Tryz.underlying154
  a46 := Tryz.isAgg154
  z46 := Tryz.sizeOf154
  v46 := Tryz.zeroValue154
  t51 := Tryz.underlying190
  a51 := Tryz.isAgg190
  z51 := Tryz.sizeOf190
  v51 := Tryz.zeroValue190
  t53 := Tryz.underlying159
  a53 := Tryz.isAgg159
  z53 := Tryz.sizeOf159
  v53 := Tryz.zeroValue159
  t171 := Tryz.underlying213
  a171 := Tryz.isAgg213
  z171 := Tryz.sizeOf213
  v171 := Tryz.zeroValue213
  t173 := Tryz.underlying216
  a173 := Tryz.isAgg216
  z173 := Tryz.sizeOf216
  v173 := Tryz.zeroValue216
  t212 := Tryz.underlying224
  a212 := Tryz.isAgg224
  z212 := Tryz.sizeOf224
  v212 := Tryz.zeroValue224
  t213 := Tryz.underlying225
  a213 := Tryz.isAgg225
  z213 := Tryz.sizeOf225
  t232 := Tryz.underlying228
  a232 := Tryz.isAgg228
  z232 := Tryz.sizeOf228
  v232 := Tryz.zeroValue228
  t233 := Tryz.underlying229
  a233 := Tryz.isAgg229
  z233 := Tryz.sizeOf229
  v233 := Tryz.zeroValue229
  g17 := by kernel_rfl
  g18 := by kernel_rfl
  g19 := by kernel_rfl
  i0 := by kernel_rfl
  i2 := by kernel_rfl
  i3 := by kernel_rfl
  i4 := by kernel_rfl
  i5 := by kernel_rfl
  i9 := by kernel_rfl
  i20 := by kernel_rfl
  i37 := by kernel_rfl
  i46 := by kernel_rfl
  i51 := by kernel_rfl
  i53 := by kernel_rfl
  i171 := by kernel_rfl
  i173 := by kernel_rfl
  i212 := by kernel_rfl
  i232 := by kernel_rfl
  i233 := by kernel_rfl
  m17 := by kernel_rfl
  m18 := by kernel_rfl
  m19 := by kernel_rfl }
open Go.RowKit Go.Sort Go.Lib in
/-- strconv.Itoa: "Itoa is equivalent to FormatInt(int64(i), 10).": i's DECIMAL NUMERAL ('Lib.itoa': a '-' where i is negative, then the digits), FOR EVERY int. The world behind the call: the world before it, new blocks behind the heap (the library's 'var a [24]byte'), draws. (LAID: no walk: one application.) -/
theorem Tryz.strconv_Itoa (n : Int) (h0 : -9223372036854775808 ≤ n) (h1 : n ≤ 9223372036854775807) (w : World) (htab : Lib.TabIs Tryz.prog w "internal/strconv.uint64pow10" .u64 Lib.pow10Tab) :
    Calls Tryz.prog 91 #[.int .i64 n] w fun e w' => e = .returned (.string ⟨(Lib.itoa n).toArray⟩) ∧ ∃ k os, w' = grow (w.drewN k) os := Any.strconv_Itoa Tryz.laysM171 n h0 h1 w htab
def Tryz.lays171_ren : Go.Shelf.Ren := ⟨fun | 171 => 91 | 243 => 114 | 246 => 128 | 283 => 134 | 284 => 135 | 285 => 136 | 286 => 137 | 129 => 141 | 317 => 140 | 318 => 142 | 319 => 143 | 320 => 144 | 337 => 145 | 338 => 146 | n => n, fun | 3 => 3 | 9 => 9 | 2 => 2 | 4 => 4 | 171 => 213 | 0 => 0 | 53 => 159 | 37 => 160 | 5 => 5 | 173 => 216 | 212 => 224 | 51 => 190 | 20 => 20 | 213 => 225 | 46 => 154 | 232 => 228 | 233 => 229 | n => n, fun | 17 => 7 | 18 => 8 | 19 => 9 | n => n⟩
theorem Tryz.lays171 : Go.Proofs.Lays.n171 Tryz.prog Tryz.lays171_ren := {
  mixed := by kernel_rfl
  f129 := Tryz.func141.trans (congrArg some (by kernel_rfl))
  f171 := Tryz.func91.trans (congrArg some (by kernel_rfl))
  f243 := Tryz.func114.trans (congrArg some (by kernel_rfl))
  f246 := Tryz.func128.trans (congrArg some (by kernel_rfl))
  f283 := Tryz.func134.trans (congrArg some (by kernel_rfl))
  f284 := Tryz.func135.trans (congrArg some (by kernel_rfl))
  f285 := Tryz.func136.trans (congrArg some (by kernel_rfl))
  f286 := Tryz.func137.trans (congrArg some (by kernel_rfl))
  f317 := Tryz.func140.trans (congrArg some (by kernel_rfl))
  f318 := Tryz.func142.trans (congrArg some (by kernel_rfl))
  f319 := Tryz.func143.trans (congrArg some (by kernel_rfl))
  f320 := Tryz.func144.trans (congrArg some (by kernel_rfl))
  f337 := Tryz.func145.trans (congrArg some (by kernel_rfl))
  f338 := Tryz.func146.trans (congrArg some (by kernel_rfl))
  t0 := Tryz.underlying0
  a0 := Tryz.isAgg0
  z0 := Tryz.sizeOf0
  v0 := Tryz.zeroValue0
  t2 := Tryz.underlying2
  a2 := Tryz.isAgg2
  z2 := Tryz.sizeOf2
  v2 := Tryz.zeroValue2
  t3 := Tryz.underlying3
  a3 := Tryz.isAgg3
  z3 := Tryz.sizeOf3
  v3 := Tryz.zeroValue3
  t4 := Tryz.underlying4
  a4 := Tryz.isAgg4
  z4 := Tryz.sizeOf4
  v4 := Tryz.zeroValue4
  t5 := Tryz.underlying5
  a5 := Tryz.isAgg5
  z5 := Tryz.sizeOf5
  v5 := Tryz.zeroValue5
  t9 := Tryz.underlying9
  a9 := Tryz.isAgg9
  z9 := Tryz.sizeOf9
  v9 := Tryz.zeroValue9
  t20 := Tryz.underlying20
  a20 := Tryz.isAgg20
  z20 := Tryz.sizeOf20
  v20 := Tryz.zeroValue20
  t37 := Tryz.underlying160
  a37 := Tryz.isAgg160
  z37 := Tryz.sizeOf160
  v37 := Tryz.zeroValue160
  t46 := Tryz.underlying154
  a46 := Tryz.isAgg154
  z46 := Tryz.sizeOf154
  v46 := Tryz.zeroValue154
  t51 := Tryz.underlying190
  a51 := Tryz.isAgg190
  z51 := Tryz.sizeOf190
  v51 := Tryz.zeroValue190
  t53 := Tryz.underlying159
  a53 := Tryz.isAgg159
  z53 := Tryz.sizeOf159
  v53 := Tryz.zeroValue159
  t171 := Tryz.underlying213
  a171 := Tryz.isAgg213
  z171 := Tryz.sizeOf213
  v171 := Tryz.zeroValue213
  t173 := Tryz.underlying216
  a173 := Tryz.isAgg216
  z173 := Tryz.sizeOf216
  v173 := Tryz.zeroValue216
  t212 := Tryz.underlying224
  a212 := Tryz.isAgg224
  z212 := Tryz.sizeOf224
  v212 := Tryz.zeroValue224
  t213 := Tryz.underlying225
  a213 := Tryz.isAgg225
  z213 := Tryz.sizeOf225
  t232 := Tryz.underlying228
  a232 := Tryz.isAgg228
  z232 := Tryz.sizeOf228
  v232 := Tryz.zeroValue228
  t233 := Tryz.underlying229
  a233 := Tryz.isAgg229
  z233 := Tryz.sizeOf229
  v233 := Tryz.zeroValue229
  g17 := by kernel_rfl
  g18 := by kernel_rfl
  g19 := by kernel_rfl }
open Go.RowKit Go.Sort Go.Lib in
/-- THE ROAD WITHOUT THE TABLE: 0 <= i < 100: NO PREMISE ON THE WORLD, AND THE WORLD IS AS IT WAS: a row that keeps its argument in that range need list no table ('laid = []'). (LAID: no walk: one application.) -/
theorem Tryz.strconv_Itoa_small (i : Nat) (hi : i < 100) (w : World) :
    Calls Tryz.prog 91 #[.int .i64 i] w fun e w' => e = .returned (.string ⟨(Lib.decDigits i).toArray⟩) ∧ w' = w := Any.strconv_Itoa_small Tryz.lays171 i hi w
def Tryz.laysC172_ren : Go.Shelf.Ren := ⟨fun | 172 => 66 | 244 => 98 | 245 => 99 | 247 => 118 | 279 => 119 | 280 => 120 | 281 => 121 | 282 => 122 | 287 => 129 | 316 => 130 | 171 => 91 | 205 => 131 | 321 => 138 | 322 => 139 | 243 => 114 | 246 => 128 | 283 => 134 | 284 => 135 | 285 => 136 | 286 => 137 | 129 => 141 | 317 => 140 | 318 => 142 | 319 => 143 | 320 => 144 | 337 => 145 | 338 => 146 | n => n, fun | 9 => 9 | 3 => 3 | 75 => 32 | 76 => 48 | 4 => 4 | 5 => 5 | 167 => 198 | 37 => 160 | 0 => 0 | 85 => 199 | 2 => 2 | 168 => 201 | 53 => 159 | 175 => 208 | 46 => 154 | 210 => 211 | 127 => 219 | 145 => 222 | 143 => 220 | 21 => 21 | 171 => 213 | 173 => 216 | 212 => 224 | 51 => 190 | 20 => 20 | 213 => 225 | 232 => 228 | 233 => 229 | 80 => 105 | n => n, fun | 15 => 5 | 16 => 6 | 17 => 7 | 18 => 8 | 19 => 9 | n => n⟩
theorem Tryz.laysC172 : Go.Proofs.LaysC.n172 Tryz.prog Tryz.laysC172_ren := {
  mixed := by kernel_rfl
  f129 := Tryz.func141.trans (congrArg some (by kernel_rfl))
  f171 := Tryz.func91.trans (congrArg some (by kernel_rfl))
  f172 := Tryz.func66.trans (congrArg some (by kernel_rfl))
  f205 := Tryz.func131.trans (congrArg some (by kernel_rfl))
  f243 := Tryz.func114.trans (congrArg some (by kernel_rfl))
  f244 := Tryz.func98.trans (congrArg some (by kernel_rfl))
  f245 := Tryz.func99.trans (congrArg some (by kernel_rfl))
  f246 := Tryz.func128.trans (congrArg some (by kernel_rfl))
  f247 := Tryz.func118.trans (congrArg some (by kernel_rfl))
  f279 := Tryz.func119.trans (congrArg some (by kernel_rfl))
  f280 := Tryz.func120.trans (congrArg some (by kernel_rfl))
  f281 := Tryz.func121.trans (congrArg some (by kernel_rfl))
  f282 := Tryz.func122.trans (congrArg some (by kernel_rfl))
  f283 := Tryz.func134.trans (congrArg some (by kernel_rfl))
  f284 := Tryz.func135.trans (congrArg some (by kernel_rfl))
  f285 := Tryz.func136.trans (congrArg some (by kernel_rfl))
  f286 := Tryz.func137.trans (congrArg some (by kernel_rfl))
  f287 := Tryz.func129.trans (congrArg some (by kernel_rfl))
  f316 := Tryz.func130.trans (congrArg some (by kernel_rfl))
  f317 := Tryz.func140.trans (congrArg some (by kernel_rfl))
  f318 := Tryz.func142.trans (congrArg some (by kernel_rfl))
  f319 := Tryz.func143.trans (congrArg some (by kernel_rfl))
  f320 := Tryz.func144.trans (congrArg some (by kernel_rfl))
  f321 := Tryz.func138.trans (congrArg some (by kernel_rfl))
  f322 := Tryz.func139.trans (congrArg some (by kernel_rfl))
  f337 := Tryz.func145.trans (congrArg some (by kernel_rfl))
  f338 := Tryz.func146.trans (congrArg some (by kernel_rfl))
  t0 := Tryz.underlying0
  a0 := Tryz.isAgg0
  z0 := Tryz.sizeOf0
  v0 := Tryz.zeroValue0
  t2 := Tryz.underlying2
  a2 := Tryz.isAgg2
  z2 := Tryz.sizeOf2
  v2 := Tryz.zeroValue2
  t3 := Tryz.underlying3
  a3 := Tryz.isAgg3
  z3 := Tryz.sizeOf3
  v3 := Tryz.zeroValue3
  t4 := Tryz.underlying4
  a4 := Tryz.isAgg4
  z4 := Tryz.sizeOf4
  v4 := Tryz.zeroValue4
  t5 := Tryz.underlying5
  a5 := Tryz.isAgg5
  z5 := Tryz.sizeOf5
  v5 := Tryz.zeroValue5
  t9 := Tryz.underlying9
  a9 := Tryz.isAgg9
  z9 := Tryz.sizeOf9
  v9 := Tryz.zeroValue9
  t20 := Tryz.underlying20
  a20 := Tryz.isAgg20
  z20 := Tryz.sizeOf20
  v20 := Tryz.zeroValue20
  t21 := Tryz.underlying21
  a21 := Tryz.isAgg21
  z21 := Tryz.sizeOf21
  v21 := Tryz.zeroValue21
  t37 := Tryz.underlying160
  a37 := Tryz.isAgg160
  z37 := Tryz.sizeOf160
  v37 := Tryz.zeroValue160
  t46 := Tryz.underlying154
  a46 := Tryz.isAgg154
  z46 := Tryz.sizeOf154
  v46 := Tryz.zeroValue154
  t51 := Tryz.underlying190
  a51 := Tryz.isAgg190
  z51 := Tryz.sizeOf190
  v51 := Tryz.zeroValue190
  t53 := Tryz.underlying159
  a53 := Tryz.isAgg159
  z53 := Tryz.sizeOf159
  v53 := Tryz.zeroValue159
  t75 := Tryz.underlying32
  a75 := Tryz.isAgg32
  z75 := Tryz.sizeOf32
  v75 := Tryz.zeroValue32
  t76 := Tryz.underlying48
  a76 := Tryz.isAgg48
  z76 := Tryz.sizeOf48
  v76 := Tryz.zeroValue48
  t85 := Tryz.underlying199
  a85 := Tryz.isAgg199
  z85 := Tryz.sizeOf199
  v85 := Tryz.zeroValue199
  t127 := Tryz.underlying219
  a127 := Tryz.isAgg219
  z127 := Tryz.sizeOf219
  v127 := Tryz.zeroValue219
  t143 := Tryz.underlying220
  a143 := Tryz.isAgg220
  z143 := Tryz.sizeOf220
  v143 := Tryz.zeroValue220
  t145 := Tryz.underlying222
  a145 := Tryz.isAgg222
  z145 := Tryz.sizeOf222
  v145 := Tryz.zeroValue222
  t167 := Tryz.underlying198
  a167 := Tryz.isAgg198
  z167 := Tryz.sizeOf198
  v167 := Tryz.zeroValue198
  t168 := Tryz.underlying201
  a168 := Tryz.isAgg201
  z168 := Tryz.sizeOf201
  v168 := Tryz.zeroValue201
  t171 := Tryz.underlying213
  a171 := Tryz.isAgg213
  z171 := Tryz.sizeOf213
  v171 := Tryz.zeroValue213
  t173 := Tryz.underlying216
  a173 := Tryz.isAgg216
  z173 := Tryz.sizeOf216
  v173 := Tryz.zeroValue216
  t175 := Tryz.underlying208
  a175 := Tryz.isAgg208
  z175 := Tryz.sizeOf208
  v175 := Tryz.zeroValue208
  t210 := Tryz.underlying211
  a210 := Tryz.isAgg211
  z210 := Tryz.sizeOf211
  v210 := Tryz.zeroValue211
  t212 := Tryz.underlying224
  a212 := Tryz.isAgg224
  z212 := Tryz.sizeOf224
  v212 := Tryz.zeroValue224
  t213 := Tryz.underlying225
  a213 := Tryz.isAgg225
  z213 := Tryz.sizeOf225
  t232 := Tryz.underlying228
  a232 := Tryz.isAgg228
  z232 := Tryz.sizeOf228
  v232 := Tryz.zeroValue228
  t233 := Tryz.underlying229
  a233 := Tryz.isAgg229
  z233 := Tryz.sizeOf229
  v233 := Tryz.zeroValue229
  g15 := by kernel_rfl
  g16 := by kernel_rfl
  g17 := by kernel_rfl
  g18 := by kernel_rfl
  g19 := by kernel_rfl
  t80 := Tryz.underlying105
  a80 := Tryz.isAgg105
  z80 := Tryz.sizeOf105
  v80 := Tryz.zeroValue105
  i0 := by kernel_rfl
  i2 := by kernel_rfl
  i3 := by kernel_rfl
  i4 := by kernel_rfl
  i5 := by kernel_rfl
  i9 := by kernel_rfl
  i20 := by kernel_rfl
  i21 := by kernel_rfl
  i37 := by kernel_rfl
  i46 := by kernel_rfl
  i51 := by kernel_rfl
  i53 := by kernel_rfl
  i75 := by kernel_rfl
  i76 := by kernel_rfl
  i80 := by kernel_rfl
  i85 := by kernel_rfl
  i127 := by kernel_rfl
  i143 := by kernel_rfl
  i145 := by kernel_rfl
  i167 := by kernel_rfl
  i168 := by kernel_rfl
  i171 := by kernel_rfl
  i173 := by kernel_rfl
  i175 := by kernel_rfl
  i210 := by kernel_rfl
  i212 := by kernel_rfl
  i232 := by kernel_rfl
  i233 := by kernel_rfl
  m15 := by kernel_rfl
  m16 := by kernel_rfl
  m17 := by kernel_rfl
  m18 := by kernel_rfl
  m19 := by kernel_rfl
  c0 := by kernel_rfl
  c2 := by kernel_rfl
  c3 := by kernel_rfl
  c4 := by kernel_rfl
  c5 := by kernel_rfl
  c9 := by kernel_rfl
  c20 := by kernel_rfl
  c21 := by kernel_rfl
  c37 := by kernel_rfl
  c46 := by kernel_rfl
  c51 := by kernel_rfl
  c53 := by kernel_rfl
  c75 := by kernel_rfl
  c76 := by kernel_rfl
  c80 := by kernel_rfl
  c85 := by kernel_rfl
  c127 := by kernel_rfl
  c143 := by kernel_rfl
  c145 := by kernel_rfl
  c167 := by kernel_rfl
  c168 := by kernel_rfl
  c171 := by kernel_rfl
  c173 := by kernel_rfl
  c175 := by kernel_rfl
  c210 := by kernel_rfl
  c212 := by kernel_rfl
  c213 := by kernel_rfl
  c232 := by kernel_rfl
  c233 := by kernel_rfl }
open Go.RowKit in
/-- strconv.Atoi, AT EVERY STRING THAT SPELLS AN int ('Lib.atoiAll .. = .ok v'; of whatever length: leading zeros count): v, AND NO ERROR. The world: as it was, or with the one new row that '[]byte(..)' lays. (LAID: no walk: one application.) -/
theorem Tryz.strconv_Atoi_ok (s : ByteArray) (hmax : s.size ≤ 9223372036854775806) (v : Int) (h : Lib.atoiAll s.data.toList = .ok v) (w : World) :
    Calls Tryz.prog 66 #[.string s] w fun e w' => e = .returned (.tuple #[.int .i64 v, .nilIface]) ∧ (w' = w ∨ ∃ t, w' = Lib.bytesWorld w 5 t) := Any.strconv_Atoi_ok Tryz.laysC172 s hmax v h w
open Go.RowKit in
theorem Tryz.strconv_Atoi_syntax_var (s : ByteArray) (hlim : s.size ≤ 281474976710656) (h1 : ∀ v, Lib.atoiAll s.data.toList ≠ .ok v) (h2 : Lib.atoiAll s.data.toList ≠ .range) (tp : TypeId) (p : Value) (w : World) (hvar : w.var? Tryz.prog "strconv.ErrSyntax" = some #[.iface tp p]) :
    Calls Tryz.prog 66 #[.string s] w fun e w' => ∃ N, e = .returned (.tuple #[.int .i64 0, .iface 201 (.pointer (some ⟨N, 0, none⟩))]) ∧ w.heap.size ≤ N ∧ w'.heap[N]? = some (.cells #[.string ⟨#[65, 116, 111, 105]⟩, .string s, .iface tp p] 211 (0, 0)) ∧ Below w.heap.size w w' := by
  cases h : Lib.atoiAll s.data.toList with
  | ok v => exact absurd h (h1 v)
  | range => exact absurd h h2
  | _ => exact Any.strconv_Atoi_syntax_var Tryz.laysC172 s hlim h tp p w hvar
open Go.RowKit in
theorem Tryz.strconv_Atoi_range_var (s : ByteArray) (hlim : s.size ≤ 281474976710656) (h : Lib.atoiAll s.data.toList = .range) (tp : TypeId) (p : Value) (w : World) (hvar : w.var? Tryz.prog "strconv.ErrRange" = some #[.iface tp p]) :
    Calls Tryz.prog 66 #[.string s] w fun e w' => ∃ N, e = .returned (.tuple #[.int .i64 (Lib.atoiSat s.data.toList), .iface 201 (.pointer (some ⟨N, 0, none⟩))]) ∧ w.heap.size ≤ N ∧ w'.heap[N]? = some (.cells #[.string ⟨#[65, 116, 111, 105]⟩, .string s, .iface tp p] 211 (0, 0)) ∧ Below w.heap.size w w' := Any.strconv_Atoi_range_var Tryz.laysC172 s hlim h tp p w hvar
def Tryz.lays152_ren : Go.Shelf.Ren := ⟨fun | 152 => 94 | 137 => 25 | 119 => 115 | 224 => 116 | 225 => 117 | 217 => 55 | 266 => 93 | n => n, fun | 9 => 9 | 21 => 21 | 3 => 3 | 4 => 4 | 5 => 5 | 0 => 0 | 46 => 154 | n => n, fun | n => n⟩
theorem Tryz.lays152 : Go.Proofs.Lays.n152 Tryz.prog Tryz.lays152_ren := {
  mixed := by kernel_rfl
  f119 := Tryz.func115.trans (congrArg some (by kernel_rfl))
  f137 := Tryz.func25.trans (congrArg some (by kernel_rfl))
  f152 := Tryz.func94.trans (congrArg some (by kernel_rfl))
  f217 := Tryz.func55.trans (congrArg some (by kernel_rfl))
  f224 := Tryz.func116.trans (congrArg some (by kernel_rfl))
  f225 := Tryz.func117.trans (congrArg some (by kernel_rfl))
  f266 := Tryz.func93.trans (congrArg some (by kernel_rfl))
  t0 := Tryz.underlying0
  a0 := Tryz.isAgg0
  z0 := Tryz.sizeOf0
  v0 := Tryz.zeroValue0
  t3 := Tryz.underlying3
  a3 := Tryz.isAgg3
  z3 := Tryz.sizeOf3
  v3 := Tryz.zeroValue3
  t4 := Tryz.underlying4
  a4 := Tryz.isAgg4
  z4 := Tryz.sizeOf4
  v4 := Tryz.zeroValue4
  t5 := Tryz.underlying5
  a5 := Tryz.isAgg5
  z5 := Tryz.sizeOf5
  v5 := Tryz.zeroValue5
  t9 := Tryz.underlying9
  a9 := Tryz.isAgg9
  z9 := Tryz.sizeOf9
  v9 := Tryz.zeroValue9
  t21 := Tryz.underlying21
  a21 := Tryz.isAgg21
  z21 := Tryz.sizeOf21
  v21 := Tryz.zeroValue21
  t46 := Tryz.underlying154
  a46 := Tryz.isAgg154
  z46 := Tryz.sizeOf154
  v46 := Tryz.zeroValue154 }
open Go.RowKit Go.Lib in
theorem Tryz.strings_IndexRune_ascii (s : ByteArray) (r : Int) (w : World) (h0 : 0 ≤ r) (h1 : r < 128) :
    Calls Tryz.prog 94 #[.string s, .int .i32 r] w fun e w' => e = .returned (.int .i64 (Lib.indexByte s.data.toList r.toNat.toUInt8)) ∧ w' = w := Any.strings_IndexRune_ascii Tryz.lays152 s r w h0 h1
def Tryz.lays226_ren : Go.Shelf.Ren := ⟨fun | 226 => 95 | n => n, fun | 3 => 3 | 4 => 4 | n => n, fun | n => n⟩
theorem Tryz.lays226 : Go.Proofs.Lays.n226 Tryz.prog Tryz.lays226_ren := {
  mixed := by kernel_rfl
  f226 := Tryz.func95.trans (congrArg some (by kernel_rfl))
  t3 := Tryz.underlying3
  a3 := Tryz.isAgg3
  z3 := Tryz.sizeOf3
  v3 := Tryz.zeroValue3
  t4 := Tryz.underlying4
  a4 := Tryz.isAgg4
  z4 := Tryz.sizeOf4
  v4 := Tryz.zeroValue4 }
open Go.RowKit Go.Lib in
theorem Tryz.strings_shouldUseASCIISet (n : Int) (w : World) :
    Calls Tryz.prog 95 #[.int .i64 n] w fun e w' => e = .returned (.bool (decide (8 < n))) ∧ w' = w := Any.strings_shouldUseASCIISet Tryz.lays226 n w
def Tryz.lays153_ren : Go.Shelf.Ren := ⟨fun | 153 => 57 | 152 => 94 | 226 => 95 | 227 => 96 | 228 => 97 | 137 => 25 | 119 => 115 | 224 => 116 | 225 => 117 | 217 => 55 | 266 => 93 | n => n, fun | 9 => 9 | 3 => 3 | 4 => 4 | 5 => 5 | 21 => 21 | 117 => 176 | 116 => 175 | 0 => 0 | 46 => 154 | 124 => 197 | n => n, fun | n => n⟩
theorem Tryz.lays153 : Go.Proofs.Lays.n153 Tryz.prog Tryz.lays153_ren := {
  mixed := by kernel_rfl
  f119 := Tryz.func115.trans (congrArg some (by kernel_rfl))
  f137 := Tryz.func25.trans (congrArg some (by kernel_rfl))
  f152 := Tryz.func94.trans (congrArg some (by kernel_rfl))
  f153 := Tryz.func57.trans (congrArg some (by kernel_rfl))
  f217 := Tryz.func55.trans (congrArg some (by kernel_rfl))
  f224 := Tryz.func116.trans (congrArg some (by kernel_rfl))
  f225 := Tryz.func117.trans (congrArg some (by kernel_rfl))
  f226 := Tryz.func95.trans (congrArg some (by kernel_rfl))
  f227 := Tryz.func96.trans (congrArg some (by kernel_rfl))
  f228 := Tryz.func97.trans (congrArg some (by kernel_rfl))
  f266 := Tryz.func93.trans (congrArg some (by kernel_rfl))
  t0 := Tryz.underlying0
  a0 := Tryz.isAgg0
  z0 := Tryz.sizeOf0
  v0 := Tryz.zeroValue0
  t3 := Tryz.underlying3
  a3 := Tryz.isAgg3
  z3 := Tryz.sizeOf3
  v3 := Tryz.zeroValue3
  t4 := Tryz.underlying4
  a4 := Tryz.isAgg4
  z4 := Tryz.sizeOf4
  v4 := Tryz.zeroValue4
  t5 := Tryz.underlying5
  a5 := Tryz.isAgg5
  z5 := Tryz.sizeOf5
  v5 := Tryz.zeroValue5
  t9 := Tryz.underlying9
  a9 := Tryz.isAgg9
  z9 := Tryz.sizeOf9
  v9 := Tryz.zeroValue9
  t21 := Tryz.underlying21
  a21 := Tryz.isAgg21
  z21 := Tryz.sizeOf21
  v21 := Tryz.zeroValue21
  t46 := Tryz.underlying154
  a46 := Tryz.isAgg154
  z46 := Tryz.sizeOf154
  v46 := Tryz.zeroValue154
  t116 := Tryz.underlying175
  a116 := Tryz.isAgg175
  z116 := Tryz.sizeOf175
  t117 := Tryz.underlying176
  a117 := Tryz.isAgg176
  z117 := Tryz.sizeOf176
  v117 := Tryz.zeroValue176
  t124 := Tryz.underlying197
  a124 := Tryz.isAgg197
  z124 := Tryz.sizeOf197
  v124 := Tryz.zeroValue197 }
open Go.RowKit Go.Lib in
theorem Tryz.strings_IndexAny_long (hv116 : ∀ w, (zeroValue 175).run Tryz.prog w = .ok (.agg (Array.replicate 256 (.bool false))) w) (s chars : ByteArray) (w : World) (h2 : 2 ≤ chars.size) (h8 : 8 < s.size) (hs : s.size < 4294967281) (hcs : chars.size < 4294967281) (hascii : ∀ (j : Nat) b, chars.data.toList[j]? = some b → b.toNat < 128) :
    Calls Tryz.prog 57 #[.string s, .string chars] w fun e w' => e = .returned (.int .i64 (Lib.indexAny s.data.toList chars.data.toList)) ∧ w' = ((w.alloc (.cells (Lib.setCells chars.data.toList) 175)).alloc (.cells (Lib.setCells chars.data.toList) 175)) := Any.strings_IndexAny_long Tryz.lays153 hv116 (by kernel_rfl) s chars w h2 h8 hs hcs hascii
def Tryz.lays197_ren : Go.Shelf.Ren := ⟨fun | 197 => 54 | 260 => 92 | n => n, fun | 9 => 9 | 21 => 21 | 3 => 3 | 4 => 4 | 5 => 5 | 105 => 111 | 119 => 150 | 0 => 0 | 46 => 154 | 139 => 153 | 138 => 152 | n => n, fun | 3 => 1 | 4 => 2 | n => n⟩
theorem Tryz.lays197 : Go.Proofs.Lays.n197 Tryz.prog Tryz.lays197_ren := {
  mixed := by kernel_rfl
  f197 := Tryz.func54.trans (congrArg some (by kernel_rfl))
  f260 := Tryz.func92.trans (congrArg some (by kernel_rfl))
  t0 := Tryz.underlying0
  a0 := Tryz.isAgg0
  z0 := Tryz.sizeOf0
  v0 := Tryz.zeroValue0
  t3 := Tryz.underlying3
  a3 := Tryz.isAgg3
  z3 := Tryz.sizeOf3
  v3 := Tryz.zeroValue3
  t4 := Tryz.underlying4
  a4 := Tryz.isAgg4
  z4 := Tryz.sizeOf4
  v4 := Tryz.zeroValue4
  t5 := Tryz.underlying5
  a5 := Tryz.isAgg5
  z5 := Tryz.sizeOf5
  v5 := Tryz.zeroValue5
  t9 := Tryz.underlying9
  a9 := Tryz.isAgg9
  z9 := Tryz.sizeOf9
  v9 := Tryz.zeroValue9
  t21 := Tryz.underlying21
  a21 := Tryz.isAgg21
  z21 := Tryz.sizeOf21
  v21 := Tryz.zeroValue21
  t46 := Tryz.underlying154
  a46 := Tryz.isAgg154
  z46 := Tryz.sizeOf154
  v46 := Tryz.zeroValue154
  t105 := Tryz.underlying111
  a105 := Tryz.isAgg111
  z105 := Tryz.sizeOf111
  v105 := Tryz.zeroValue111
  t119 := Tryz.underlying150
  a119 := Tryz.isAgg150
  z119 := Tryz.sizeOf150
  t138 := Tryz.underlying152
  a138 := Tryz.isAgg152
  z138 := Tryz.sizeOf152
  v138 := Tryz.zeroValue152
  t139 := Tryz.underlying153
  a139 := Tryz.isAgg153
  z139 := Tryz.sizeOf153
  v139 := Tryz.zeroValue153
  g3 := by kernel_rfl
  g4 := by kernel_rfl }
open Go.RowKit Go.Lib in
/-- **unicode/utf8.DecodeRuneInString AT EVERY STRING.** (LAID: no walk: one application.) -/
theorem Tryz.utf8_DecodeRuneInString (s : ByteArray) (w : World) (hT : Lib.Utf8Tabs 1 2 w) :
    Calls Tryz.prog 54 #[.string s] w fun e w' => e = .returned (.tuple #[.int .i32 (Lib.decodeGo s).1, .int .i64 (Lib.decodeGo s).2]) ∧ Below w.heap.size w w' := Any.utf8_DecodeRuneInString Tryz.lays197 s w hT
def Tryz.lays196_ren : Go.Shelf.Ren := ⟨fun | 196 => 39 | 259 => 82 | n => n, fun | 9 => 9 | 4 => 4 | 3 => 3 | 5 => 5 | 12 => 12 | 119 => 150 | 0 => 0 | 46 => 154 | 139 => 153 | 138 => 152 | 53 => 159 | n => n, fun | 3 => 1 | 4 => 2 | n => n⟩
theorem Tryz.lays196 : Go.Proofs.Lays.n196 Tryz.prog Tryz.lays196_ren := {
  mixed := by kernel_rfl
  f196 := Tryz.func39.trans (congrArg some (by kernel_rfl))
  f259 := Tryz.func82.trans (congrArg some (by kernel_rfl))
  t0 := Tryz.underlying0
  a0 := Tryz.isAgg0
  z0 := Tryz.sizeOf0
  v0 := Tryz.zeroValue0
  t3 := Tryz.underlying3
  a3 := Tryz.isAgg3
  z3 := Tryz.sizeOf3
  v3 := Tryz.zeroValue3
  t4 := Tryz.underlying4
  a4 := Tryz.isAgg4
  z4 := Tryz.sizeOf4
  v4 := Tryz.zeroValue4
  t5 := Tryz.underlying5
  a5 := Tryz.isAgg5
  z5 := Tryz.sizeOf5
  v5 := Tryz.zeroValue5
  t9 := Tryz.underlying9
  a9 := Tryz.isAgg9
  z9 := Tryz.sizeOf9
  v9 := Tryz.zeroValue9
  t12 := Tryz.underlying12
  a12 := Tryz.isAgg12
  z12 := Tryz.sizeOf12
  v12 := Tryz.zeroValue12
  t46 := Tryz.underlying154
  a46 := Tryz.isAgg154
  z46 := Tryz.sizeOf154
  v46 := Tryz.zeroValue154
  t53 := Tryz.underlying159
  a53 := Tryz.isAgg159
  z53 := Tryz.sizeOf159
  v53 := Tryz.zeroValue159
  t119 := Tryz.underlying150
  a119 := Tryz.isAgg150
  z119 := Tryz.sizeOf150
  t138 := Tryz.underlying152
  a138 := Tryz.isAgg152
  z138 := Tryz.sizeOf152
  v138 := Tryz.zeroValue152
  t139 := Tryz.underlying153
  a139 := Tryz.isAgg153
  z139 := Tryz.sizeOf153
  v139 := Tryz.zeroValue153
  g3 := by kernel_rfl
  g4 := by kernel_rfl }
open Go.RowKit Go.Lib in
theorem Tryz.utf8_ValidString (s : ByteArray) (w : World) (hs : s.size ≤ 9223372036854775807) (hT : Lib.Utf8Tabs 1 2 w) :
    Calls Tryz.prog 39 #[.string s] w fun e w' => e = .returned (.bool (Lib.validD s.data.toList)) ∧ Below w.heap.size w w' := Any.utf8_ValidString Tryz.lays196 s w hs hT
end Go.Proofs
