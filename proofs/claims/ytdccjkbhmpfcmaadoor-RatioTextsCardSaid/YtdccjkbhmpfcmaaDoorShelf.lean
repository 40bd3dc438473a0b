/-
  DERIVED: THE SHELF's CONTRACTS AT THIS DUMP, IN PLAIN WORDS (tools/lay-plain.mjs out of 'TrydShelf.lean', which tools/lay-shelf.mjs wrote): THE SAME DECLARATIONS UNDER THE SAME NAMES: 'import', 'namespace', 'open', 'def', 'theorem' AND NOTHING ELSE: no command of the shelf's: FOR A HAND-IN. Each laying: the table of numbers ('.._ren') and one theorem, a field a fact of the dump's own or the kernel's comparison; each contract: ONE APPLICATION.
-/
import Derived.Shelf.Small.Bits
import Derived.Shelf.Strconv.Itoa0
import Derived.Shelf.Strconv.Itoa1
import Derived.Shelf.LaysM
import Derived.Shelf.Strconv.Itoa2
import Derived.Shelf.Strconv.Itoa3
import Derived.Shelf.Strconv.Itoa4
import Derived.Shelf.Strconv.ParseIntEmpty
import Derived.Shelf.Strconv.Clone
import Derived.Shelf.Strconv.SyntaxError
import Derived.Shelf.LaysC
import Derived.Shelf.Strconv.ToError
import Derived.Shelf.Strconv.Lower
import Derived.Shelf.Strconv.ParseUint10
import Derived.Shelf.Strconv.ParseUint10Empty
import Derived.Shelf.Strconv.ParseUint10Any
import Derived.Shelf.Strconv.ParseInt10
import Derived.Shelf.Strconv.RangeError
import Derived.Shelf.Strconv.ToErrorRange
import Derived.Shelf.Strconv.ParseUintEmpty
import Derived.Shelf.Strconv.ParseUint10b64
import Derived.Shelf.Strconv.ParseUint10b32
import Derived.Shelf.Strconv.ParseUint10b16
import Derived.Shelf.Strconv.ParseUint10b8
import Derived.Shelf.Strconv.ParseUint10At
import Derived.Shelf.Strconv.ParseInt10At64
import Derived.Shelf.Strconv.ParseInt10At32
import Derived.Shelf.Strconv.ParseInt10At16
import Derived.Shelf.Strconv.ParseInt10At8
import Derived.Shelf.Strconv.ParseInt10All
import Derived.Shelf.Strconv.ParseIntPublic10
import Derived.Shelf.Strconv.ErrVarParseInt
import Derived.Shelf.Strings.Search1
import Derived.Shelf.Strings.Search2
import Derived.Shelf.Strings.Cut
import Derived.Shelf.Strings.Shaped
import Derived.Shelf.Bits.Mul64
import Derived.Test.YtdccjkbhmpfcmaaDoorProg
namespace Go.Proofs
open Go.Shelf
def Tryd.laysM173_ren : Go.Shelf.Ren := ⟨fun | 173 => 47 | 246 => 56 | 283 => 62 | 284 => 63 | 285 => 64 | 286 => 65 | 129 => 72 | 317 => 73 | 318 => 74 | 319 => 75 | 320 => 76 | 337 => 86 | 338 => 87 | n => n, fun | 2 => 2 | 3 => 3 | 9 => 9 | 4 => 4 | 171 => 69 | 0 => 0 | 53 => 46 | 37 => 63 | 5 => 5 | 173 => 71 | 212 => 82 | 51 => 83 | 20 => 20 | 213 => 84 | 46 => 66 | 232 => 100 | 233 => 101 | n => n, fun | 17 => 2 | 18 => 6 | 19 => 7 | n => n⟩
theorem Tryd.laysM173 : Go.Proofs.LaysM.n173 Tryd.prog Tryd.laysM173_ren := {
  mixed := by kernel_rfl
  f129 := Tryd.func72.trans (congrArg some (by kernel_rfl))
  f173 := Tryd.func47.trans (congrArg some (by kernel_rfl))
  f246 := Tryd.func56.trans (congrArg some (by kernel_rfl))
  f283 := Tryd.func62.trans (congrArg some (by kernel_rfl))
  f284 := Tryd.func63.trans (congrArg some (by kernel_rfl))
  f285 := Tryd.func64.trans (congrArg some (by kernel_rfl))
  f286 := Tryd.func65.trans (congrArg some (by kernel_rfl))
  f317 := Tryd.func73.trans (congrArg some (by kernel_rfl))
  f318 := Tryd.func74.trans (congrArg some (by kernel_rfl))
  f319 := Tryd.func75.trans (congrArg some (by kernel_rfl))
  f320 := Tryd.func76.trans (congrArg some (by kernel_rfl))
  f337 := Tryd.func86.trans (congrArg some (by kernel_rfl))
  f338 := Tryd.func87.trans (congrArg some (by kernel_rfl))
  t0 := Tryd.underlying0
  a0 := Tryd.isAgg0
  z0 := Tryd.sizeOf0
  v0 := Tryd.zeroValue0
  t2 := Tryd.underlying2
  a2 := Tryd.isAgg2
  z2 := Tryd.sizeOf2
  v2 := Tryd.zeroValue2
  t3 := Tryd.underlying3
  a3 := Tryd.isAgg3
  z3 := Tryd.sizeOf3
  v3 := Tryd.zeroValue3
  t4 := Tryd.underlying4
  a4 := Tryd.isAgg4
  z4 := Tryd.sizeOf4
  v4 := Tryd.zeroValue4
  t5 := Tryd.underlying5
  a5 := Tryd.isAgg5
  z5 := Tryd.sizeOf5
  v5 := Tryd.zeroValue5
  t9 := Tryd.underlying9
  a9 := Tryd.isAgg9
  z9 := Tryd.sizeOf9
  v9 := Tryd.zeroValue9
  t20 := Tryd.underlying20
  a20 := Tryd.isAgg20
  z20 := Tryd.sizeOf20
  v20 := Tryd.zeroValue20
  t37 := Tryd.underlying63
  a37 := Tryd.isAgg63
  z37 := Tryd.sizeOf63
  v37 := Tryd.zeroValue63
  t46 := Tryd.underlying66
  a46 := Tryd.isAgg66
  z46 := Tryd.sizeOf66
  v46 := Tryd.zeroValue66
  t51 := Tryd.underlying83
  a51 := Tryd.isAgg83
  z51 := Tryd.sizeOf83
  v51 := Tryd.zeroValue83
  t53 := Tryd.underlying46
  a53 := Tryd.isAgg46
  z53 := Tryd.sizeOf46
  v53 := Tryd.zeroValue46
  t171 := Tryd.underlying69
  a171 := Tryd.isAgg69
  z171 := Tryd.sizeOf69
  v171 := Tryd.zeroValue69
  t173 := Tryd.underlying71
  a173 := Tryd.isAgg71
  z173 := Tryd.sizeOf71
  v173 := Tryd.zeroValue71
  t212 := Tryd.underlying82
  a212 := Tryd.isAgg82
  z212 := Tryd.sizeOf82
  v212 := Tryd.zeroValue82
  t213 := Tryd.underlying84
  a213 := Tryd.isAgg84
  z213 := Tryd.sizeOf84
  t232 := Tryd.underlying100
  a232 := Tryd.isAgg100
  z232 := Tryd.sizeOf100
  v232 := Tryd.zeroValue100
  t233 := Tryd.underlying101
  a233 := Tryd.isAgg101
  z233 := Tryd.sizeOf101
  v233 := Tryd.zeroValue101
  g17 := by kernel_rfl
  g18 := by kernel_rfl
  g19 := by kernel_rfl
  i0 := by kernel_rfl
  i2 := by kernel_rfl
  i3 := by kernel_rfl
  i4 := by kernel_rfl
  i5 := by kernel_rfl
  i9 := by kernel_rfl
  i20 := by kernel_rfl
  i37 := by kernel_rfl
  i46 := by kernel_rfl
  i51 := by kernel_rfl
  i53 := by kernel_rfl
  i171 := by kernel_rfl
  i173 := by kernel_rfl
  i212 := by kernel_rfl
  i232 := by kernel_rfl
  i233 := by kernel_rfl
  m17 := by kernel_rfl
  m18 := by kernel_rfl
  m19 := by kernel_rfl }
open Go.RowKit Go.Sort Go.Lib in
/-- strconv.FormatInt: "FormatInt returns the string representation of i in the given base": AT BASE 10: i's decimal numeral, for every int64. (LAID: no walk: one application.) -/
theorem Tryd.strconv_FormatInt_10 (n : Int) (h0 : -9223372036854775808 ≤ n) (h1 : n ≤ 9223372036854775807) (w : World) (htab : Lib.TabIs Tryd.prog w "internal/strconv.uint64pow10" .u64 Lib.pow10Tab) :
    Calls Tryd.prog 47 #[.int .i64 n, .int .i64 10] w fun e w' => e = .returned (.string ⟨(Lib.itoa n).toArray⟩) ∧ ∃ k os, w' = grow (w.drewN k) os := Any.strconv_FormatInt_10 Tryd.laysM173 n h0 h1 w htab
def Tryd.laysC174_ren : Go.Shelf.Ren := ⟨fun | 174 => 50 | 247 => 58 | 245 => 59 | 287 => 67 | 279 => 68 | 280 => 69 | 281 => 70 | 282 => 71 | 321 => 81 | 322 => 82 | 316 => 83 | 171 => 85 | 205 => 84 | 243 => 90 | 246 => 56 | 283 => 62 | 284 => 63 | 285 => 64 | 286 => 65 | 129 => 72 | 317 => 73 | 318 => 74 | 319 => 75 | 320 => 76 | 337 => 86 | 338 => 87 | n => n, fun | 9 => 9 | 3 => 3 | 2 => 2 | 75 => 54 | 85 => 55 | 4 => 4 | 167 => 74 | 5 => 5 | 53 => 46 | 175 => 75 | 46 => 66 | 168 => 77 | 37 => 63 | 0 => 0 | 210 => 91 | 21 => 21 | 127 => 96 | 145 => 99 | 143 => 97 | 171 => 69 | 173 => 71 | 212 => 82 | 51 => 83 | 20 => 20 | 213 => 84 | 232 => 100 | 233 => 101 | 80 => 102 | n => n, fun | 15 => 4 | 16 => 5 | 17 => 2 | 18 => 6 | 19 => 7 | n => n⟩
theorem Tryd.laysC174 : Go.Proofs.LaysC.n174 Tryd.prog Tryd.laysC174_ren := {
  mixed := by kernel_rfl
  f129 := Tryd.func72.trans (congrArg some (by kernel_rfl))
  f171 := Tryd.func85.trans (congrArg some (by kernel_rfl))
  f174 := Tryd.func50.trans (congrArg some (by kernel_rfl))
  f205 := Tryd.func84.trans (congrArg some (by kernel_rfl))
  f243 := Tryd.func90.trans (congrArg some (by kernel_rfl))
  f245 := Tryd.func59.trans (congrArg some (by kernel_rfl))
  f246 := Tryd.func56.trans (congrArg some (by kernel_rfl))
  f247 := Tryd.func58.trans (congrArg some (by kernel_rfl))
  f279 := Tryd.func68.trans (congrArg some (by kernel_rfl))
  f280 := Tryd.func69.trans (congrArg some (by kernel_rfl))
  f281 := Tryd.func70.trans (congrArg some (by kernel_rfl))
  f282 := Tryd.func71.trans (congrArg some (by kernel_rfl))
  f283 := Tryd.func62.trans (congrArg some (by kernel_rfl))
  f284 := Tryd.func63.trans (congrArg some (by kernel_rfl))
  f285 := Tryd.func64.trans (congrArg some (by kernel_rfl))
  f286 := Tryd.func65.trans (congrArg some (by kernel_rfl))
  f287 := Tryd.func67.trans (congrArg some (by kernel_rfl))
  f316 := Tryd.func83.trans (congrArg some (by kernel_rfl))
  f317 := Tryd.func73.trans (congrArg some (by kernel_rfl))
  f318 := Tryd.func74.trans (congrArg some (by kernel_rfl))
  f319 := Tryd.func75.trans (congrArg some (by kernel_rfl))
  f320 := Tryd.func76.trans (congrArg some (by kernel_rfl))
  f321 := Tryd.func81.trans (congrArg some (by kernel_rfl))
  f322 := Tryd.func82.trans (congrArg some (by kernel_rfl))
  f337 := Tryd.func86.trans (congrArg some (by kernel_rfl))
  f338 := Tryd.func87.trans (congrArg some (by kernel_rfl))
  t0 := Tryd.underlying0
  a0 := Tryd.isAgg0
  z0 := Tryd.sizeOf0
  v0 := Tryd.zeroValue0
  t2 := Tryd.underlying2
  a2 := Tryd.isAgg2
  z2 := Tryd.sizeOf2
  v2 := Tryd.zeroValue2
  t3 := Tryd.underlying3
  a3 := Tryd.isAgg3
  z3 := Tryd.sizeOf3
  v3 := Tryd.zeroValue3
  t4 := Tryd.underlying4
  a4 := Tryd.isAgg4
  z4 := Tryd.sizeOf4
  v4 := Tryd.zeroValue4
  t5 := Tryd.underlying5
  a5 := Tryd.isAgg5
  z5 := Tryd.sizeOf5
  v5 := Tryd.zeroValue5
  t9 := Tryd.underlying9
  a9 := Tryd.isAgg9
  z9 := Tryd.sizeOf9
  v9 := Tryd.zeroValue9
  t20 := Tryd.underlying20
  a20 := Tryd.isAgg20
  z20 := Tryd.sizeOf20
  v20 := Tryd.zeroValue20
  t21 := Tryd.underlying21
  a21 := Tryd.isAgg21
  z21 := Tryd.sizeOf21
  v21 := Tryd.zeroValue21
  t37 := Tryd.underlying63
  a37 := Tryd.isAgg63
  z37 := Tryd.sizeOf63
  v37 := Tryd.zeroValue63
  t46 := Tryd.underlying66
  a46 := Tryd.isAgg66
  z46 := Tryd.sizeOf66
  v46 := Tryd.zeroValue66
  t51 := Tryd.underlying83
  a51 := Tryd.isAgg83
  z51 := Tryd.sizeOf83
  v51 := Tryd.zeroValue83
  t53 := Tryd.underlying46
  a53 := Tryd.isAgg46
  z53 := Tryd.sizeOf46
  v53 := Tryd.zeroValue46
  t75 := Tryd.underlying54
  a75 := Tryd.isAgg54
  z75 := Tryd.sizeOf54
  v75 := Tryd.zeroValue54
  t85 := Tryd.underlying55
  a85 := Tryd.isAgg55
  z85 := Tryd.sizeOf55
  v85 := Tryd.zeroValue55
  t127 := Tryd.underlying96
  a127 := Tryd.isAgg96
  z127 := Tryd.sizeOf96
  v127 := Tryd.zeroValue96
  t143 := Tryd.underlying97
  a143 := Tryd.isAgg97
  z143 := Tryd.sizeOf97
  v143 := Tryd.zeroValue97
  t145 := Tryd.underlying99
  a145 := Tryd.isAgg99
  z145 := Tryd.sizeOf99
  v145 := Tryd.zeroValue99
  t167 := Tryd.underlying74
  a167 := Tryd.isAgg74
  z167 := Tryd.sizeOf74
  v167 := Tryd.zeroValue74
  t168 := Tryd.underlying77
  a168 := Tryd.isAgg77
  z168 := Tryd.sizeOf77
  v168 := Tryd.zeroValue77
  t171 := Tryd.underlying69
  a171 := Tryd.isAgg69
  z171 := Tryd.sizeOf69
  v171 := Tryd.zeroValue69
  t173 := Tryd.underlying71
  a173 := Tryd.isAgg71
  z173 := Tryd.sizeOf71
  v173 := Tryd.zeroValue71
  t175 := Tryd.underlying75
  a175 := Tryd.isAgg75
  z175 := Tryd.sizeOf75
  v175 := Tryd.zeroValue75
  t210 := Tryd.underlying91
  a210 := Tryd.isAgg91
  z210 := Tryd.sizeOf91
  v210 := Tryd.zeroValue91
  t212 := Tryd.underlying82
  a212 := Tryd.isAgg82
  z212 := Tryd.sizeOf82
  v212 := Tryd.zeroValue82
  t213 := Tryd.underlying84
  a213 := Tryd.isAgg84
  z213 := Tryd.sizeOf84
  t232 := Tryd.underlying100
  a232 := Tryd.isAgg100
  z232 := Tryd.sizeOf100
  v232 := Tryd.zeroValue100
  t233 := Tryd.underlying101
  a233 := Tryd.isAgg101
  z233 := Tryd.sizeOf101
  v233 := Tryd.zeroValue101
  g15 := by kernel_rfl
  g16 := by kernel_rfl
  g17 := by kernel_rfl
  g18 := by kernel_rfl
  g19 := by kernel_rfl
  t80 := Tryd.underlying102
  a80 := Tryd.isAgg102
  z80 := Tryd.sizeOf102
  v80 := Tryd.zeroValue102
  i0 := by kernel_rfl
  i2 := by kernel_rfl
  i3 := by kernel_rfl
  i4 := by kernel_rfl
  i5 := by kernel_rfl
  i9 := by kernel_rfl
  i20 := by kernel_rfl
  i21 := by kernel_rfl
  i37 := by kernel_rfl
  i46 := by kernel_rfl
  i51 := by kernel_rfl
  i53 := by kernel_rfl
  i75 := by kernel_rfl
  i80 := by kernel_rfl
  i85 := by kernel_rfl
  i127 := by kernel_rfl
  i143 := by kernel_rfl
  i145 := by kernel_rfl
  i167 := by kernel_rfl
  i168 := by kernel_rfl
  i171 := by kernel_rfl
  i173 := by kernel_rfl
  i175 := by kernel_rfl
  i210 := by kernel_rfl
  i212 := by kernel_rfl
  i232 := by kernel_rfl
  i233 := by kernel_rfl
  m15 := by kernel_rfl
  m16 := by kernel_rfl
  m17 := by kernel_rfl
  m18 := by kernel_rfl
  m19 := by kernel_rfl
  c0 := by kernel_rfl
  c2 := by kernel_rfl
  c3 := by kernel_rfl
  c4 := by kernel_rfl
  c5 := by kernel_rfl
  c9 := by kernel_rfl
  c20 := by kernel_rfl
  c21 := by kernel_rfl
  c37 := by kernel_rfl
  c46 := by kernel_rfl
  c51 := by kernel_rfl
  c53 := by kernel_rfl
  c75 := by kernel_rfl
  c80 := by kernel_rfl
  c85 := by kernel_rfl
  c127 := by kernel_rfl
  c143 := by kernel_rfl
  c145 := by kernel_rfl
  c167 := by kernel_rfl
  c168 := by kernel_rfl
  c171 := by kernel_rfl
  c173 := by kernel_rfl
  c175 := by kernel_rfl
  c210 := by kernel_rfl
  c212 := by kernel_rfl
  c213 := by kernel_rfl
  c232 := by kernel_rfl
  c233 := by kernel_rfl }
open Go.RowKit in
/-- strconv.ParseInt(s, 10, 64), AT EVERY STRING THAT SPELLS AN int64 ('Lib.parseIntB 64 s.data.toList = .ok v'): v, AND NO ERROR. (LAID: no walk: one application.) -/
theorem Tryd.strconv_ParseInt_10_at64_ok (s : ByteArray) (hmax : s.size ≤ 9223372036854775806) (v : Int) (h : Lib.parseIntB 64 s.data.toList = .ok v) (w : World) :
    Calls Tryd.prog 50 #[.string s, .int .i64 10, .int .i64 64] w fun e w' => e = .returned (.tuple #[.int .i64 v, .nilIface]) ∧ (w' = w ∨ ∃ t, w' = Lib.bytesWorld w 5 t) := Any.strconv_ParseInt_10_at64_ok Tryd.laysC174 s hmax v h w
open Go.RowKit in
/-- strconv.ParseInt(s, 10, 64), AT EVERY STRING THAT IS NO DECIMAL NUMERAL: 0, AND AN ERROR THAT IS NOT nil: a *NumError in a new block N: {Func: "ParseInt", Num: s's bytes, Err: what the variable ErrSyntax holds}. Of what was there nothing has turned. (LAID: no walk: one application.) -/
theorem Tryd.strconv_ParseInt_10_at64_syntax (s : ByteArray) (hlim : s.size ≤ 281474976710656) (h : Lib.parseIntB 64 s.data.toList = Lib.parseIntB 64 []) (ev : Value) (w : World) (hv : w.cell? ⟨4, 0, none⟩ = some ev) (hev : ev = .nilIface ∨ ∃ te pe, ev = .iface te pe) :
    Calls Tryd.prog 50 #[.string s, .int .i64 10, .int .i64 64] w fun e w' => ∃ N, e = .returned (.tuple #[.int .i64 (0), .iface 77 (.pointer (some ⟨N, 0, none⟩))]) ∧ w.heap.size ≤ N ∧ w'.heap[N]? = some (.cells #[.string ⟨#[80, 97, 114, 115, 101, 73, 110, 116]⟩, .string s, ev] 91 (0, 0)) ∧ Below w.heap.size w w' := Any.strconv_ParseInt_10_at64_syntax Tryd.laysC174 s hlim h ev w hv hev
open Go.RowKit in
/-- strconv.ParseInt(s, 10, 64), AT EVERY NUMERAL THAT NO int64 HOLDS: THE GREATEST OR THE LEAST int64, BY THE SIGN ('Lib.intSat 64'), AND AN ERROR THAT IS NOT nil: a *NumError in a new block N: {Func: "ParseInt", Num: s's bytes, Err: what the variable ErrRange holds}. Of what was there nothing has turned. (LAID: no walk: one application.) -/
theorem Tryd.strconv_ParseInt_10_at64_range (s : ByteArray) (hlim : s.size ≤ 281474976710656) (h : Lib.parseIntB 64 s.data.toList = .range) (ev : Value) (w : World) (hv : w.cell? ⟨5, 0, none⟩ = some ev) (hev : ev = .nilIface ∨ ∃ te pe, ev = .iface te pe) :
    Calls Tryd.prog 50 #[.string s, .int .i64 10, .int .i64 64] w fun e w' => ∃ N, e = .returned (.tuple #[.int .i64 (Lib.intSat 64 s.data.toList), .iface 77 (.pointer (some ⟨N, 0, none⟩))]) ∧ w.heap.size ≤ N ∧ w'.heap[N]? = some (.cells #[.string ⟨#[80, 97, 114, 115, 101, 73, 110, 116]⟩, .string s, ev] 91 (0, 0)) ∧ Below w.heap.size w w' := Any.strconv_ParseInt_10_at64_range Tryd.laysC174 s hlim h ev w hv hev
def Tryd.lays145_ren : Go.Shelf.Ren := ⟨fun | 145 => 49 | 220 => 57 | 219 => 66 | 217 => 77 | 225 => 78 | 224 => 79 | 267 => 80 | 266 => 88 | 314 => 89 | n => n, fun | 9 => 9 | 4 => 4 | 59 => 51 | 3 => 3 | 5 => 5 | 46 => 66 | 146 => 94 | 51 => 83 | n => n, fun | 1 => 3 | n => n⟩
theorem Tryd.lays145 : Go.Proofs.Lays.n145 Tryd.prog Tryd.lays145_ren := {
  mixed := by kernel_rfl
  f145 := Tryd.func49.trans (congrArg some (by kernel_rfl))
  f217 := Tryd.func77.trans (congrArg some (by kernel_rfl))
  f219 := Tryd.func66.trans (congrArg some (by kernel_rfl))
  f220 := Tryd.func57.trans (congrArg some (by kernel_rfl))
  f224 := Tryd.func79.trans (congrArg some (by kernel_rfl))
  f225 := Tryd.func78.trans (congrArg some (by kernel_rfl))
  f266 := Tryd.func88.trans (congrArg some (by kernel_rfl))
  f267 := Tryd.func80.trans (congrArg some (by kernel_rfl))
  f314 := Tryd.func89.trans (congrArg some (by kernel_rfl))
  t3 := Tryd.underlying3
  a3 := Tryd.isAgg3
  z3 := Tryd.sizeOf3
  v3 := Tryd.zeroValue3
  t4 := Tryd.underlying4
  a4 := Tryd.isAgg4
  z4 := Tryd.sizeOf4
  v4 := Tryd.zeroValue4
  t5 := Tryd.underlying5
  a5 := Tryd.isAgg5
  z5 := Tryd.sizeOf5
  v5 := Tryd.zeroValue5
  t9 := Tryd.underlying9
  a9 := Tryd.isAgg9
  z9 := Tryd.sizeOf9
  v9 := Tryd.zeroValue9
  t46 := Tryd.underlying66
  a46 := Tryd.isAgg66
  z46 := Tryd.sizeOf66
  v46 := Tryd.zeroValue66
  t51 := Tryd.underlying83
  a51 := Tryd.isAgg83
  z51 := Tryd.sizeOf83
  v51 := Tryd.zeroValue83
  t59 := Tryd.underlying51
  a59 := Tryd.isAgg51
  z59 := Tryd.sizeOf51
  v59 := Tryd.zeroValue51
  t146 := Tryd.underlying94
  a146 := Tryd.isAgg94
  z146 := Tryd.sizeOf94
  v146 := Tryd.zeroValue94
  g1 := by kernel_rfl }
open Go.RowKit Go.Lib in
/-- strings.Cut: "Cut slices s around the first instance of sep, returning the text before and after sep. The found result reports whether sep appears in s. If sep does not appear in s, cut returns s, "", false.": IT RETURNS 'Lib.cut s sep'; the world is as it was but for the count of draws. (LAID: no walk: one application.) -/
theorem Tryd.strings_Cut (s sep : ByteArray) (m : Int) (w : World) (hs : s.size < 4294967281) (hm : w.cell? ⟨3, 0, none⟩ = some (.int .i64 m)) :
    Calls Tryd.prog 49 #[.string s, .string sep] w fun e w' => e = .returned (.tuple #[.string ⟨(Lib.cut s.data.toList sep.data.toList).1.toArray⟩, .string ⟨(Lib.cut s.data.toList sep.data.toList).2.1.toArray⟩, .bool (Lib.cut s.data.toList sep.data.toList).2.2]) ∧ ∃ n, w' = w.drewN n := Any.strings_Cut Tryd.lays145 s sep m w hs hm
def Tryd.laysM145_ren : Go.Shelf.Ren := ⟨fun | 145 => 49 | 220 => 57 | 219 => 66 | 217 => 77 | 225 => 78 | 224 => 79 | 267 => 80 | 266 => 88 | 314 => 89 | n => n, fun | 9 => 9 | 4 => 4 | 59 => 51 | 3 => 3 | 5 => 5 | 46 => 66 | 146 => 94 | 51 => 83 | n => n, fun | 1 => 3 | n => n⟩
theorem Tryd.laysM145 : Go.Proofs.LaysM.n145 Tryd.prog Tryd.laysM145_ren := {
  mixed := by kernel_rfl
  f145 := Tryd.func49.trans (congrArg some (by kernel_rfl))
  f217 := Tryd.func77.trans (congrArg some (by kernel_rfl))
  f219 := Tryd.func66.trans (congrArg some (by kernel_rfl))
  f220 := Tryd.func57.trans (congrArg some (by kernel_rfl))
  f224 := Tryd.func79.trans (congrArg some (by kernel_rfl))
  f225 := Tryd.func78.trans (congrArg some (by kernel_rfl))
  f266 := Tryd.func88.trans (congrArg some (by kernel_rfl))
  f267 := Tryd.func80.trans (congrArg some (by kernel_rfl))
  f314 := Tryd.func89.trans (congrArg some (by kernel_rfl))
  t3 := Tryd.underlying3
  a3 := Tryd.isAgg3
  z3 := Tryd.sizeOf3
  v3 := Tryd.zeroValue3
  t4 := Tryd.underlying4
  a4 := Tryd.isAgg4
  z4 := Tryd.sizeOf4
  v4 := Tryd.zeroValue4
  t5 := Tryd.underlying5
  a5 := Tryd.isAgg5
  z5 := Tryd.sizeOf5
  v5 := Tryd.zeroValue5
  t9 := Tryd.underlying9
  a9 := Tryd.isAgg9
  z9 := Tryd.sizeOf9
  v9 := Tryd.zeroValue9
  t46 := Tryd.underlying66
  a46 := Tryd.isAgg66
  z46 := Tryd.sizeOf66
  v46 := Tryd.zeroValue66
  t51 := Tryd.underlying83
  a51 := Tryd.isAgg83
  z51 := Tryd.sizeOf83
  v51 := Tryd.zeroValue83
  t59 := Tryd.underlying51
  a59 := Tryd.isAgg51
  z59 := Tryd.sizeOf51
  v59 := Tryd.zeroValue51
  t146 := Tryd.underlying94
  a146 := Tryd.isAgg94
  z146 := Tryd.sizeOf94
  v146 := Tryd.zeroValue94
  g1 := by kernel_rfl
  i3 := by kernel_rfl
  i4 := by kernel_rfl
  i5 := by kernel_rfl
  i9 := by kernel_rfl
  i46 := by kernel_rfl
  i51 := by kernel_rfl
  i59 := by kernel_rfl
  i146 := by kernel_rfl
  m1 := by kernel_rfl
  s1_3 := fun w h => Go.Proofs.cell_of_shapedOpen_int (zero := #[.int .i64 0]) (t := 3) h (of_decide_eq_true (by kernel_rfl)) (by kernel_rfl) rfl (by kernel_rfl) (by kernel_rfl) Tryd.underlying3 }
open Go.RowKit Go.Lib in
theorem Tryd.strings_Cut_shaped (s sep : ByteArray) (w : World) (h : w.ShapedOpen Tryd.prog) (hs : s.size < 4294967281) :
    Calls Tryd.prog 49 #[.string s, .string sep] w fun e w' => e = .returned (.tuple #[.string ⟨(Lib.cut s.data.toList sep.data.toList).1.toArray⟩, .string ⟨(Lib.cut s.data.toList sep.data.toList).2.1.toArray⟩, .bool (Lib.cut s.data.toList sep.data.toList).2.2]) ∧ ∃ n, w' = w.drewN n := Any.strings_Cut_shaped Tryd.laysM145 s sep w h hs
def Tryd.lays264_ren : Go.Shelf.Ren := ⟨fun | 264 => 54 | n => n, fun | 53 => 46 | 46 => 66 | n => n, fun | n => n⟩
theorem Tryd.lays264 : Go.Proofs.Lays.n264 Tryd.prog Tryd.lays264_ren := {
  mixed := by kernel_rfl
  f264 := Tryd.func54.trans (congrArg some (by kernel_rfl))
  t46 := Tryd.underlying66
  a46 := Tryd.isAgg66
  z46 := Tryd.sizeOf66
  v46 := Tryd.zeroValue66
  t53 := Tryd.underlying46
  a53 := Tryd.isAgg46
  z53 := Tryd.sizeOf46
  v53 := Tryd.zeroValue46 }
open Go.RowKit Go.Lib in
theorem Tryd.bits_Mul64 (x y : Nat) (hx : x < 18446744073709551616) (hy : y < 18446744073709551616) (w : World) :
    Calls Tryd.prog 54 #[.int .u64 x, .int .u64 y] w fun e w' => e = .returned (.tuple #[.int .u64 ((x * y / 18446744073709551616 : Nat) : Int), .int .u64 ((x * y % 18446744073709551616 : Nat) : Int)]) ∧ w' = w := Any.bits_Mul64 Tryd.lays264 x y hx hy w
end Go.Proofs
