/- More contracts of the shelf at this dump, laid by the kit's command in plain declarations. -/
import Derived.Shelf.Strconv.Atoi
import Derived.Shelf.Strconv.AtoiErrFast
import Derived.Shelf.Strconv.ParseIntEmpty
import Derived.Shelf.Strconv.AtoiFail
import Derived.Shelf.Strconv.Clone
import Derived.Shelf.Strconv.SyntaxError
import Derived.Shelf.LaysC
import Derived.Shelf.Strconv.ToError
import Derived.Shelf.Strconv.Lower
import Derived.Shelf.Strconv.ParseUint10
import Derived.Shelf.Strconv.ParseUint10Empty
import Derived.Shelf.Strconv.ParseUint10Any
import Derived.Shelf.Strconv.ParseInt10
import Derived.Shelf.Strconv.AtoiLong
import Derived.Shelf.Strconv.AtoiInnerAll
import Derived.Shelf.Strconv.RangeError
import Derived.Shelf.Strconv.ToErrorRange
import Derived.Shelf.Strconv.AtoiAll
import Derived.Shelf.Strconv.ErrVarAll
import Derived.Test.YtgfmahfdkiblbaaDoorShelf
namespace Go.Proofs
open Go.Shelf
def Tryd.lays244_ren : Go.Shelf.Ren := ⟨fun | 244 => 63 | 247 => 74 | 287 => 85 | 321 => 90 | 322 => 91 | n => n, fun | 9 => 9 | 3 => 3 | 75 => 73 | 4 => 4 | 5 => 5 | 167 => 87 | 37 => 76 | 0 => 0 | 85 => 88 | 2 => 2 | 53 => 46 | 175 => 101 | 46 => 68 | 21 => 21 | 80 => 115 | n => n, fun | n => n⟩
theorem Tryd.lays244 : Go.Proofs.Lays.n244 Tryd.prog Tryd.lays244_ren := {
  mixed := by kernel_rfl
  f244 := Tryd.func63.trans (congrArg some (by kernel_rfl))
  f247 := Tryd.func74.trans (congrArg some (by kernel_rfl))
  f287 := Tryd.func85.trans (congrArg some (by kernel_rfl))
  f321 := Tryd.func90.trans (congrArg some (by kernel_rfl))
  f322 := Tryd.func91.trans (congrArg some (by kernel_rfl))
  t0 := Tryd.underlying0
  a0 := Tryd.isAgg0
  z0 := Tryd.sizeOf0
  v0 := Tryd.zeroValue0
  t2 := Tryd.underlying2
  a2 := Tryd.isAgg2
  z2 := Tryd.sizeOf2
  v2 := Tryd.zeroValue2
  t3 := Tryd.underlying3
  a3 := Tryd.isAgg3
  z3 := Tryd.sizeOf3
  v3 := Tryd.zeroValue3
  t4 := Tryd.underlying4
  a4 := Tryd.isAgg4
  z4 := Tryd.sizeOf4
  v4 := Tryd.zeroValue4
  t5 := Tryd.underlying5
  a5 := Tryd.isAgg5
  z5 := Tryd.sizeOf5
  v5 := Tryd.zeroValue5
  t9 := Tryd.underlying9
  a9 := Tryd.isAgg9
  z9 := Tryd.sizeOf9
  v9 := Tryd.zeroValue9
  t21 := Tryd.underlying21
  a21 := Tryd.isAgg21
  z21 := Tryd.sizeOf21
  v21 := Tryd.zeroValue21
  t37 := Tryd.underlying76
  a37 := Tryd.isAgg76
  z37 := Tryd.sizeOf76
  v37 := Tryd.zeroValue76
  t46 := Tryd.underlying68
  a46 := Tryd.isAgg68
  z46 := Tryd.sizeOf68
  v46 := Tryd.zeroValue68
  t53 := Tryd.underlying46
  a53 := Tryd.isAgg46
  z53 := Tryd.sizeOf46
  v53 := Tryd.zeroValue46
  t75 := Tryd.underlying73
  a75 := Tryd.isAgg73
  z75 := Tryd.sizeOf73
  v75 := Tryd.zeroValue73
  t85 := Tryd.underlying88
  a85 := Tryd.isAgg88
  z85 := Tryd.sizeOf88
  v85 := Tryd.zeroValue88
  t167 := Tryd.underlying87
  a167 := Tryd.isAgg87
  z167 := Tryd.sizeOf87
  v167 := Tryd.zeroValue87
  t175 := Tryd.underlying101
  a175 := Tryd.isAgg101
  z175 := Tryd.sizeOf101
  v175 := Tryd.zeroValue101 }
open Go.RowKit in
/-- internal/strconv.Atoi, at a decimal numeral of at most 18 bytes: ITS VALUE, AND NO ERROR. The world behind the call: the one new row that '[]byte(s)' lays. (LAID: no walk: one application.) -/
theorem Tryd.internal_strconv_Atoi (s : ByteArray) (n : Int) (hl : s.size ≤ 18) (h : Lib.atoi s.data.toList = some n) (w : World) :
    Calls Tryd.prog 63 #[.string s] w fun e w' => e = .returned (.tuple #[.int .i64 n, .nilIface]) ∧ ∃ t, w' = Lib.bytesWorld w 5 t := Any.internal_strconv_Atoi Tryd.lays244 s n hl h w
def Tryd.lays172_ren : Go.Shelf.Ren := ⟨fun | 172 => 59 | 244 => 63 | 245 => 64 | 247 => 74 | 279 => 75 | 280 => 76 | 281 => 77 | 282 => 78 | 287 => 85 | 316 => 86 | 171 => 45 | 205 => 87 | 321 => 90 | 322 => 91 | 243 => 57 | 246 => 61 | 283 => 66 | 284 => 67 | 285 => 68 | 286 => 69 | 129 => 65 | 317 => 79 | 318 => 80 | 319 => 81 | 320 => 82 | 337 => 88 | 338 => 89 | n => n, fun | 9 => 9 | 3 => 3 | 75 => 73 | 76 => 74 | 4 => 4 | 5 => 5 | 167 => 87 | 37 => 76 | 0 => 0 | 85 => 88 | 2 => 2 | 168 => 90 | 53 => 46 | 175 => 101 | 46 => 68 | 210 => 105 | 127 => 109 | 145 => 112 | 143 => 110 | 21 => 21 | 171 => 81 | 173 => 83 | 212 => 94 | 51 => 95 | 20 => 20 | 213 => 96 | 232 => 113 | 233 => 114 | 80 => 115 | n => n, fun | 15 => 4 | 16 => 5 | 17 => 3 | 18 => 6 | 19 => 7 | n => n⟩
theorem Tryd.lays172 : Go.Proofs.Lays.n172 Tryd.prog Tryd.lays172_ren := {
  mixed := by kernel_rfl
  f129 := Tryd.func65.trans (congrArg some (by kernel_rfl))
  f171 := Tryd.func45.trans (congrArg some (by kernel_rfl))
  f172 := Tryd.func59.trans (congrArg some (by kernel_rfl))
  f205 := Tryd.func87.trans (congrArg some (by kernel_rfl))
  f243 := Tryd.func57.trans (congrArg some (by kernel_rfl))
  f244 := Tryd.func63.trans (congrArg some (by kernel_rfl))
  f245 := Tryd.func64.trans (congrArg some (by kernel_rfl))
  f246 := Tryd.func61.trans (congrArg some (by kernel_rfl))
  f247 := Tryd.func74.trans (congrArg some (by kernel_rfl))
  f279 := Tryd.func75.trans (congrArg some (by kernel_rfl))
  f280 := Tryd.func76.trans (congrArg some (by kernel_rfl))
  f281 := Tryd.func77.trans (congrArg some (by kernel_rfl))
  f282 := Tryd.func78.trans (congrArg some (by kernel_rfl))
  f283 := Tryd.func66.trans (congrArg some (by kernel_rfl))
  f284 := Tryd.func67.trans (congrArg some (by kernel_rfl))
  f285 := Tryd.func68.trans (congrArg some (by kernel_rfl))
  f286 := Tryd.func69.trans (congrArg some (by kernel_rfl))
  f287 := Tryd.func85.trans (congrArg some (by kernel_rfl))
  f316 := Tryd.func86.trans (congrArg some (by kernel_rfl))
  f317 := Tryd.func79.trans (congrArg some (by kernel_rfl))
  f318 := Tryd.func80.trans (congrArg some (by kernel_rfl))
  f319 := Tryd.func81.trans (congrArg some (by kernel_rfl))
  f320 := Tryd.func82.trans (congrArg some (by kernel_rfl))
  f321 := Tryd.func90.trans (congrArg some (by kernel_rfl))
  f322 := Tryd.func91.trans (congrArg some (by kernel_rfl))
  f337 := Tryd.func88.trans (congrArg some (by kernel_rfl))
  f338 := Tryd.func89.trans (congrArg some (by kernel_rfl))
  t0 := Tryd.underlying0
  a0 := Tryd.isAgg0
  z0 := Tryd.sizeOf0
  v0 := Tryd.zeroValue0
  t2 := Tryd.underlying2
  a2 := Tryd.isAgg2
  z2 := Tryd.sizeOf2
  v2 := Tryd.zeroValue2
  t3 := Tryd.underlying3
  a3 := Tryd.isAgg3
  z3 := Tryd.sizeOf3
  v3 := Tryd.zeroValue3
  t4 := Tryd.underlying4
  a4 := Tryd.isAgg4
  z4 := Tryd.sizeOf4
  v4 := Tryd.zeroValue4
  t5 := Tryd.underlying5
  a5 := Tryd.isAgg5
  z5 := Tryd.sizeOf5
  v5 := Tryd.zeroValue5
  t9 := Tryd.underlying9
  a9 := Tryd.isAgg9
  z9 := Tryd.sizeOf9
  v9 := Tryd.zeroValue9
  t20 := Tryd.underlying20
  a20 := Tryd.isAgg20
  z20 := Tryd.sizeOf20
  v20 := Tryd.zeroValue20
  t21 := Tryd.underlying21
  a21 := Tryd.isAgg21
  z21 := Tryd.sizeOf21
  v21 := Tryd.zeroValue21
  t37 := Tryd.underlying76
  a37 := Tryd.isAgg76
  z37 := Tryd.sizeOf76
  v37 := Tryd.zeroValue76
  t46 := Tryd.underlying68
  a46 := Tryd.isAgg68
  z46 := Tryd.sizeOf68
  v46 := Tryd.zeroValue68
  t51 := Tryd.underlying95
  a51 := Tryd.isAgg95
  z51 := Tryd.sizeOf95
  v51 := Tryd.zeroValue95
  t53 := Tryd.underlying46
  a53 := Tryd.isAgg46
  z53 := Tryd.sizeOf46
  v53 := Tryd.zeroValue46
  t75 := Tryd.underlying73
  a75 := Tryd.isAgg73
  z75 := Tryd.sizeOf73
  v75 := Tryd.zeroValue73
  t76 := Tryd.underlying74
  a76 := Tryd.isAgg74
  z76 := Tryd.sizeOf74
  v76 := Tryd.zeroValue74
  t85 := Tryd.underlying88
  a85 := Tryd.isAgg88
  z85 := Tryd.sizeOf88
  v85 := Tryd.zeroValue88
  t127 := Tryd.underlying109
  a127 := Tryd.isAgg109
  z127 := Tryd.sizeOf109
  v127 := Tryd.zeroValue109
  t143 := Tryd.underlying110
  a143 := Tryd.isAgg110
  z143 := Tryd.sizeOf110
  v143 := Tryd.zeroValue110
  t145 := Tryd.underlying112
  a145 := Tryd.isAgg112
  z145 := Tryd.sizeOf112
  v145 := Tryd.zeroValue112
  t167 := Tryd.underlying87
  a167 := Tryd.isAgg87
  z167 := Tryd.sizeOf87
  v167 := Tryd.zeroValue87
  t168 := Tryd.underlying90
  a168 := Tryd.isAgg90
  z168 := Tryd.sizeOf90
  v168 := Tryd.zeroValue90
  t171 := Tryd.underlying81
  a171 := Tryd.isAgg81
  z171 := Tryd.sizeOf81
  v171 := Tryd.zeroValue81
  t173 := Tryd.underlying83
  a173 := Tryd.isAgg83
  z173 := Tryd.sizeOf83
  v173 := Tryd.zeroValue83
  t175 := Tryd.underlying101
  a175 := Tryd.isAgg101
  z175 := Tryd.sizeOf101
  v175 := Tryd.zeroValue101
  t210 := Tryd.underlying105
  a210 := Tryd.isAgg105
  z210 := Tryd.sizeOf105
  v210 := Tryd.zeroValue105
  t212 := Tryd.underlying94
  a212 := Tryd.isAgg94
  z212 := Tryd.sizeOf94
  v212 := Tryd.zeroValue94
  t213 := Tryd.underlying96
  a213 := Tryd.isAgg96
  z213 := Tryd.sizeOf96
  t232 := Tryd.underlying113
  a232 := Tryd.isAgg113
  z232 := Tryd.sizeOf113
  v232 := Tryd.zeroValue113
  t233 := Tryd.underlying114
  a233 := Tryd.isAgg114
  z233 := Tryd.sizeOf114
  v233 := Tryd.zeroValue114
  g15 := by kernel_rfl
  g16 := by kernel_rfl
  g17 := by kernel_rfl
  g18 := by kernel_rfl
  g19 := by kernel_rfl }
open Go.RowKit in
/-- strconv.Atoi: "Atoi is equivalent to ParseInt(s, 10, 0), converted to type int.": AT A DECIMAL NUMERAL OF AT MOST 18 BYTES: its value, and a nil error. The world behind the call: the one new row that the library's '[]byte(s)' lays. (LAID: no walk: one application.) -/
theorem Tryd.strconv_Atoi (s : ByteArray) (n : Int) (hl : s.size ≤ 18) (h : Lib.atoi s.data.toList = some n) (w : World) :
    Calls Tryd.prog 59 #[.string s] w fun e w' => e = .returned (.tuple #[.int .i64 n, .nilIface]) ∧ ∃ t, w' = Lib.bytesWorld w 5 t := Any.strconv_Atoi Tryd.lays172 s n hl h w
open Go.RowKit in
/-- internal/strconv.Atoi, at a string of 1 to 18 bytes THAT IS NO DECIMAL NUMERAL: 0, AND ErrSyntax (the package's own error number 2). The world behind the call: as it was, or with the one new row that '[]byte(s)' lays. (LAID: no walk: one application.) -/
theorem Tryd.internal_strconv_Atoi_err (s : ByteArray) (hl0 : 1 ≤ s.size) (hl : s.size ≤ 18) (h : Lib.atoi s.data.toList = none) (w : World) :
    Calls Tryd.prog 63 #[.string s] w fun e w' => e = .returned (.tuple #[.int .i64 0, (.iface 87 (.int .i64 2))]) ∧ (w' = w ∨ ∃ t, w' = Lib.bytesWorld w 5 t) := Any.internal_strconv_Atoi_err Tryd.lays244 s hl0 hl h w
def Tryd.lays247_ren : Go.Shelf.Ren := ⟨fun | 247 => 74 | 287 => 85 | 321 => 90 | 322 => 91 | n => n, fun | 9 => 9 | 3 => 3 | 2 => 2 | 75 => 73 | 4 => 4 | 167 => 87 | 5 => 5 | 53 => 46 | 175 => 101 | 46 => 68 | 37 => 76 | 0 => 0 | 21 => 21 | 80 => 115 | n => n, fun | n => n⟩
theorem Tryd.lays247 : Go.Proofs.Lays.n247 Tryd.prog Tryd.lays247_ren := {
  mixed := by kernel_rfl
  f247 := Tryd.func74.trans (congrArg some (by kernel_rfl))
  f287 := Tryd.func85.trans (congrArg some (by kernel_rfl))
  f321 := Tryd.func90.trans (congrArg some (by kernel_rfl))
  f322 := Tryd.func91.trans (congrArg some (by kernel_rfl))
  t0 := Tryd.underlying0
  a0 := Tryd.isAgg0
  z0 := Tryd.sizeOf0
  v0 := Tryd.zeroValue0
  t2 := Tryd.underlying2
  a2 := Tryd.isAgg2
  z2 := Tryd.sizeOf2
  v2 := Tryd.zeroValue2
  t3 := Tryd.underlying3
  a3 := Tryd.isAgg3
  z3 := Tryd.sizeOf3
  v3 := Tryd.zeroValue3
  t4 := Tryd.underlying4
  a4 := Tryd.isAgg4
  z4 := Tryd.sizeOf4
  v4 := Tryd.zeroValue4
  t5 := Tryd.underlying5
  a5 := Tryd.isAgg5
  z5 := Tryd.sizeOf5
  v5 := Tryd.zeroValue5
  t9 := Tryd.underlying9
  a9 := Tryd.isAgg9
  z9 := Tryd.sizeOf9
  v9 := Tryd.zeroValue9
  t21 := Tryd.underlying21
  a21 := Tryd.isAgg21
  z21 := Tryd.sizeOf21
  v21 := Tryd.zeroValue21
  t37 := Tryd.underlying76
  a37 := Tryd.isAgg76
  z37 := Tryd.sizeOf76
  v37 := Tryd.zeroValue76
  t46 := Tryd.underlying68
  a46 := Tryd.isAgg68
  z46 := Tryd.sizeOf68
  v46 := Tryd.zeroValue68
  t53 := Tryd.underlying46
  a53 := Tryd.isAgg46
  z53 := Tryd.sizeOf46
  v53 := Tryd.zeroValue46
  t75 := Tryd.underlying73
  a75 := Tryd.isAgg73
  z75 := Tryd.sizeOf73
  v75 := Tryd.zeroValue73
  t167 := Tryd.underlying87
  a167 := Tryd.isAgg87
  z167 := Tryd.sizeOf87
  v167 := Tryd.zeroValue87
  t175 := Tryd.underlying101
  a175 := Tryd.isAgg101
  z175 := Tryd.sizeOf101
  v175 := Tryd.zeroValue101 }
open Go.RowKit in
/-- internal/strconv.ParseInt at "": 'if s == "" { return 0, ErrSyntax }'. The world is as it was. (LAID: no walk: one application.) -/
theorem Tryd.internal_strconv_ParseInt_empty (base bits : Int) (w : World) :
    Calls Tryd.prog 74 #[.string ⟨#[]⟩, .int .i64 base, .int .i64 bits] w fun e w' => e = .returned (.tuple #[.int .i64 0, (.iface 87 (.int .i64 2))]) ∧ w' = w := Any.internal_strconv_ParseInt_empty Tryd.lays247 base bits w
open Go.RowKit in
/-- internal/strconv.Atoi at "". (LAID: no walk: one application.) -/
theorem Tryd.internal_strconv_Atoi_empty (w : World) :
    Calls Tryd.prog 63 #[.string ⟨#[]⟩] w fun e w' => e = .returned (.tuple #[.int .i64 0, (.iface 87 (.int .i64 2))]) ∧ w' = w := Any.internal_strconv_Atoi_empty Tryd.lays244 w
open Go.RowKit in
/-- internal/strconv.Atoi, AT EVERY STRING OF AT MOST 18 BYTES THAT IS NO DECIMAL NUMERAL: 0, and ErrSyntax. (LAID: no walk: one application.) -/
theorem Tryd.internal_strconv_Atoi_fail (s : ByteArray) (hl : s.size ≤ 18) (h : Lib.atoi s.data.toList = none) (w : World) :
    Calls Tryd.prog 63 #[.string s] w fun e w' => e = .returned (.tuple #[.int .i64 0, (.iface 87 (.int .i64 2))]) ∧ (w' = w ∨ ∃ t, w' = Lib.bytesWorld w 5 t) := Any.internal_strconv_Atoi_fail Tryd.lays244 s hl h w
def Tryd.laysM316_ren : Go.Shelf.Ren := ⟨fun | 316 => 86 | n => n, fun | 9 => 9 | 3 => 3 | 4 => 4 | 37 => 76 | 0 => 0 | 127 => 109 | 5 => 5 | n => n, fun | n => n⟩
theorem Tryd.laysM316 : Go.Proofs.LaysM.n316 Tryd.prog Tryd.laysM316_ren := {
  mixed := by kernel_rfl
  f316 := Tryd.func86.trans (congrArg some (by kernel_rfl))
  t0 := Tryd.underlying0
  a0 := Tryd.isAgg0
  z0 := Tryd.sizeOf0
  v0 := Tryd.zeroValue0
  t3 := Tryd.underlying3
  a3 := Tryd.isAgg3
  z3 := Tryd.sizeOf3
  v3 := Tryd.zeroValue3
  t4 := Tryd.underlying4
  a4 := Tryd.isAgg4
  z4 := Tryd.sizeOf4
  v4 := Tryd.zeroValue4
  t9 := Tryd.underlying9
  a9 := Tryd.isAgg9
  z9 := Tryd.sizeOf9
  v9 := Tryd.zeroValue9
  t37 := Tryd.underlying76
  a37 := Tryd.isAgg76
  z37 := Tryd.sizeOf76
  v37 := Tryd.zeroValue76
  t127 := Tryd.underlying109
  a127 := Tryd.isAgg109
  z127 := Tryd.sizeOf109
  v127 := Tryd.zeroValue109
  t5 := Tryd.underlying5
  a5 := Tryd.isAgg5
  z5 := Tryd.sizeOf5
  v5 := Tryd.zeroValue5
  i0 := by kernel_rfl
  i3 := by kernel_rfl
  i4 := by kernel_rfl
  i5 := by kernel_rfl
  i9 := by kernel_rfl
  i37 := by kernel_rfl
  i127 := by kernel_rfl }
open Go.RowKit in
/-- internal/stringslite.Clone (what strings.Clone calls): "Clone returns a fresh copy of s.": THE SAME BYTES. Of what was there nothing has turned (a new row is laid, and frozen, where s is not empty). (LAID: no walk: one application.) -/
theorem Tryd.stringslite_Clone (s : ByteArray) (w : World) (hlim : s.size ≤ 281474976710656) :
    Calls Tryd.prog 86 #[.string s] w fun e w' => e = .returned (.string s) ∧ Below w.heap.size w w' := Any.stringslite_Clone Tryd.laysM316 s w hlim
def Tryd.laysM279_ren : Go.Shelf.Ren := ⟨fun | 279 => 75 | 316 => 86 | n => n, fun | 9 => 9 | 168 => 90 | 75 => 73 | 210 => 105 | 3 => 3 | 4 => 4 | 37 => 76 | 0 => 0 | 127 => 109 | 80 => 115 | 5 => 5 | n => n, fun | 15 => 4 | n => n⟩
theorem Tryd.laysM279 : Go.Proofs.LaysM.n279 Tryd.prog Tryd.laysM279_ren := {
  mixed := by kernel_rfl
  f279 := Tryd.func75.trans (congrArg some (by kernel_rfl))
  f316 := Tryd.func86.trans (congrArg some (by kernel_rfl))
  t0 := Tryd.underlying0
  a0 := Tryd.isAgg0
  z0 := Tryd.sizeOf0
  v0 := Tryd.zeroValue0
  t3 := Tryd.underlying3
  a3 := Tryd.isAgg3
  z3 := Tryd.sizeOf3
  v3 := Tryd.zeroValue3
  t4 := Tryd.underlying4
  a4 := Tryd.isAgg4
  z4 := Tryd.sizeOf4
  v4 := Tryd.zeroValue4
  t9 := Tryd.underlying9
  a9 := Tryd.isAgg9
  z9 := Tryd.sizeOf9
  v9 := Tryd.zeroValue9
  t37 := Tryd.underlying76
  a37 := Tryd.isAgg76
  z37 := Tryd.sizeOf76
  v37 := Tryd.zeroValue76
  t75 := Tryd.underlying73
  a75 := Tryd.isAgg73
  z75 := Tryd.sizeOf73
  v75 := Tryd.zeroValue73
  t127 := Tryd.underlying109
  a127 := Tryd.isAgg109
  z127 := Tryd.sizeOf109
  v127 := Tryd.zeroValue109
  t168 := Tryd.underlying90
  a168 := Tryd.isAgg90
  z168 := Tryd.sizeOf90
  v168 := Tryd.zeroValue90
  t210 := Tryd.underlying105
  a210 := Tryd.isAgg105
  z210 := Tryd.sizeOf105
  v210 := Tryd.zeroValue105
  g15 := by kernel_rfl
  t5 := Tryd.underlying5
  a5 := Tryd.isAgg5
  z5 := Tryd.sizeOf5
  v5 := Tryd.zeroValue5
  t80 := Tryd.underlying115
  a80 := Tryd.isAgg115
  z80 := Tryd.sizeOf115
  v80 := Tryd.zeroValue115
  i0 := by kernel_rfl
  i3 := by kernel_rfl
  i4 := by kernel_rfl
  i5 := by kernel_rfl
  i9 := by kernel_rfl
  i37 := by kernel_rfl
  i75 := by kernel_rfl
  i80 := by kernel_rfl
  i127 := by kernel_rfl
  i168 := by kernel_rfl
  i210 := by kernel_rfl
  m15 := by kernel_rfl }
open Go.RowKit in
/-- strconv.syntaxError: '&NumError{fn, stringslite.Clone(str), ErrSyntax}': A POINTER TO A NEW BLOCK that holds fn, str's bytes, and what the variable ErrSyntax holds. Of what was there nothing has turned. (LAID: no walk: one application.) -/
theorem Tryd.strconv_syntaxError (fn s : ByteArray) (ev : Value) (w : World) (hlim : s.size ≤ 281474976710656) (hv : w.cell? ⟨4, 0, none⟩ = some ev) (hev : ev = .nilIface ∨ ∃ te pe, ev = .iface te pe) :
    Calls Tryd.prog 75 #[.string fn, .string s] w fun e w' => ∃ N, e = .returned (.pointer (some ⟨N, 0, none⟩)) ∧ w.heap.size ≤ N ∧ w'.heap[N]? = some (.cells #[.string fn, .string s, ev] 105 (0, 0)) ∧ Below w.heap.size w w' := Any.strconv_syntaxError Tryd.laysM279 fn s ev w hlim hv hev
def Tryd.laysC245_ren : Go.Shelf.Ren := ⟨fun | 245 => 64 | 279 => 75 | 280 => 76 | 281 => 77 | 282 => 78 | 316 => 86 | 171 => 45 | 205 => 87 | 243 => 57 | 246 => 61 | 283 => 66 | 284 => 67 | 285 => 68 | 286 => 69 | 129 => 65 | 317 => 79 | 318 => 80 | 319 => 81 | 320 => 82 | 337 => 88 | 338 => 89 | n => n, fun | 9 => 9 | 3 => 3 | 75 => 73 | 167 => 87 | 4 => 4 | 168 => 90 | 210 => 105 | 37 => 76 | 0 => 0 | 127 => 109 | 145 => 112 | 143 => 110 | 2 => 2 | 171 => 81 | 53 => 46 | 5 => 5 | 173 => 83 | 212 => 94 | 51 => 95 | 20 => 20 | 213 => 96 | 46 => 68 | 232 => 113 | 233 => 114 | 80 => 115 | n => n, fun | 15 => 4 | 16 => 5 | 17 => 3 | 18 => 6 | 19 => 7 | n => n⟩
theorem Tryd.laysC245 : Go.Proofs.LaysC.n245 Tryd.prog Tryd.laysC245_ren := {
  mixed := by kernel_rfl
  f129 := Tryd.func65.trans (congrArg some (by kernel_rfl))
  f171 := Tryd.func45.trans (congrArg some (by kernel_rfl))
  f205 := Tryd.func87.trans (congrArg some (by kernel_rfl))
  f243 := Tryd.func57.trans (congrArg some (by kernel_rfl))
  f245 := Tryd.func64.trans (congrArg some (by kernel_rfl))
  f246 := Tryd.func61.trans (congrArg some (by kernel_rfl))
  f279 := Tryd.func75.trans (congrArg some (by kernel_rfl))
  f280 := Tryd.func76.trans (congrArg some (by kernel_rfl))
  f281 := Tryd.func77.trans (congrArg some (by kernel_rfl))
  f282 := Tryd.func78.trans (congrArg some (by kernel_rfl))
  f283 := Tryd.func66.trans (congrArg some (by kernel_rfl))
  f284 := Tryd.func67.trans (congrArg some (by kernel_rfl))
  f285 := Tryd.func68.trans (congrArg some (by kernel_rfl))
  f286 := Tryd.func69.trans (congrArg some (by kernel_rfl))
  f316 := Tryd.func86.trans (congrArg some (by kernel_rfl))
  f317 := Tryd.func79.trans (congrArg some (by kernel_rfl))
  f318 := Tryd.func80.trans (congrArg some (by kernel_rfl))
  f319 := Tryd.func81.trans (congrArg some (by kernel_rfl))
  f320 := Tryd.func82.trans (congrArg some (by kernel_rfl))
  f337 := Tryd.func88.trans (congrArg some (by kernel_rfl))
  f338 := Tryd.func89.trans (congrArg some (by kernel_rfl))
  t0 := Tryd.underlying0
  a0 := Tryd.isAgg0
  z0 := Tryd.sizeOf0
  v0 := Tryd.zeroValue0
  t2 := Tryd.underlying2
  a2 := Tryd.isAgg2
  z2 := Tryd.sizeOf2
  v2 := Tryd.zeroValue2
  t3 := Tryd.underlying3
  a3 := Tryd.isAgg3
  z3 := Tryd.sizeOf3
  v3 := Tryd.zeroValue3
  t4 := Tryd.underlying4
  a4 := Tryd.isAgg4
  z4 := Tryd.sizeOf4
  v4 := Tryd.zeroValue4
  t5 := Tryd.underlying5
  a5 := Tryd.isAgg5
  z5 := Tryd.sizeOf5
  v5 := Tryd.zeroValue5
  t9 := Tryd.underlying9
  a9 := Tryd.isAgg9
  z9 := Tryd.sizeOf9
  v9 := Tryd.zeroValue9
  t20 := Tryd.underlying20
  a20 := Tryd.isAgg20
  z20 := Tryd.sizeOf20
  v20 := Tryd.zeroValue20
  t37 := Tryd.underlying76
  a37 := Tryd.isAgg76
  z37 := Tryd.sizeOf76
  v37 := Tryd.zeroValue76
  t46 := Tryd.underlying68
  a46 := Tryd.isAgg68
  z46 := Tryd.sizeOf68
  v46 := Tryd.zeroValue68
  t51 := Tryd.underlying95
  a51 := Tryd.isAgg95
  z51 := Tryd.sizeOf95
  v51 := Tryd.zeroValue95
  t53 := Tryd.underlying46
  a53 := Tryd.isAgg46
  z53 := Tryd.sizeOf46
  v53 := Tryd.zeroValue46
  t75 := Tryd.underlying73
  a75 := Tryd.isAgg73
  z75 := Tryd.sizeOf73
  v75 := Tryd.zeroValue73
  t127 := Tryd.underlying109
  a127 := Tryd.isAgg109
  z127 := Tryd.sizeOf109
  v127 := Tryd.zeroValue109
  t143 := Tryd.underlying110
  a143 := Tryd.isAgg110
  z143 := Tryd.sizeOf110
  v143 := Tryd.zeroValue110
  t145 := Tryd.underlying112
  a145 := Tryd.isAgg112
  z145 := Tryd.sizeOf112
  v145 := Tryd.zeroValue112
  t167 := Tryd.underlying87
  a167 := Tryd.isAgg87
  z167 := Tryd.sizeOf87
  v167 := Tryd.zeroValue87
  t168 := Tryd.underlying90
  a168 := Tryd.isAgg90
  z168 := Tryd.sizeOf90
  v168 := Tryd.zeroValue90
  t171 := Tryd.underlying81
  a171 := Tryd.isAgg81
  z171 := Tryd.sizeOf81
  v171 := Tryd.zeroValue81
  t173 := Tryd.underlying83
  a173 := Tryd.isAgg83
  z173 := Tryd.sizeOf83
  v173 := Tryd.zeroValue83
  t210 := Tryd.underlying105
  a210 := Tryd.isAgg105
  z210 := Tryd.sizeOf105
  v210 := Tryd.zeroValue105
  t212 := Tryd.underlying94
  a212 := Tryd.isAgg94
  z212 := Tryd.sizeOf94
  v212 := Tryd.zeroValue94
  t213 := Tryd.underlying96
  a213 := Tryd.isAgg96
  z213 := Tryd.sizeOf96
  t232 := Tryd.underlying113
  a232 := Tryd.isAgg113
  z232 := Tryd.sizeOf113
  v232 := Tryd.zeroValue113
  t233 := Tryd.underlying114
  a233 := Tryd.isAgg114
  z233 := Tryd.sizeOf114
  v233 := Tryd.zeroValue114
  g15 := by kernel_rfl
  g16 := by kernel_rfl
  g17 := by kernel_rfl
  g18 := by kernel_rfl
  g19 := by kernel_rfl
  t80 := Tryd.underlying115
  a80 := Tryd.isAgg115
  z80 := Tryd.sizeOf115
  v80 := Tryd.zeroValue115
  i0 := by kernel_rfl
  i2 := by kernel_rfl
  i3 := by kernel_rfl
  i4 := by kernel_rfl
  i5 := by kernel_rfl
  i9 := by kernel_rfl
  i20 := by kernel_rfl
  i37 := by kernel_rfl
  i46 := by kernel_rfl
  i51 := by kernel_rfl
  i53 := by kernel_rfl
  i75 := by kernel_rfl
  i80 := by kernel_rfl
  i127 := by kernel_rfl
  i143 := by kernel_rfl
  i145 := by kernel_rfl
  i167 := by kernel_rfl
  i168 := by kernel_rfl
  i171 := by kernel_rfl
  i173 := by kernel_rfl
  i210 := by kernel_rfl
  i212 := by kernel_rfl
  i232 := by kernel_rfl
  i233 := by kernel_rfl
  m15 := by kernel_rfl
  m16 := by kernel_rfl
  m17 := by kernel_rfl
  m18 := by kernel_rfl
  m19 := by kernel_rfl
  c0 := by kernel_rfl
  c2 := by kernel_rfl
  c3 := by kernel_rfl
  c4 := by kernel_rfl
  c5 := by kernel_rfl
  c9 := by kernel_rfl
  c20 := by kernel_rfl
  c37 := by kernel_rfl
  c46 := by kernel_rfl
  c51 := by kernel_rfl
  c53 := by kernel_rfl
  c75 := by kernel_rfl
  c80 := by kernel_rfl
  c127 := by kernel_rfl
  c143 := by kernel_rfl
  c145 := by kernel_rfl
  c167 := by kernel_rfl
  c168 := by kernel_rfl
  c171 := by kernel_rfl
  c173 := by kernel_rfl
  c210 := by kernel_rfl
  c212 := by kernel_rfl
  c213 := by kernel_rfl
  c232 := by kernel_rfl
  c233 := by kernel_rfl }
open Go.RowKit in
/-- strconv.toError, at the inner package's ErrSyntax: 'syntaxError(fn, s)' as an error: A *NumError IN A NEW BLOCK. (LAID: no walk: one application.) -/
theorem Tryd.strconv_toError_syntax (fn s : ByteArray) (base bits : Int) (ev : Value) (w : World) (hlim : s.size ≤ 281474976710656) (hv : w.cell? ⟨4, 0, none⟩ = some ev) (hev : ev = .nilIface ∨ ∃ te pe, ev = .iface te pe) :
    Calls Tryd.prog 64 #[.string fn, .string s, .int .i64 base, .int .i64 bits, .iface 87 (.int .i64 2)] w fun e w' => ∃ N, e = .returned (.iface 90 (.pointer (some ⟨N, 0, none⟩))) ∧ w.heap.size ≤ N ∧ w'.heap[N]? = some (.cells #[.string fn, .string s, ev] 105 (0, 0)) ∧ Below w.heap.size w w' := Any.strconv_toError_syntax Tryd.laysC245 fn s base bits ev w hlim hv hev
def Tryd.lays321_ren : Go.Shelf.Ren := ⟨fun | 321 => 90 | n => n, fun | 5 => 5 | n => n, fun | n => n⟩
theorem Tryd.lays321 : Go.Proofs.Lays.n321 Tryd.prog Tryd.lays321_ren := {
  mixed := by kernel_rfl
  f321 := Tryd.func90.trans (congrArg some (by kernel_rfl))
  t5 := Tryd.underlying5
  a5 := Tryd.isAgg5
  z5 := Tryd.sizeOf5
  v5 := Tryd.zeroValue5 }
open Go.RowKit in
/-- internal/strconv.lower: 'c | ('x' - 'X')': the bit 32 set. The world is as it was. (LAID: no walk: one application.) -/
theorem Tryd.internal_strconv_lower (c : Int) (w : World) :
    Calls Tryd.prog 90 #[.int .u8 c] w fun e w' => e = .returned (.int .u8 (bits .or .u8 c 32)) ∧ w' = w := Any.internal_strconv_lower Tryd.lays321 c w
def Tryd.lays287_ren : Go.Shelf.Ren := ⟨fun | 287 => 85 | 321 => 90 | 322 => 91 | n => n, fun | 9 => 9 | 3 => 3 | 53 => 46 | 75 => 73 | 4 => 4 | 167 => 87 | 5 => 5 | 46 => 68 | 37 => 76 | 0 => 0 | 21 => 21 | 80 => 115 | n => n, fun | n => n⟩
theorem Tryd.lays287 : Go.Proofs.Lays.n287 Tryd.prog Tryd.lays287_ren := {
  mixed := by kernel_rfl
  f287 := Tryd.func85.trans (congrArg some (by kernel_rfl))
  f321 := Tryd.func90.trans (congrArg some (by kernel_rfl))
  f322 := Tryd.func91.trans (congrArg some (by kernel_rfl))
  t0 := Tryd.underlying0
  a0 := Tryd.isAgg0
  z0 := Tryd.sizeOf0
  v0 := Tryd.zeroValue0
  t3 := Tryd.underlying3
  a3 := Tryd.isAgg3
  z3 := Tryd.sizeOf3
  v3 := Tryd.zeroValue3
  t4 := Tryd.underlying4
  a4 := Tryd.isAgg4
  z4 := Tryd.sizeOf4
  v4 := Tryd.zeroValue4
  t5 := Tryd.underlying5
  a5 := Tryd.isAgg5
  z5 := Tryd.sizeOf5
  v5 := Tryd.zeroValue5
  t9 := Tryd.underlying9
  a9 := Tryd.isAgg9
  z9 := Tryd.sizeOf9
  v9 := Tryd.zeroValue9
  t21 := Tryd.underlying21
  a21 := Tryd.isAgg21
  z21 := Tryd.sizeOf21
  v21 := Tryd.zeroValue21
  t37 := Tryd.underlying76
  a37 := Tryd.isAgg76
  z37 := Tryd.sizeOf76
  v37 := Tryd.zeroValue76
  t46 := Tryd.underlying68
  a46 := Tryd.isAgg68
  z46 := Tryd.sizeOf68
  v46 := Tryd.zeroValue68
  t53 := Tryd.underlying46
  a53 := Tryd.isAgg46
  z53 := Tryd.sizeOf46
  v53 := Tryd.zeroValue46
  t75 := Tryd.underlying73
  a75 := Tryd.isAgg73
  z75 := Tryd.sizeOf73
  v75 := Tryd.zeroValue73
  t167 := Tryd.underlying87
  a167 := Tryd.isAgg87
  z167 := Tryd.sizeOf87
  v167 := Tryd.zeroValue87 }
open Go.RowKit in
/-- internal/strconv.ParseUint(s, 10, 0), s NOT EMPTY: 'Lib.parseUint10 0' OF ITS BYTES: the number; or (0, ErrSyntax); or (the greatest uint64, ErrRange). The world behind the call: the one new row that '[]byte(s)' lays. (LAID: no walk: one application.) -/
theorem Tryd.internal_strconv_ParseUint_10 (t : ByteArray) (hne : t.size ≠ 0) (hmax : t.size ≤ 9223372036854775806) (w : World) :
    Calls Tryd.prog 85 #[.string t, .int .i64 10, .int .i64 0] w fun e w' => e = .returned (Lib.uintTuple 87 (Lib.parseUint10 0 t.data.toList)) ∧ w' = Lib.bytesWorld w 5 t := Any.internal_strconv_ParseUint_10 Tryd.lays287 t hne hmax w
open Go.RowKit in
/-- internal/strconv.ParseUint("", 10, 0): (0, ErrSyntax). The world is as it was. (LAID: no walk: one application.) -/
theorem Tryd.internal_strconv_ParseUint_10_empty (w : World) :
    Calls Tryd.prog 85 #[.string ⟨#[]⟩, .int .i64 10, .int .i64 0] w fun e w' => e = .returned (Lib.uintTuple 87 .syntax) ∧ w' = w := Any.internal_strconv_ParseUint_10_empty Tryd.lays287 w
open Go.RowKit in
/-- internal/strconv.ParseUint(s, 10, 0): 'Lib.parseMag' OF ITS BYTES. The world: as it was (the empty string), or with the one new row that '[]byte(s)' lays. (LAID: no walk: one application.) -/
theorem Tryd.internal_strconv_ParseUint_10_any (t : ByteArray) (hmax : t.size ≤ 9223372036854775806) (w : World) :
    Calls Tryd.prog 85 #[.string t, .int .i64 10, .int .i64 0] w fun e w' => e = .returned (Lib.uintTuple 87 (Lib.parseMag t.data.toList)) ∧ (w' = w ∨ w' = Lib.bytesWorld w 5 t) := Any.internal_strconv_ParseUint_10_any Tryd.lays287 t hmax w
def Tryd.laysC247_ren : Go.Shelf.Ren := ⟨fun | 247 => 74 | 287 => 85 | 321 => 90 | 322 => 91 | n => n, fun | 9 => 9 | 3 => 3 | 2 => 2 | 75 => 73 | 4 => 4 | 167 => 87 | 5 => 5 | 53 => 46 | 175 => 101 | 46 => 68 | 37 => 76 | 0 => 0 | 21 => 21 | 80 => 115 | n => n, fun | n => n⟩
theorem Tryd.laysC247 : Go.Proofs.LaysC.n247 Tryd.prog Tryd.laysC247_ren := {
  mixed := by kernel_rfl
  f247 := Tryd.func74.trans (congrArg some (by kernel_rfl))
  f287 := Tryd.func85.trans (congrArg some (by kernel_rfl))
  f321 := Tryd.func90.trans (congrArg some (by kernel_rfl))
  f322 := Tryd.func91.trans (congrArg some (by kernel_rfl))
  t0 := Tryd.underlying0
  a0 := Tryd.isAgg0
  z0 := Tryd.sizeOf0
  v0 := Tryd.zeroValue0
  t2 := Tryd.underlying2
  a2 := Tryd.isAgg2
  z2 := Tryd.sizeOf2
  v2 := Tryd.zeroValue2
  t3 := Tryd.underlying3
  a3 := Tryd.isAgg3
  z3 := Tryd.sizeOf3
  v3 := Tryd.zeroValue3
  t4 := Tryd.underlying4
  a4 := Tryd.isAgg4
  z4 := Tryd.sizeOf4
  v4 := Tryd.zeroValue4
  t5 := Tryd.underlying5
  a5 := Tryd.isAgg5
  z5 := Tryd.sizeOf5
  v5 := Tryd.zeroValue5
  t9 := Tryd.underlying9
  a9 := Tryd.isAgg9
  z9 := Tryd.sizeOf9
  v9 := Tryd.zeroValue9
  t21 := Tryd.underlying21
  a21 := Tryd.isAgg21
  z21 := Tryd.sizeOf21
  v21 := Tryd.zeroValue21
  t37 := Tryd.underlying76
  a37 := Tryd.isAgg76
  z37 := Tryd.sizeOf76
  v37 := Tryd.zeroValue76
  t46 := Tryd.underlying68
  a46 := Tryd.isAgg68
  z46 := Tryd.sizeOf68
  v46 := Tryd.zeroValue68
  t53 := Tryd.underlying46
  a53 := Tryd.isAgg46
  z53 := Tryd.sizeOf46
  v53 := Tryd.zeroValue46
  t75 := Tryd.underlying73
  a75 := Tryd.isAgg73
  z75 := Tryd.sizeOf73
  v75 := Tryd.zeroValue73
  t167 := Tryd.underlying87
  a167 := Tryd.isAgg87
  z167 := Tryd.sizeOf87
  v167 := Tryd.zeroValue87
  t175 := Tryd.underlying101
  a175 := Tryd.isAgg101
  z175 := Tryd.sizeOf101
  v175 := Tryd.zeroValue101
  t80 := Tryd.underlying115
  a80 := Tryd.isAgg115
  z80 := Tryd.sizeOf115
  v80 := Tryd.zeroValue115
  i0 := by kernel_rfl
  i2 := by kernel_rfl
  i3 := by kernel_rfl
  i4 := by kernel_rfl
  i5 := by kernel_rfl
  i9 := by kernel_rfl
  i21 := by kernel_rfl
  i37 := by kernel_rfl
  i46 := by kernel_rfl
  i53 := by kernel_rfl
  i75 := by kernel_rfl
  i80 := by kernel_rfl
  i167 := by kernel_rfl
  i175 := by kernel_rfl
  c0 := by kernel_rfl
  c2 := by kernel_rfl
  c3 := by kernel_rfl
  c4 := by kernel_rfl
  c5 := by kernel_rfl
  c9 := by kernel_rfl
  c21 := by kernel_rfl
  c37 := by kernel_rfl
  c46 := by kernel_rfl
  c53 := by kernel_rfl
  c75 := by kernel_rfl
  c80 := by kernel_rfl
  c167 := by kernel_rfl
  c175 := by kernel_rfl }
open Go.RowKit in
/-- internal/strconv.ParseInt(s, 10, 0), s NOT EMPTY: 'Lib.atoiAll' OF ITS BYTES: (the number, nil); (0, ErrSyntax); (the greatest or the least int64 by the sign, ErrRange). The world: as it was, or with the one new row that '[]byte(..)' lays. (LAID: no walk: one application.) -/
theorem Tryd.internal_strconv_ParseInt_10 (s : ByteArray) (hne : s.size ≠ 0) (hmax : s.size ≤ 9223372036854775806) (w : World) :
    Calls Tryd.prog 74 #[.string s, .int .i64 10, .int .i64 0] w fun e w' => e = .returned (Lib.intTuple 87 (Lib.atoiSat s.data.toList) (Lib.atoiAll s.data.toList)) ∧ (w' = w ∨ ∃ t, w' = Lib.bytesWorld w 5 t) := Any.internal_strconv_ParseInt_10 Tryd.laysC247 s hne hmax w
def Tryd.laysC244_ren : Go.Shelf.Ren := ⟨fun | 244 => 63 | 247 => 74 | 287 => 85 | 321 => 90 | 322 => 91 | n => n, fun | 9 => 9 | 3 => 3 | 75 => 73 | 4 => 4 | 5 => 5 | 167 => 87 | 37 => 76 | 0 => 0 | 85 => 88 | 2 => 2 | 53 => 46 | 175 => 101 | 46 => 68 | 21 => 21 | 80 => 115 | n => n, fun | n => n⟩
theorem Tryd.laysC244 : Go.Proofs.LaysC.n244 Tryd.prog Tryd.laysC244_ren := {
  mixed := by kernel_rfl
  f244 := Tryd.func63.trans (congrArg some (by kernel_rfl))
  f247 := Tryd.func74.trans (congrArg some (by kernel_rfl))
  f287 := Tryd.func85.trans (congrArg some (by kernel_rfl))
  f321 := Tryd.func90.trans (congrArg some (by kernel_rfl))
  f322 := Tryd.func91.trans (congrArg some (by kernel_rfl))
  t0 := Tryd.underlying0
  a0 := Tryd.isAgg0
  z0 := Tryd.sizeOf0
  v0 := Tryd.zeroValue0
  t2 := Tryd.underlying2
  a2 := Tryd.isAgg2
  z2 := Tryd.sizeOf2
  v2 := Tryd.zeroValue2
  t3 := Tryd.underlying3
  a3 := Tryd.isAgg3
  z3 := Tryd.sizeOf3
  v3 := Tryd.zeroValue3
  t4 := Tryd.underlying4
  a4 := Tryd.isAgg4
  z4 := Tryd.sizeOf4
  v4 := Tryd.zeroValue4
  t5 := Tryd.underlying5
  a5 := Tryd.isAgg5
  z5 := Tryd.sizeOf5
  v5 := Tryd.zeroValue5
  t9 := Tryd.underlying9
  a9 := Tryd.isAgg9
  z9 := Tryd.sizeOf9
  v9 := Tryd.zeroValue9
  t21 := Tryd.underlying21
  a21 := Tryd.isAgg21
  z21 := Tryd.sizeOf21
  v21 := Tryd.zeroValue21
  t37 := Tryd.underlying76
  a37 := Tryd.isAgg76
  z37 := Tryd.sizeOf76
  v37 := Tryd.zeroValue76
  t46 := Tryd.underlying68
  a46 := Tryd.isAgg68
  z46 := Tryd.sizeOf68
  v46 := Tryd.zeroValue68
  t53 := Tryd.underlying46
  a53 := Tryd.isAgg46
  z53 := Tryd.sizeOf46
  v53 := Tryd.zeroValue46
  t75 := Tryd.underlying73
  a75 := Tryd.isAgg73
  z75 := Tryd.sizeOf73
  v75 := Tryd.zeroValue73
  t85 := Tryd.underlying88
  a85 := Tryd.isAgg88
  z85 := Tryd.sizeOf88
  v85 := Tryd.zeroValue88
  t167 := Tryd.underlying87
  a167 := Tryd.isAgg87
  z167 := Tryd.sizeOf87
  v167 := Tryd.zeroValue87
  t175 := Tryd.underlying101
  a175 := Tryd.isAgg101
  z175 := Tryd.sizeOf101
  v175 := Tryd.zeroValue101
  t80 := Tryd.underlying115
  a80 := Tryd.isAgg115
  z80 := Tryd.sizeOf115
  v80 := Tryd.zeroValue115
  i0 := by kernel_rfl
  i2 := by kernel_rfl
  i3 := by kernel_rfl
  i4 := by kernel_rfl
  i5 := by kernel_rfl
  i9 := by kernel_rfl
  i21 := by kernel_rfl
  i37 := by kernel_rfl
  i46 := by kernel_rfl
  i53 := by kernel_rfl
  i75 := by kernel_rfl
  i80 := by kernel_rfl
  i85 := by kernel_rfl
  i167 := by kernel_rfl
  i175 := by kernel_rfl
  c0 := by kernel_rfl
  c2 := by kernel_rfl
  c3 := by kernel_rfl
  c4 := by kernel_rfl
  c5 := by kernel_rfl
  c9 := by kernel_rfl
  c21 := by kernel_rfl
  c37 := by kernel_rfl
  c46 := by kernel_rfl
  c53 := by kernel_rfl
  c75 := by kernel_rfl
  c80 := by kernel_rfl
  c85 := by kernel_rfl
  c167 := by kernel_rfl
  c175 := by kernel_rfl }
open Go.RowKit in
/-- internal/strconv.Atoi, AT EVERY STRING OF 19 BYTES OR MORE: 'Lib.atoiAll' OF ITS BYTES: (the number, nil); (0, ErrSyntax); (the greatest or the least int by the sign, ErrRange). (LAID: no walk: one application.) -/
theorem Tryd.internal_strconv_Atoi_long (s : ByteArray) (h19 : 19 ≤ s.size) (hmax : s.size ≤ 9223372036854775806) (w : World) :
    Calls Tryd.prog 63 #[.string s] w fun e w' => e = .returned (Lib.intTuple 87 (Lib.atoiSat s.data.toList) (Lib.atoiAll s.data.toList)) ∧ (w' = w ∨ ∃ t, w' = Lib.bytesWorld w 5 t) := Any.internal_strconv_Atoi_long Tryd.laysC244 s h19 hmax w
open Go.RowKit in
/-- internal/strconv.Atoi, AT EVERY STRING: 'Lib.atoiAll' OF ITS BYTES: (the number, nil); (0, ErrSyntax); (the greatest or the least int by the sign, ErrRange). The world: as it was, or with the one new row that '[]byte(..)' lays. (LAID: no walk: one application.) -/
theorem Tryd.internal_strconv_Atoi_all (s : ByteArray) (hmax : s.size ≤ 9223372036854775806) (w : World) :
    Calls Tryd.prog 63 #[.string s] w fun e w' => e = .returned (Lib.intTuple 87 (Lib.atoiSat s.data.toList) (Lib.atoiAll s.data.toList)) ∧ (w' = w ∨ ∃ t, w' = Lib.bytesWorld w 5 t) := Any.internal_strconv_Atoi_all Tryd.laysC244 s hmax w
def Tryd.laysM280_ren : Go.Shelf.Ren := ⟨fun | 280 => 76 | 316 => 86 | n => n, fun | 9 => 9 | 168 => 90 | 75 => 73 | 210 => 105 | 3 => 3 | 4 => 4 | 37 => 76 | 0 => 0 | 127 => 109 | 80 => 115 | 5 => 5 | n => n, fun | 16 => 5 | n => n⟩
theorem Tryd.laysM280 : Go.Proofs.LaysM.n280 Tryd.prog Tryd.laysM280_ren := {
  mixed := by kernel_rfl
  f280 := Tryd.func76.trans (congrArg some (by kernel_rfl))
  f316 := Tryd.func86.trans (congrArg some (by kernel_rfl))
  t0 := Tryd.underlying0
  a0 := Tryd.isAgg0
  z0 := Tryd.sizeOf0
  v0 := Tryd.zeroValue0
  t3 := Tryd.underlying3
  a3 := Tryd.isAgg3
  z3 := Tryd.sizeOf3
  v3 := Tryd.zeroValue3
  t4 := Tryd.underlying4
  a4 := Tryd.isAgg4
  z4 := Tryd.sizeOf4
  v4 := Tryd.zeroValue4
  t9 := Tryd.underlying9
  a9 := Tryd.isAgg9
  z9 := Tryd.sizeOf9
  v9 := Tryd.zeroValue9
  t37 := Tryd.underlying76
  a37 := Tryd.isAgg76
  z37 := Tryd.sizeOf76
  v37 := Tryd.zeroValue76
  t75 := Tryd.underlying73
  a75 := Tryd.isAgg73
  z75 := Tryd.sizeOf73
  v75 := Tryd.zeroValue73
  t127 := Tryd.underlying109
  a127 := Tryd.isAgg109
  z127 := Tryd.sizeOf109
  v127 := Tryd.zeroValue109
  t168 := Tryd.underlying90
  a168 := Tryd.isAgg90
  z168 := Tryd.sizeOf90
  v168 := Tryd.zeroValue90
  t210 := Tryd.underlying105
  a210 := Tryd.isAgg105
  z210 := Tryd.sizeOf105
  v210 := Tryd.zeroValue105
  g16 := by kernel_rfl
  t5 := Tryd.underlying5
  a5 := Tryd.isAgg5
  z5 := Tryd.sizeOf5
  v5 := Tryd.zeroValue5
  t80 := Tryd.underlying115
  a80 := Tryd.isAgg115
  z80 := Tryd.sizeOf115
  v80 := Tryd.zeroValue115
  i0 := by kernel_rfl
  i3 := by kernel_rfl
  i4 := by kernel_rfl
  i5 := by kernel_rfl
  i9 := by kernel_rfl
  i37 := by kernel_rfl
  i75 := by kernel_rfl
  i80 := by kernel_rfl
  i127 := by kernel_rfl
  i168 := by kernel_rfl
  i210 := by kernel_rfl
  m16 := by kernel_rfl }
open Go.RowKit in
/-- strconv.rangeError: '&NumError{fn, stringslite.Clone(str), ErrRange}': A POINTER TO A NEW BLOCK that holds fn, str's bytes, and what the variable ErrRange holds. Of what was there nothing has turned. (LAID: no walk: one application.) -/
theorem Tryd.strconv_rangeError (fn s : ByteArray) (ev : Value) (w : World) (hlim : s.size ≤ 281474976710656) (hv : w.cell? ⟨5, 0, none⟩ = some ev) (hev : ev = .nilIface ∨ ∃ te pe, ev = .iface te pe) :
    Calls Tryd.prog 76 #[.string fn, .string s] w fun e w' => ∃ N, e = .returned (.pointer (some ⟨N, 0, none⟩)) ∧ w.heap.size ≤ N ∧ w'.heap[N]? = some (.cells #[.string fn, .string s, ev] 105 (0, 0)) ∧ Below w.heap.size w w' := Any.strconv_rangeError Tryd.laysM280 fn s ev w hlim hv hev
open Go.RowKit in
/-- strconv.toError, at the inner package's ErrRange: 'rangeError(fn, s)' as an error: A *NumError IN A NEW BLOCK. (LAID: no walk: one application.) -/
theorem Tryd.strconv_toError_range (fn s : ByteArray) (base bits : Int) (ev : Value) (w : World) (hlim : s.size ≤ 281474976710656) (hv : w.cell? ⟨5, 0, none⟩ = some ev) (hev : ev = .nilIface ∨ ∃ te pe, ev = .iface te pe) :
    Calls Tryd.prog 64 #[.string fn, .string s, .int .i64 base, .int .i64 bits, .iface 87 (.int .i64 1)] w fun e w' => ∃ N, e = .returned (.iface 90 (.pointer (some ⟨N, 0, none⟩))) ∧ w.heap.size ≤ N ∧ w'.heap[N]? = some (.cells #[.string fn, .string s, ev] 105 (0, 0)) ∧ Below w.heap.size w w' := Any.strconv_toError_range Tryd.laysC245 fn s base bits ev w hlim hv hev
def Tryd.laysC172_ren : Go.Shelf.Ren := ⟨fun | 172 => 59 | 244 => 63 | 245 => 64 | 247 => 74 | 279 => 75 | 280 => 76 | 281 => 77 | 282 => 78 | 287 => 85 | 316 => 86 | 171 => 45 | 205 => 87 | 321 => 90 | 322 => 91 | 243 => 57 | 246 => 61 | 283 => 66 | 284 => 67 | 285 => 68 | 286 => 69 | 129 => 65 | 317 => 79 | 318 => 80 | 319 => 81 | 320 => 82 | 337 => 88 | 338 => 89 | n => n, fun | 9 => 9 | 3 => 3 | 75 => 73 | 76 => 74 | 4 => 4 | 5 => 5 | 167 => 87 | 37 => 76 | 0 => 0 | 85 => 88 | 2 => 2 | 168 => 90 | 53 => 46 | 175 => 101 | 46 => 68 | 210 => 105 | 127 => 109 | 145 => 112 | 143 => 110 | 21 => 21 | 171 => 81 | 173 => 83 | 212 => 94 | 51 => 95 | 20 => 20 | 213 => 96 | 232 => 113 | 233 => 114 | 80 => 115 | n => n, fun | 15 => 4 | 16 => 5 | 17 => 3 | 18 => 6 | 19 => 7 | n => n⟩
theorem Tryd.laysC172 : Go.Proofs.LaysC.n172 Tryd.prog Tryd.laysC172_ren := {
  mixed := by kernel_rfl
  f129 := Tryd.func65.trans (congrArg some (by kernel_rfl))
  f171 := Tryd.func45.trans (congrArg some (by kernel_rfl))
  f172 := Tryd.func59.trans (congrArg some (by kernel_rfl))
  f205 := Tryd.func87.trans (congrArg some (by kernel_rfl))
  f243 := Tryd.func57.trans (congrArg some (by kernel_rfl))
  f244 := Tryd.func63.trans (congrArg some (by kernel_rfl))
  f245 := Tryd.func64.trans (congrArg some (by kernel_rfl))
  f246 := Tryd.func61.trans (congrArg some (by kernel_rfl))
  f247 := Tryd.func74.trans (congrArg some (by kernel_rfl))
  f279 := Tryd.func75.trans (congrArg some (by kernel_rfl))
  f280 := Tryd.func76.trans (congrArg some (by kernel_rfl))
  f281 := Tryd.func77.trans (congrArg some (by kernel_rfl))
  f282 := Tryd.func78.trans (congrArg some (by kernel_rfl))
  f283 := Tryd.func66.trans (congrArg some (by kernel_rfl))
  f284 := Tryd.func67.trans (congrArg some (by kernel_rfl))
  f285 := Tryd.func68.trans (congrArg some (by kernel_rfl))
  f286 := Tryd.func69.trans (congrArg some (by kernel_rfl))
  f287 := Tryd.func85.trans (congrArg some (by kernel_rfl))
  f316 := Tryd.func86.trans (congrArg some (by kernel_rfl))
  f317 := Tryd.func79.trans (congrArg some (by kernel_rfl))
  f318 := Tryd.func80.trans (congrArg some (by kernel_rfl))
  f319 := Tryd.func81.trans (congrArg some (by kernel_rfl))
  f320 := Tryd.func82.trans (congrArg some (by kernel_rfl))
  f321 := Tryd.func90.trans (congrArg some (by kernel_rfl))
  f322 := Tryd.func91.trans (congrArg some (by kernel_rfl))
  f337 := Tryd.func88.trans (congrArg some (by kernel_rfl))
  f338 := Tryd.func89.trans (congrArg some (by kernel_rfl))
  t0 := Tryd.underlying0
  a0 := Tryd.isAgg0
  z0 := Tryd.sizeOf0
  v0 := Tryd.zeroValue0
  t2 := Tryd.underlying2
  a2 := Tryd.isAgg2
  z2 := Tryd.sizeOf2
  v2 := Tryd.zeroValue2
  t3 := Tryd.underlying3
  a3 := Tryd.isAgg3
  z3 := Tryd.sizeOf3
  v3 := Tryd.zeroValue3
  t4 := Tryd.underlying4
  a4 := Tryd.isAgg4
  z4 := Tryd.sizeOf4
  v4 := Tryd.zeroValue4
  t5 := Tryd.underlying5
  a5 := Tryd.isAgg5
  z5 := Tryd.sizeOf5
  v5 := Tryd.zeroValue5
  t9 := Tryd.underlying9
  a9 := Tryd.isAgg9
  z9 := Tryd.sizeOf9
  v9 := Tryd.zeroValue9
  t20 := Tryd.underlying20
  a20 := Tryd.isAgg20
  z20 := Tryd.sizeOf20
  v20 := Tryd.zeroValue20
  t21 := Tryd.underlying21
  a21 := Tryd.isAgg21
  z21 := Tryd.sizeOf21
  v21 := Tryd.zeroValue21
  t37 := Tryd.underlying76
  a37 := Tryd.isAgg76
  z37 := Tryd.sizeOf76
  v37 := Tryd.zeroValue76
  t46 := Tryd.underlying68
  a46 := Tryd.isAgg68
  z46 := Tryd.sizeOf68
  v46 := Tryd.zeroValue68
  t51 := Tryd.underlying95
  a51 := Tryd.isAgg95
  z51 := Tryd.sizeOf95
  v51 := Tryd.zeroValue95
  t53 := Tryd.underlying46
  a53 := Tryd.isAgg46
  z53 := Tryd.sizeOf46
  v53 := Tryd.zeroValue46
  t75 := Tryd.underlying73
  a75 := Tryd.isAgg73
  z75 := Tryd.sizeOf73
  v75 := Tryd.zeroValue73
  t76 := Tryd.underlying74
  a76 := Tryd.isAgg74
  z76 := Tryd.sizeOf74
  v76 := Tryd.zeroValue74
  t85 := Tryd.underlying88
  a85 := Tryd.isAgg88
  z85 := Tryd.sizeOf88
  v85 := Tryd.zeroValue88
  t127 := Tryd.underlying109
  a127 := Tryd.isAgg109
  z127 := Tryd.sizeOf109
  v127 := Tryd.zeroValue109
  t143 := Tryd.underlying110
  a143 := Tryd.isAgg110
  z143 := Tryd.sizeOf110
  v143 := Tryd.zeroValue110
  t145 := Tryd.underlying112
  a145 := Tryd.isAgg112
  z145 := Tryd.sizeOf112
  v145 := Tryd.zeroValue112
  t167 := Tryd.underlying87
  a167 := Tryd.isAgg87
  z167 := Tryd.sizeOf87
  v167 := Tryd.zeroValue87
  t168 := Tryd.underlying90
  a168 := Tryd.isAgg90
  z168 := Tryd.sizeOf90
  v168 := Tryd.zeroValue90
  t171 := Tryd.underlying81
  a171 := Tryd.isAgg81
  z171 := Tryd.sizeOf81
  v171 := Tryd.zeroValue81
  t173 := Tryd.underlying83
  a173 := Tryd.isAgg83
  z173 := Tryd.sizeOf83
  v173 := Tryd.zeroValue83
  t175 := Tryd.underlying101
  a175 := Tryd.isAgg101
  z175 := Tryd.sizeOf101
  v175 := Tryd.zeroValue101
  t210 := Tryd.underlying105
  a210 := Tryd.isAgg105
  z210 := Tryd.sizeOf105
  v210 := Tryd.zeroValue105
  t212 := Tryd.underlying94
  a212 := Tryd.isAgg94
  z212 := Tryd.sizeOf94
  v212 := Tryd.zeroValue94
  t213 := Tryd.underlying96
  a213 := Tryd.isAgg96
  z213 := Tryd.sizeOf96
  t232 := Tryd.underlying113
  a232 := Tryd.isAgg113
  z232 := Tryd.sizeOf113
  v232 := Tryd.zeroValue113
  t233 := Tryd.underlying114
  a233 := Tryd.isAgg114
  z233 := Tryd.sizeOf114
  v233 := Tryd.zeroValue114
  g15 := by kernel_rfl
  g16 := by kernel_rfl
  g17 := by kernel_rfl
  g18 := by kernel_rfl
  g19 := by kernel_rfl
  t80 := Tryd.underlying115
  a80 := Tryd.isAgg115
  z80 := Tryd.sizeOf115
  v80 := Tryd.zeroValue115
  i0 := by kernel_rfl
  i2 := by kernel_rfl
  i3 := by kernel_rfl
  i4 := by kernel_rfl
  i5 := by kernel_rfl
  i9 := by kernel_rfl
  i20 := by kernel_rfl
  i21 := by kernel_rfl
  i37 := by kernel_rfl
  i46 := by kernel_rfl
  i51 := by kernel_rfl
  i53 := by kernel_rfl
  i75 := by kernel_rfl
  i76 := by kernel_rfl
  i80 := by kernel_rfl
  i85 := by kernel_rfl
  i127 := by kernel_rfl
  i143 := by kernel_rfl
  i145 := by kernel_rfl
  i167 := by kernel_rfl
  i168 := by kernel_rfl
  i171 := by kernel_rfl
  i173 := by kernel_rfl
  i175 := by kernel_rfl
  i210 := by kernel_rfl
  i212 := by kernel_rfl
  i232 := by kernel_rfl
  i233 := by kernel_rfl
  m15 := by kernel_rfl
  m16 := by kernel_rfl
  m17 := by kernel_rfl
  m18 := by kernel_rfl
  m19 := by kernel_rfl
  c0 := by kernel_rfl
  c2 := by kernel_rfl
  c3 := by kernel_rfl
  c4 := by kernel_rfl
  c5 := by kernel_rfl
  c9 := by kernel_rfl
  c20 := by kernel_rfl
  c21 := by kernel_rfl
  c37 := by kernel_rfl
  c46 := by kernel_rfl
  c51 := by kernel_rfl
  c53 := by kernel_rfl
  c75 := by kernel_rfl
  c76 := by kernel_rfl
  c80 := by kernel_rfl
  c85 := by kernel_rfl
  c127 := by kernel_rfl
  c143 := by kernel_rfl
  c145 := by kernel_rfl
  c167 := by kernel_rfl
  c168 := by kernel_rfl
  c171 := by kernel_rfl
  c173 := by kernel_rfl
  c175 := by kernel_rfl
  c210 := by kernel_rfl
  c212 := by kernel_rfl
  c213 := by kernel_rfl
  c232 := by kernel_rfl
  c233 := by kernel_rfl }
open Go.RowKit in
/-- strconv.Atoi, AT EVERY STRING THAT SPELLS AN int ('Lib.atoiAll .. = .ok v'; of whatever length: leading zeros count): v, AND NO ERROR. The world: as it was, or with the one new row that '[]byte(..)' lays. (LAID: no walk: one application.) -/
theorem Tryd.strconv_Atoi_ok (s : ByteArray) (hmax : s.size ≤ 9223372036854775806) (v : Int) (h : Lib.atoiAll s.data.toList = .ok v) (w : World) :
    Calls Tryd.prog 59 #[.string s] w fun e w' => e = .returned (.tuple #[.int .i64 v, .nilIface]) ∧ (w' = w ∨ ∃ t, w' = Lib.bytesWorld w 5 t) := Any.strconv_Atoi_ok Tryd.laysC172 s hmax v h w
open Go.RowKit in
/-- strconv.Atoi, AT EVERY STRING THAT IS NO DECIMAL NUMERAL ('.syntax'): 0, AND AN ERROR THAT IS NOT nil: a *NumError in a new block N: {Func: "Atoi", Num: s's bytes, Err: what the variable ErrSyntax holds}. Of what was there nothing has turned. (LAID: no walk: one application.) -/
theorem Tryd.strconv_Atoi_syntax (s : ByteArray) (hlim : s.size ≤ 281474976710656) (h : Lib.atoiAll s.data.toList = .«syntax») (ev : Value) (w : World) (hv : w.cell? ⟨4, 0, none⟩ = some ev) (hev : ev = .nilIface ∨ ∃ te pe, ev = .iface te pe) :
    Calls Tryd.prog 59 #[.string s] w fun e w' => ∃ N, e = .returned (.tuple #[.int .i64 (0), .iface 90 (.pointer (some ⟨N, 0, none⟩))]) ∧ w.heap.size ≤ N ∧ w'.heap[N]? = some (.cells #[.string ⟨#[65, 116, 111, 105]⟩, .string s, ev] 105 (0, 0)) ∧ Below w.heap.size w w' := Any.strconv_Atoi_syntax Tryd.laysC172 s hlim h ev w hv hev
open Go.RowKit in
/-- strconv.Atoi, AT EVERY NUMERAL THAT NO int HOLDS ('.range'): THE GREATEST OR THE LEAST int, BY THE SIGN ('Lib.atoiSat'), AND AN ERROR THAT IS NOT nil: a *NumError in a new block N: {Func: "Atoi", Num: s's bytes, Err: what the variable ErrRange holds}. Of what was there nothing has turned. (LAID: no walk: one application.) -/
theorem Tryd.strconv_Atoi_range (s : ByteArray) (hlim : s.size ≤ 281474976710656) (h : Lib.atoiAll s.data.toList = .range) (ev : Value) (w : World) (hv : w.cell? ⟨5, 0, none⟩ = some ev) (hev : ev = .nilIface ∨ ∃ te pe, ev = .iface te pe) :
    Calls Tryd.prog 59 #[.string s] w fun e w' => ∃ N, e = .returned (.tuple #[.int .i64 (Lib.atoiSat s.data.toList), .iface 90 (.pointer (some ⟨N, 0, none⟩))]) ∧ w.heap.size ≤ N ∧ w'.heap[N]? = some (.cells #[.string ⟨#[65, 116, 111, 105]⟩, .string s, ev] 105 (0, 0)) ∧ Below w.heap.size w w' := Any.strconv_Atoi_range Tryd.laysC172 s hlim h ev w hv hev
open Go.RowKit in
theorem Tryd.strconv_Atoi_syntax_var (s : ByteArray) (hlim : s.size ≤ 281474976710656) (h : Lib.atoiAll s.data.toList = .«syntax») (tp : TypeId) (p : Value) (w : World) (hvar : w.var? Tryd.prog "strconv.ErrSyntax" = some #[.iface tp p]) :
    Calls Tryd.prog 59 #[.string s] w fun e w' => ∃ N, e = .returned (.tuple #[.int .i64 0, .iface 90 (.pointer (some ⟨N, 0, none⟩))]) ∧ w.heap.size ≤ N ∧ w'.heap[N]? = some (.cells #[.string ⟨#[65, 116, 111, 105]⟩, .string s, .iface tp p] 105 (0, 0)) ∧ Below w.heap.size w w' := Any.strconv_Atoi_syntax_var Tryd.laysC172 s hlim h tp p w hvar
open Go.RowKit in
theorem Tryd.strconv_Atoi_range_var (s : ByteArray) (hlim : s.size ≤ 281474976710656) (h : Lib.atoiAll s.data.toList = .range) (tp : TypeId) (p : Value) (w : World) (hvar : w.var? Tryd.prog "strconv.ErrRange" = some #[.iface tp p]) :
    Calls Tryd.prog 59 #[.string s] w fun e w' => ∃ N, e = .returned (.tuple #[.int .i64 (Lib.atoiSat s.data.toList), .iface 90 (.pointer (some ⟨N, 0, none⟩))]) ∧ w.heap.size ≤ N ∧ w'.heap[N]? = some (.cells #[.string ⟨#[65, 116, 111, 105]⟩, .string s, .iface tp p] 105 (0, 0)) ∧ Below w.heap.size w w' := Any.strconv_Atoi_range_var Tryd.laysC172 s hlim h tp p w hvar
end Go.Proofs
