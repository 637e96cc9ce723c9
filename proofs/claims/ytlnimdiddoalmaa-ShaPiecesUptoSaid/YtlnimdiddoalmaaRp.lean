/- strings.Repeat. -/
import Derived.Test.YtlnimdiddoalmaaSxC
import Derived.Test.YtlnimdiddoalmaaChecked
import Derived.Shelf.Strings.Repeat

set_option linter.unusedVariables false
set_option linter.unusedSimpArgs false
set_option maxRecDepth 100000
namespace Go.Proofs
open Go.Shelf Go.RowKit Go.Sx
def layRepeat_ren : Go.Shelf.Ren := ⟨fun | 105 => 31 | 212 => 37 | 99 => 38 | 165 => 39 | 166 => 40 | 170 => 41 | 169 => 42 | 263 => 46 | 264 => 47 | 206 => 48 | 240 => 49 | 241 => 50 | 276 => 51 | 277 => 52 | n => n, fun | 9 => 9 | 3 => 3 | 4 => 4 | 20 => 20 | 0 => 0 | 46 => 48 | 109 => 63 | 5 => 5 | 72 => 67 | 76 => 71 | 51 => 36 | 146 => 73 | 53 => 50 | 148 => 75 | 70 => 65 | 37 => 23 | 75 => 70 | 127 => 77 | 164 => 78 | 80 => 43 | n => n, fun n => n⟩
theorem layRepeat : Lays.n105 Try.prog layRepeat_ren where
  mixed := by kernel_rfl
  f99 := Try.func38.trans (congrArg some (by kernel_rfl))
  f105 := Try.func31.trans (congrArg some (by kernel_rfl))
  f165 := Try.func39.trans (congrArg some (by kernel_rfl))
  f166 := Try.func40.trans (congrArg some (by kernel_rfl))
  f169 := Try.func42.trans (congrArg some (by kernel_rfl))
  f170 := Try.func41.trans (congrArg some (by kernel_rfl))
  f206 := Try.func48.trans (congrArg some (by kernel_rfl))
  f212 := Try.func37.trans (congrArg some (by kernel_rfl))
  f240 := Try.func49.trans (congrArg some (by kernel_rfl))
  f241 := Try.func50.trans (congrArg some (by kernel_rfl))
  f263 := Try.func46.trans (congrArg some (by kernel_rfl))
  f264 := Try.func47.trans (congrArg some (by kernel_rfl))
  f276 := Try.func51.trans (congrArg some (by kernel_rfl))
  f277 := Try.func52.trans (congrArg some (by kernel_rfl))
  t0 := Try.underlying0
  a0 := Try.isAgg0
  z0 := Try.sizeOf0
  v0 := Try.zeroValue0
  t3 := Try.underlying3
  a3 := Try.isAgg3
  z3 := Try.sizeOf3
  v3 := Try.zeroValue3
  t4 := Try.underlying4
  a4 := Try.isAgg4
  z4 := Try.sizeOf4
  v4 := Try.zeroValue4
  t5 := Try.underlying5
  a5 := Try.isAgg5
  z5 := Try.sizeOf5
  v5 := Try.zeroValue5
  t9 := Try.underlying9
  a9 := Try.isAgg9
  z9 := Try.sizeOf9
  v9 := Try.zeroValue9
  t20 := Try.underlying20
  a20 := Try.isAgg20
  z20 := Try.sizeOf20
  v20 := Try.zeroValue20
  t37 := Try.underlying23
  a37 := Try.isAgg23
  z37 := Try.sizeOf23
  v37 := Try.zeroValue23
  t46 := Try.underlying48
  a46 := Try.isAgg48
  z46 := Try.sizeOf48
  v46 := Try.zeroValue48
  t51 := Try.underlying36
  a51 := Try.isAgg36
  z51 := Try.sizeOf36
  v51 := Try.zeroValue36
  t53 := Try.underlying50
  a53 := Try.isAgg50
  z53 := Try.sizeOf50
  v53 := Try.zeroValue50
  t70 := Try.underlying65
  a70 := Try.isAgg65
  z70 := Try.sizeOf65
  v70 := Try.zeroValue65
  t72 := Try.underlying67
  a72 := Try.isAgg67
  z72 := Try.sizeOf67
  v72 := Try.zeroValue67
  t75 := Try.underlying70
  a75 := Try.isAgg70
  z75 := Try.sizeOf70
  v75 := Try.zeroValue70
  t76 := Try.underlying71
  a76 := Try.isAgg71
  z76 := Try.sizeOf71
  v76 := Try.zeroValue71
  t109 := Try.underlying63
  a109 := Try.isAgg63
  z109 := Try.sizeOf63
  v109 := Try.zeroValue63
  t127 := Try.underlying77
  a127 := Try.isAgg77
  z127 := Try.sizeOf77
  v127 := Try.zeroValue77
  t146 := Try.underlying73
  a146 := Try.isAgg73
  z146 := Try.sizeOf73
  v146 := Try.zeroValue73
  t148 := Try.underlying75
  a148 := Try.isAgg75
  z148 := Try.sizeOf75
  v148 := Try.zeroValue75
  t164 := Try.underlying78
  a164 := Try.isAgg78
  z164 := Try.sizeOf78
  v164 := Try.zeroValue78
theorem layRepeat_extra : Builder.Extra Try.prog layRepeat_ren where
  sizeBuilder := by kernel_rfl
  liesBuilder := by kernel_rfl
  t5 := layRepeat.t5
  a5 := layRepeat.a5
  z5 := layRepeat.z5
  v5 := layRepeat.v5
  infoByte := by kernel_rfl
  cellsByte := by kernel_rfl
  sizeByte := by kernel_rfl
  neB5 := by decide
theorem repS {s : ByteArray} {c : Nat} {H : Hp} {n : Nat} (h1 : c ≤ 9223372036854775807) (h2 : s.size * c ≤ 140737488355328) : SpecAt Try.prog 31 [.v (.string s), .v (.int .i64 c)] H n (.v (.string ⟨(Lib.repeatL s.data.toList c).toArray⟩)) H n :=
  spec_plain (xs := [.string s, .int .i64 c]) fun w => Any.strings_Repeat layRepeat layRepeat_extra s c w h1 h2
end Go.Proofs
