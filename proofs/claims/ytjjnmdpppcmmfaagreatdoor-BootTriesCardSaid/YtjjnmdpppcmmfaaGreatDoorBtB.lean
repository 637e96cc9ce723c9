/- The functions' code, with its types resolved, as the table of the program has it. -/
import Derived.Test.YtjjnmdpppcmmfaaGreatDoorSxC
import Derived.Test.YtjjnmdpppcmmfaaGreatDoorChecked
import Derived.Shelf.SlMaps.Clone
import Derived.Shelf.SlIter.Sorted
import Derived.Shelf.SortM.Plain
import Derived.Shelf.SortM.SortNone
import Derived.Shelf.Strings.BuilderF
import Derived.Test.YtjjnmdpppcmmfaaGreatDoorBtA
import Derived.Laws.Strings

set_option maxRecDepth 100000
namespace Go.Sx
def mBootTries : MFn := .mk 131 (.seq (.reg false [⟨some 6, (.mov (.k (.v (.bool false)))), none⟩]) (.seq (.seq (.reg false [⟨some 16, (.call 8 []), none⟩, ⟨some 17, (.un .not (.t 16)), none⟩]) (.cond (.t 17) (.seq (.reg false [⟨some 6, (.mov (.k (.v (.bool false)))), none⟩]) .ret) .skip)) (.seq (.reg false [⟨some 18, .mov (.t 0), none⟩, ⟨some 19, (.conv .i64 (.t 18)), none⟩, ⟨some 20, (.bin .rem (.t 19) (.k (.v (.int .i64 8)))), none⟩, ⟨some 21, (.bin .add (.k (.v (.int .i64 1))) (.t 20)), none⟩, ⟨some 7, .mov (.t 21), none⟩]) (.seq (.reg false [⟨some 22, .mov (.t 2), none⟩, ⟨some 23, .mov (.t 2), none⟩, ⟨some 24, (.lenS (.t 23)), none⟩, ⟨some 25, (.mm true (.t 24) [(.k (.v (.int .i64 500)))]), none⟩, ⟨some 26, (.slS (.t 22) .none (.some (.t 25))), none⟩, ⟨some 27, (.bin .add (.k (.v (.string ⟨#[110, 101, 119]⟩))) (.t 26)), none⟩, ⟨some 2, .mov (.t 27), none⟩]) (.seq (.reg false [⟨some 29, (.call 9 [(.k (.v (.int .i64 40)))]), none⟩, ⟨some 28, .mov (.t 29), none⟩, ⟨some 30, (.ext (.t 28) 0), none⟩, ⟨some 31, (.ext (.t 28) 1), none⟩, ⟨some 8, .mov (.t 30), none⟩, ⟨some 9, .mov (.t 31), none⟩]) (.seq (.reg false [⟨some 33, .mov (.t 8), none⟩, ⟨some 34, (.call 17 [(.t 33), (.k (.v (.int .i64 0))), (.k (.v (.int .i64 4))), (.k (.v (.int .i64 10)))]), none⟩, ⟨some 32, .mov (.t 34), none⟩, ⟨some 35, (.ext (.t 32) 0), none⟩, ⟨some 36, (.ext (.t 32) 1), none⟩, ⟨some 10, .mov (.t 35), none⟩, ⟨some 11, .mov (.t 36), none⟩]) (.seq (.seq (.reg false [⟨some 37, .mov (.t 10), none⟩, ⟨some 38, (.binP .eql (.t 37) (.k (.v (.pointer .none)))), none⟩, ⟨some 39, .mov (.t 38), none⟩, ⟨some 40, (.mov (.t 11)), (.some (39, false))⟩, ⟨some 41, (.bin .neq (.t 40) (.k (.v (.int .i64 0)))), (.some (39, false))⟩, ⟨some 42, (.pick (.t 39) (.k (.v (.bool true))) (.t 41)), none⟩, ⟨some 43, .mov (.t 42), none⟩, ⟨some 44, (.mov (.t 10)), (.some (43, false))⟩, ⟨some 45, (.call 24 [(.t 44), (.k (.v (.int .i64 9))), (.k (.v (.string ⟨#[111, 108, 100]⟩)))]), (.some (43, false))⟩, ⟨some 46, (.bin .neq (.t 45) (.k (.v (.int .i64 0)))), (.some (43, false))⟩, ⟨some 47, (.pick (.t 43) (.k (.v (.bool true))) (.t 46)), none⟩, ⟨some 48, .mov (.t 47), none⟩, ⟨some 49, (.mov (.t 10)), (.some (48, false))⟩, ⟨some 50, (.mov (.t 2)), (.some (48, false))⟩, ⟨some 51, (.mov (.t 7)), (.some (48, false))⟩, ⟨some 52, (.call 25 [(.t 49), (.k (.v (.int .i64 9))), (.t 50), (.t 51)]), (.some (48, false))⟩, ⟨some 53, (.bin .neq (.t 52) (.k (.v (.int .i64 12)))), (.some (48, false))⟩, ⟨some 54, (.pick (.t 48) (.k (.v (.bool true))) (.t 53)), none⟩, ⟨some 55, .mov (.t 54), none⟩, ⟨some 56, (.mov (.t 10)), (.some (55, false))⟩, ⟨some 57, (.mov (.t 2)), (.some (55, false))⟩, ⟨some 58, (.mov (.t 7)), (.some (55, false))⟩, ⟨some 59, (.call 25 [(.t 56), (.k (.v (.int .i64 10))), (.t 57), (.t 58)]), (.some (55, false))⟩, ⟨some 60, (.bin .neq (.t 59) (.k (.v (.int .i64 0)))), (.some (55, false))⟩, ⟨some 61, (.pick (.t 55) (.k (.v (.bool true))) (.t 60)), none⟩]) (.cond (.t 61) (.seq (.reg false [⟨some 6, (.mov (.k (.v (.bool false)))), none⟩]) .ret) .skip)) (.seq (.seq (.reg false [⟨some 62, .mov (.t 7), none⟩, ⟨some 63, (.bin .add (.t 62) (.k (.v (.int .i64 3)))), none⟩, ⟨some 64, (.mov (.k (.v (.int .i64 0)))), none⟩]) (.block 0 (.loop (.seq (.reg false [⟨some 65, (.bin .lss (.t 64) (.t 63)), none⟩]) (.seq (.cond (.t 65) .skip (.exit 0)) (.seq (.block 1 (.seq (.reg false [⟨some 66, .mov (.t 64), none⟩, ⟨some 12, .mov (.t 66), none⟩]) (.seq (.seq (.reg false [⟨some 67, .mov (.t 1), none⟩, ⟨some 68, .mov (.t 12), none⟩, ⟨some 69, (.bin .shr (.t 67) (.t 68)), none⟩, ⟨some 70, (.bin .and (.t 69) (.k (.v (.int .u16 1)))), none⟩, ⟨some 71, (.bin .neq (.t 70) (.k (.v (.int .u16 0)))), none⟩]) (.cond (.t 71) (.seq (.reg false [⟨some 72, .mov (.t 8), none⟩, ⟨some 73, (.bld [(.sl 0 0 0 1)] []), none⟩, ⟨some 74, (.call 28 [(.t 72), (.t 73)]), none⟩]) (.seq (.reg false [⟨some 76, .mov (.t 8), none⟩, ⟨some 77, (.call 17 [(.t 76), (.k (.v (.int .i64 0))), (.k (.v (.int .i64 4))), (.k (.v (.int .i64 10)))]), none⟩, ⟨some 75, .mov (.t 77), none⟩, ⟨some 78, (.ext (.t 75) 0), none⟩, ⟨some 79, (.ext (.t 75) 1), none⟩, ⟨some 10, .mov (.t 78), none⟩, ⟨some 11, .mov (.t 79), none⟩]) (.seq (.reg false [⟨some 80, .mov (.t 10), none⟩, ⟨some 81, (.binP .eql (.t 80) (.k (.v (.pointer .none)))), none⟩, ⟨some 82, .mov (.t 81), none⟩, ⟨some 83, (.mov (.t 11)), (.some (82, false))⟩, ⟨some 84, (.bin .neq (.t 83) (.k (.v (.int .i64 0)))), (.some (82, false))⟩, ⟨some 85, (.pick (.t 82) (.k (.v (.bool true))) (.t 84)), none⟩]) (.cond (.t 85) (.seq (.reg false [⟨some 6, (.mov (.k (.v (.bool false)))), none⟩]) .ret) .skip)))) .skip)) (.seq (.reg false [⟨some 87, .mov (.t 10), none⟩, ⟨some 88, (.call 21 [(.t 87)]), none⟩, ⟨some 86, .mov (.t 88), none⟩, ⟨some 89, (.ext (.t 86) 0), none⟩, ⟨some 90, (.ext (.t 86) 1), none⟩, ⟨some 91, (.ext (.t 86) 2), none⟩, ⟨some 13, .mov (.t 89), none⟩, ⟨some 14, .mov (.t 90), none⟩, ⟨some 15, .mov (.t 91), none⟩]) (.seq (.reg false [⟨some 92, .mov (.t 15), none⟩, ⟨some 93, (.bin .neq (.t 92) (.k (.v (.int .i64 0)))), none⟩, ⟨some 94, .mov (.t 93), none⟩, ⟨some 95, (.mov (.t 12)), (.some (94, false))⟩, ⟨some 96, (.mov (.t 7)), (.some (94, false))⟩, ⟨some 97, (.bin .lss (.t 95) (.t 96)), (.some (94, false))⟩, ⟨some 98, (.mov (.t 97)), (.some (94, false))⟩, ⟨some 99, (.mov (.t 13)), (.some (98, true))⟩, ⟨some 100, (.bin .neq (.t 99) (.k (.v (.int .i64 10)))), (.some (98, true))⟩, ⟨some 101, (.mov (.t 100)), (.some (98, true))⟩, ⟨some 102, (.mov (.t 14)), (.some (101, false))⟩, ⟨some 103, (.mov (.t 2)), (.some (101, false))⟩, ⟨some 104, (.bin .neq (.t 102) (.t 103)), (.some (101, false))⟩, ⟨some 105, (.pick (.t 101) (.k (.v (.bool true))) (.t 104)), (.some (98, true))⟩, ⟨some 106, (.pick (.t 98) (.t 105) (.k (.v (.bool false)))), (.some (94, false))⟩, ⟨some 107, (.pick (.t 94) (.k (.v (.bool true))) (.t 106)), none⟩, ⟨some 108, .mov (.t 107), none⟩, ⟨some 109, (.mov (.t 12)), (.some (108, false))⟩, ⟨some 110, (.mov (.t 7)), (.some (108, false))⟩, ⟨some 111, (.bin .geq (.t 109) (.t 110)), (.some (108, false))⟩, ⟨some 112, (.mov (.t 111)), (.some (108, false))⟩, ⟨some 113, (.mov (.t 13)), (.some (112, true))⟩, ⟨some 114, (.bin .neq (.t 113) (.k (.v (.int .i64 9)))), (.some (112, true))⟩, ⟨some 115, (.mov (.t 114)), (.some (112, true))⟩, ⟨some 116, (.mov (.t 14)), (.some (115, false))⟩, ⟨some 117, (.bin .neq (.t 116) (.k (.v (.string ⟨#[111, 108, 100]⟩)))), (.some (115, false))⟩, ⟨some 118, (.pick (.t 115) (.k (.v (.bool true))) (.t 117)), (.some (112, true))⟩, ⟨some 119, (.pick (.t 112) (.t 118) (.k (.v (.bool false)))), (.some (108, false))⟩, ⟨some 120, (.pick (.t 108) (.k (.v (.bool true))) (.t 119)), none⟩]) (.cond (.t 120) (.seq (.reg false [⟨some 6, (.mov (.k (.v (.bool false)))), none⟩]) .ret) .skip)))))) (.reg false [⟨some 121, (.bin .add (.t 64) (.k (.v (.int .i64 1)))), none⟩, ⟨some 64, .mov (.t 121), none⟩]))))))) (.seq (.reg false [⟨some 122, .mov (.t 10), none⟩, ⟨some 123, (.call 23 [(.t 122)]), none⟩, ⟨some 124, (.bld [(.v (.int .i64 0)), (.v (.int .i64 0)), (.v (.int .i64 0)), (.v (.int .i64 0))] [(0, (1, (.k (.v (.int .i64 0))))), (1, (1, (.k (.v (.int .i64 (-1)))))), (3, (1, (.k (.v (.int .i64 9)))))]), none⟩, ⟨some 125, (.binA .eql (.t 123) (.t 124) [0, 0, 0, 0]), none⟩, ⟨some 126, .mov (.t 125), none⟩, ⟨some 127, (.mov (.t 10)), (.some (126, true))⟩, ⟨some 128, (.call 26 [(.t 127)]), (.some (126, true))⟩, ⟨some 129, (.bin .eql (.t 128) (.k (.v (.int .i64 0)))), (.some (126, true))⟩, ⟨some 130, (.pick (.t 126) (.t 129) (.k (.v (.bool false)))), none⟩, ⟨some 6, .mov (.t 130), none⟩]) .ret))))))))) [(.t 6)]
def mboots : MFn := .mk 59 (.seq (.reg false [⟨some 0, (.mov (.k (.v (.bool false)))), none⟩]) (.seq (.reg false [⟨some 11, (.call 9 [(.k (.v (.int .i64 30)))]), none⟩, ⟨some 10, .mov (.t 11), none⟩, ⟨some 12, (.ext (.t 10) 0), none⟩, ⟨some 13, (.ext (.t 10) 1), none⟩, ⟨some 1, .mov (.t 12), none⟩, ⟨some 2, .mov (.t 13), none⟩]) (.seq (.reg false [⟨some 15, .mov (.t 1), none⟩, ⟨some 16, (.call 17 [(.t 15), (.k (.v (.int .i64 0))), (.k (.v (.int .i64 4))), (.k (.v (.int .i64 4)))]), none⟩, ⟨some 14, .mov (.t 16), none⟩, ⟨some 17, (.ext (.t 14) 0), none⟩, ⟨some 18, (.ext (.t 14) 1), none⟩, ⟨some 3, .mov (.t 17), none⟩, ⟨some 4, .mov (.t 18), none⟩]) (.seq (.seq (.reg false [⟨some 19, .mov (.t 3), none⟩, ⟨some 20, (.binP .eql (.t 19) (.k (.v (.pointer .none)))), none⟩, ⟨some 21, .mov (.t 20), none⟩, ⟨some 22, (.mov (.t 4)), (.some (21, false))⟩, ⟨some 23, (.bin .neq (.t 22) (.k (.v (.int .i64 0)))), (.some (21, false))⟩, ⟨some 24, (.pick (.t 21) (.k (.v (.bool true))) (.t 23)), none⟩, ⟨some 25, .mov (.t 24), none⟩, ⟨some 26, (.mov (.t 3)), (.some (25, false))⟩, ⟨some 27, (.call 24 [(.t 26), (.k (.v (.int .i64 1))), (.k (.v (.string ⟨#[97]⟩)))]), (.some (25, false))⟩, ⟨some 28, (.bin .neq (.t 27) (.k (.v (.int .i64 0)))), (.some (25, false))⟩, ⟨some 29, (.pick (.t 25) (.k (.v (.bool true))) (.t 28)), none⟩, ⟨some 30, .mov (.t 29), none⟩, ⟨some 31, (.mov (.t 3)), (.some (30, false))⟩, ⟨some 32, (.call 25 [(.t 31), (.k (.v (.int .i64 2))), (.k (.v (.string ⟨#[98]⟩))), (.k (.v (.int .i64 2)))]), (.some (30, false))⟩, ⟨some 33, (.bin .neq (.t 32) (.k (.v (.int .i64 0)))), (.some (30, false))⟩, ⟨some 34, (.pick (.t 30) (.k (.v (.bool true))) (.t 33)), none⟩]) (.cond (.t 34) (.seq (.reg false [⟨some 0, (.mov (.k (.v (.bool false)))), none⟩]) .ret) .skip)) (.seq (.seq (.reg false [⟨some 35, (.rowS [(.k (.v (.string ⟨#[98]⟩))), (.k (.v (.string ⟨#[98]⟩))), (.k (.v (.string ⟨#[97]⟩)))]), none⟩, ⟨some 36, (.lenL (.t 35)), none⟩, ⟨some 37, (.mov (.k (.v (.int .i64 0)))), none⟩]) (.block 0 (.loop (.seq (.reg false [⟨some 38, (.bin .lss (.t 37) (.t 36)), none⟩]) (.seq (.cond (.t 38) .skip (.exit 0)) (.seq (.block 1 (.seq (.reg false [⟨some 39, (.idxA (.t 35) (.t 37) 1), none⟩, ⟨some 40, .ld (.t 39), none⟩, ⟨some 6, .mov (.t 40), none⟩]) (.seq (.reg false [⟨some 42, .mov (.t 3), none⟩, ⟨some 43, (.call 21 [(.t 42)]), none⟩, ⟨some 41, .mov (.t 43), none⟩, ⟨some 44, (.ext (.t 41) 0), none⟩, ⟨some 45, (.ext (.t 41) 1), none⟩, ⟨some 46, (.ext (.t 41) 2), none⟩, ⟨some 7, .mov (.t 44), none⟩, ⟨some 8, .mov (.t 45), none⟩, ⟨some 9, .mov (.t 46), none⟩]) (.seq (.reg false [⟨some 47, .mov (.t 8), none⟩, ⟨some 48, .mov (.t 6), none⟩, ⟨some 49, (.bin .neq (.t 47) (.t 48)), none⟩, ⟨some 50, .mov (.t 49), none⟩, ⟨some 51, (.mov (.t 9)), (.some (50, false))⟩, ⟨some 52, (.bin .neq (.t 51) (.k (.v (.int .i64 0)))), (.some (50, false))⟩, ⟨some 53, (.pick (.t 50) (.k (.v (.bool true))) (.t 52)), none⟩]) (.cond (.t 53) (.seq (.reg false [⟨some 0, (.mov (.k (.v (.bool false)))), none⟩]) .ret) .skip))))) (.reg false [⟨some 54, (.bin .add (.t 37) (.k (.v (.int .i64 1)))), none⟩, ⟨some 37, .mov (.t 54), none⟩]))))))) (.seq (.reg false [⟨some 55, .mov (.t 3), none⟩, ⟨some 56, (.call 23 [(.t 55)]), none⟩, ⟨some 57, (.bld [(.v (.int .i64 0)), (.v (.int .i64 0)), (.v (.int .i64 0)), (.v (.int .i64 0))] [(0, (1, (.k (.v (.int .i64 0))))), (1, (1, (.k (.v (.int .i64 (-1)))))), (3, (1, (.k (.v (.int .i64 1)))))]), none⟩, ⟨some 58, (.binA .eql (.t 56) (.t 57) [0, 0, 0, 0]), none⟩, ⟨some 0, .mov (.t 58), none⟩]) .ret)))))) [(.t 0)]
def mFNew : MFn := .mk 16 (.seq (.reg false [⟨some 2, (.mov (.k (.v (.pointer .none)))), none⟩, ⟨some 3, (.mov (.k (.v (.int .i64 0)))), none⟩]) (.seq (.seq (.reg false [⟨some 4, .mov (.t 0), none⟩, ⟨some 5, (.bin .lss (.t 4) (.k (.v (.int .i64 1)))), none⟩, ⟨some 6, .mov (.t 5), none⟩, ⟨some 7, (.mov (.t 0)), (.some (6, false))⟩, ⟨some 8, (.bin .gtr (.t 7) (.k (.v (.int .i64 4096)))), (.some (6, false))⟩, ⟨some 9, (.pick (.t 6) (.k (.v (.bool true))) (.t 8)), none⟩]) (.cond (.t 9) (.seq (.reg false [⟨some 2, (.mov (.k (.v (.pointer .none)))), none⟩, ⟨some 3, (.mov (.k (.v (.int .i64 1)))), none⟩]) .ret) .skip)) (.seq (.regD (.pure ⟨some 10, .mov (.t 0), none⟩ (.pure ⟨some 12, .mov (.t 0), none⟩ (.act ⟨some 11, (.mk (.ints .u8 (zi 64)) (.t 10) (.t 10) 64 64), none⟩ [] (.act ⟨some 13, (.mk (.ints .u8 (zi 64)) (.t 12) (.t 12) 64 64), none⟩ [] (.pure ⟨some 14, (.bld [(.sl 0 0 0 64), (.sl 0 0 0 64), (.sl 0 0 0 65), (.v (.int .i64 0)), (.v (.int .i64 0)), (.v (.bool false))] [(0, (1, (.t 11))), (1, (1, (.t 13)))]), none⟩ (.act ⟨some 15, (.box (.t 14)), none⟩ [] (.pure ⟨some 2, .mov (.t 15), none⟩ (.pure ⟨some 3, (.mov (.k (.v (.int .i64 0)))), none⟩ .fin)) .stop)) .stop) (.act ⟨some 13, (.mk (.ints .u8 (zi 64)) (.t 12) (.t 12) 64 64), none⟩ [] (.act ⟨some 11, (.mk (.ints .u8 (zi 64)) (.t 10) (.t 10) 64 64), none⟩ [] (.pure ⟨some 14, (.bld [(.sl 0 0 0 64), (.sl 0 0 0 64), (.sl 0 0 0 65), (.v (.int .i64 0)), (.v (.int .i64 0)), (.v (.bool false))] [(0, (1, (.t 11))), (1, (1, (.t 13)))]), none⟩ (.act ⟨some 15, (.box (.t 14)), none⟩ [] (.pure ⟨some 2, .mov (.t 15), none⟩ (.pure ⟨some 3, (.mov (.k (.v (.int .i64 0)))), none⟩ .fin)) .stop)) .stop) .stop))))) .ret))) [(.t 2), (.t 3)]
def mCOpen : MFn := .mk 84 (.seq (.reg false [⟨some 6, (.mov (.k (.v (.pointer .none)))), none⟩, ⟨some 7, (.mov (.k (.v (.int .i64 0)))), none⟩]) (.seq (.reg false [⟨some 14, .mov (.t 0), none⟩, ⟨some 15, (.call 34 [(.t 14)]), none⟩, ⟨some 8, .mov (.t 15), none⟩]) (.seq (.block 0 (.seq (.reg false [⟨some 17, .mov (.t 0), none⟩, ⟨some 18, (.binP .eql (.t 17) (.k (.v (.pointer .none)))), none⟩, ⟨some 19, .mov (.t 18), none⟩, ⟨some 20, (.mov (.t 1)), (.some (19, false))⟩, ⟨some 21, (.bin .lss (.t 20) (.k (.v (.int .i64 0)))), (.some (19, false))⟩, ⟨some 22, (.pick (.t 19) (.k (.v (.bool true))) (.t 21)), none⟩, ⟨some 23, .mov (.t 22), none⟩, ⟨some 24, (.mov (.t 2)), (.some (23, false))⟩, ⟨some 25, (.bin .lss (.t 24) (.k (.v (.int .i64 2)))), (.some (23, false))⟩, ⟨some 26, (.pick (.t 23) (.k (.v (.bool true))) (.t 25)), none⟩, ⟨some 27, .mov (.t 26), none⟩, ⟨some 28, (.mov (.t 1)), (.some (27, false))⟩, ⟨some 29, (.mov (.t 8)), (.some (27, false))⟩, ⟨some 30, (.bin .gtr (.t 28) (.t 29)), (.some (27, false))⟩, ⟨some 31, (.pick (.t 27) (.k (.v (.bool true))) (.t 30)), none⟩, ⟨some 32, .mov (.t 31), none⟩, ⟨some 33, (.mov (.t 2)), (.some (32, false))⟩, ⟨some 34, (.mov (.t 8)), (.some (32, false))⟩, ⟨some 35, (.mov (.t 1)), (.some (32, false))⟩, ⟨some 36, (.bin .sub (.t 34) (.t 35)), (.some (32, false))⟩, ⟨some 37, (.bin .quo (.t 36) (.k (.v (.int .i64 2)))), (.some (32, false))⟩, ⟨some 38, (.bin .gtr (.t 33) (.t 37)), (.some (32, false))⟩, ⟨some 39, (.pick (.t 32) (.k (.v (.bool true))) (.t 38)), none⟩, ⟨some 16, .mov (.t 39), none⟩]) (.cond (.t 16) (.seq (.reg false [⟨some 6, (.mov (.k (.v (.pointer .none)))), none⟩, ⟨some 7, (.mov (.k (.v (.int .i64 1)))), none⟩]) .ret) (.seq (.reg false [⟨some 41, .mov (.t 0), none⟩, ⟨some 42, (.call 35 [(.t 41)]), none⟩, ⟨some 40, .mov (.t 42), none⟩]) (.cond (.t 40) (.seq (.reg false [⟨some 6, (.mov (.k (.v (.pointer .none)))), none⟩, ⟨some 7, (.mov (.k (.v (.int .i64 7)))), none⟩]) .ret) .skip))))) (.seq (.reg false [⟨some 43, .mov (.t 0), none⟩, ⟨some 44, .mov (.t 1), none⟩, ⟨some 45, .mov (.t 2), none⟩, ⟨some 46, .mkM, none⟩, ⟨some 47, (.bld [(.v (.pointer .none)), (.v (.int .i64 0)), (.v (.int .i64 0)), (.v (.map .none)), (.v (.map .none)), (.v (.int .i64 0)), (.v (.int .i64 0)), (.v (.bool false))] [(0, (1, (.t 43))), (1, (1, (.t 44))), (2, (1, (.t 45))), (4, (1, (.t 46))), (6, (1, (.k (.v (.int .i64 1)))))]), none⟩, ⟨some 48, (.box (.t 47)), none⟩, ⟨some 9, .mov (.t 48), none⟩]) (.seq (.seq (.reg false [⟨some 49, (.mov (.k (.v (.int .i64 0)))), none⟩]) (.block 1 (.loop (.seq (.reg false [⟨some 50, (.bin .lss (.t 49) (.k (.v (.int .i64 2)))), none⟩]) (.seq (.cond (.t 50) .skip (.exit 1)) (.seq (.block 2 (.seq (.reg false [⟨some 51, .mov (.t 49), none⟩, ⟨some 10, .mov (.t 51), none⟩]) (.seq (.reg false [⟨some 53, .mov (.t 9), none⟩, ⟨some 54, .mov (.t 10), none⟩, ⟨some 55, (.call 36 [(.t 53), (.t 54)]), none⟩, ⟨some 52, .mov (.t 55), none⟩, ⟨some 56, (.ext (.t 52) 0), none⟩, ⟨some 57, (.ext (.t 52) 1), none⟩, ⟨some 58, (.ext (.t 52) 2), none⟩, ⟨some 11, .mov (.t 56), none⟩, ⟨some 12, .mov (.t 57), none⟩, ⟨some 13, .mov (.t 58), none⟩]) (.seq (.reg false [⟨some 59, .mov (.t 13), none⟩, ⟨some 60, .mov (.t 59), none⟩, ⟨some 61, (.mov (.t 11)), (.some (60, true))⟩, ⟨some 62, (.mov (.t 9)), (.some (60, true))⟩, ⟨some 63, (.nilck (.t 62)), (.some (60, true))⟩, ⟨some 64, (.fadr (.t 63) 5), (.some (60, true))⟩, ⟨some 65, (.ld (.t 64)), (.some (60, true))⟩, ⟨some 66, (.bin .gtr (.t 61) (.t 65)), (.some (60, true))⟩, ⟨some 67, (.pick (.t 60) (.t 66) (.k (.v (.bool false)))), none⟩]) (.cond (.t 67) (.reg false [⟨some 68, .mov (.t 9), none⟩, ⟨some 69, .mov (.t 9), none⟩, ⟨some 70, .mov (.t 9), none⟩, ⟨some 71, .mov (.t 11), none⟩, ⟨some 72, .mov (.t 12), none⟩, ⟨some 73, .mov (.t 10), none⟩, ⟨some 74, .nilck (.t 68), none⟩, ⟨some 75, (.fadr (.t 74) 5), none⟩, ⟨.none, (.st (.t 75) (.t 71)), none⟩, ⟨some 76, .nilck (.t 69), none⟩, ⟨some 77, (.fadr (.t 76) 4), none⟩, ⟨.none, (.st (.t 77) (.t 72)), none⟩, ⟨some 78, .nilck (.t 70), none⟩, ⟨some 79, (.fadr (.t 78) 6), none⟩, ⟨.none, (.st (.t 79) (.t 73)), none⟩]) .skip))))) (.reg false [⟨some 80, (.bin .add (.t 49) (.k (.v (.int .i64 1)))), none⟩, ⟨some 49, .mov (.t 80), none⟩]))))))) (.seq (.reg false [⟨some 81, .mov (.t 9), none⟩, ⟨some 82, (.call 37 [(.t 81)]), none⟩]) (.seq (.reg false [⟨some 83, .mov (.t 9), none⟩, ⟨some 6, .mov (.t 83), none⟩, ⟨some 7, (.mov (.k (.v (.int .i64 0)))), none⟩]) .ret))))))) [(.t 6), (.t 7)]
def mCPut : MFn := .mk 49 (.seq (.reg false [⟨some 6, (.mov (.k (.v (.int .i64 0)))), none⟩]) (.seq (.reg false [⟨some 10, .mov (.t 0), none⟩, ⟨some 11, .mov (.t 1), none⟩, ⟨some 12, (.call 39 [(.t 10), (.t 11)]), none⟩, ⟨some 9, .mov (.t 12), none⟩, ⟨some 13, (.ext (.t 9) 0), none⟩, ⟨some 14, (.ext (.t 9) 1), none⟩, ⟨some 7, .mov (.t 13), none⟩, ⟨some 8, .mov (.t 14), none⟩]) (.seq (.block 0 (.seq (.reg false [⟨some 16, .mov (.t 0), none⟩, ⟨some 17, (.binP .eql (.t 16) (.k (.v (.pointer .none)))), none⟩, ⟨some 18, .mov (.t 17), none⟩, ⟨some 19, (.mov (.t 1)), (.some (18, false))⟩, ⟨some 20, (.bin .eql (.t 19) (.k (.v (.string ⟨#[]⟩)))), (.some (18, false))⟩, ⟨some 21, (.pick (.t 18) (.k (.v (.bool true))) (.t 20)), none⟩, ⟨some 22, .mov (.t 21), none⟩, ⟨some 23, (.mov (.t 1)), (.some (22, false))⟩, ⟨some 24, (.lenS (.t 23)), (.some (22, false))⟩, ⟨some 25, (.bin .gtr (.t 24) (.k (.v (.int .i64 32)))), (.some (22, false))⟩, ⟨some 26, (.pick (.t 22) (.k (.v (.bool true))) (.t 25)), none⟩, ⟨some 15, .mov (.t 26), none⟩]) (.cond (.t 15) (.seq (.reg false [⟨some 6, (.mov (.k (.v (.int .i64 1)))), none⟩]) .ret) (.seq (.reg false [⟨some 28, .mov (.t 2), none⟩, ⟨some 29, (.lenS (.t 28)), none⟩, ⟨some 30, (.bin .gtr (.t 29) (.k (.v (.int .i64 65535)))), none⟩, ⟨some 27, .mov (.t 30), none⟩]) (.cond (.t 27) (.seq (.reg false [⟨some 6, (.mov (.k (.v (.int .i64 4)))), none⟩]) .ret) (.seq (.reg false [⟨some 32, .mov (.t 8), none⟩, ⟨some 33, (.un .not (.t 32)), none⟩, ⟨some 34, .mov (.t 33), none⟩, ⟨some 35, (.mov (.t 0)), (.some (34, true))⟩, ⟨some 36, (.nilck (.t 35)), (.some (34, true))⟩, ⟨some 37, (.fadr (.t 36) 3), (.some (34, true))⟩, ⟨some 38, (.ld (.t 37)), (.some (34, true))⟩, ⟨some 39, (.lenM (.t 38)), (.some (34, true))⟩, ⟨some 40, (.bin .geq (.t 39) (.k (.v (.int .i64 64)))), (.some (34, true))⟩, ⟨some 41, (.pick (.t 34) (.t 40) (.k (.v (.bool false)))), none⟩, ⟨some 31, .mov (.t 41), none⟩]) (.cond (.t 31) (.seq (.reg false [⟨some 6, (.mov (.k (.v (.int .i64 6)))), none⟩]) .ret) .skip))))))) (.seq (.reg false [⟨some 42, .mov (.t 0), none⟩, ⟨some 43, .nilck (.t 42), none⟩, ⟨some 44, (.fadr (.t 43) 3), none⟩, ⟨some 45, .ld (.t 44), none⟩, ⟨some 46, .mov (.t 1), none⟩, ⟨some 47, .mov (.t 2), none⟩, ⟨some 48, (.bld [(.v (.string ⟨#[]⟩))] [(0, (1, (.t 47)))]), none⟩, ⟨.none, (.upM (.t 45) (.t 46) (.t 48)), none⟩]) (.seq (.reg false [⟨some 6, (.mov (.k (.v (.int .i64 0)))), none⟩]) .ret))))) [(.t 6)]
def mCCommit : MFn := .mk 89 (.seq (.reg false [⟨some 2, (.mov (.k (.v (.int .i64 0)))), none⟩]) (.seq (.block 0 (.seq (.reg false [⟨some 10, .mov (.t 0), none⟩, ⟨some 11, (.binP .eql (.t 10) (.k (.v (.pointer .none)))), none⟩, ⟨some 9, .mov (.t 11), none⟩]) (.cond (.t 9) (.seq (.reg false [⟨some 2, (.mov (.k (.v (.int .i64 1)))), none⟩]) .ret) (.seq (.reg false [⟨some 13, .mov (.t 0), none⟩, ⟨some 14, .nilck (.t 13), none⟩, ⟨some 15, (.fadr (.t 14) 7), none⟩, ⟨some 16, .ld (.t 15), none⟩, ⟨some 12, .mov (.t 16), none⟩]) (.cond (.t 12) (.seq (.reg false [⟨some 2, (.mov (.k (.v (.int .i64 7)))), none⟩]) .ret) .skip))))) (.seq (.reg false [⟨some 17, .mov (.t 0), none⟩, ⟨some 18, .nilck (.t 17), none⟩, ⟨some 19, (.fadr (.t 18) 3), none⟩, ⟨some 20, .ld (.t 19), none⟩, ⟨some 21, (.call 42 [(.t 20)]), none⟩, ⟨some 3, .mov (.t 21), none⟩]) (.seq (.seq (.reg false [⟨some 22, .mov (.t 3), none⟩, ⟨some 23, (.lenS (.t 22)), none⟩, ⟨some 24, .mov (.t 0), none⟩, ⟨some 25, (.call 43 [(.t 24)]), none⟩, ⟨some 26, (.bin .gtr (.t 23) (.t 25)), none⟩]) (.cond (.t 26) (.seq (.reg false [⟨some 2, (.mov (.k (.v (.int .i64 4)))), none⟩]) .ret) .skip)) (.seq (.seq (.reg false [⟨some 27, .mov (.t 0), none⟩, ⟨some 28, .nilck (.t 27), none⟩, ⟨some 29, (.fadr (.t 28) 5), none⟩, ⟨some 30, .ld (.t 29), none⟩, ⟨some 31, (.bin .geq (.t 30) (.k (.v (.int .i64 9223372036854775806)))), none⟩]) (.cond (.t 31) (.seq (.reg false [⟨some 2, (.mov (.k (.v (.int .i64 8)))), none⟩]) .ret) .skip)) (.seq (.reg false [⟨some 32, .mov (.t 0), none⟩, ⟨some 33, .nilck (.t 32), none⟩, ⟨some 34, (.fadr (.t 33) 6), none⟩, ⟨some 35, .ld (.t 34), none⟩, ⟨some 36, (.bin .sub (.k (.v (.int .i64 1))) (.t 35)), none⟩, ⟨some 4, .mov (.t 36), none⟩]) (.seq (.reg false [⟨some 5, (.alloc (.sv [(.sl 0 0 0 1), (.v (.bool false))])), none⟩]) (.seq (.reg false [⟨some 37, .mov (.t 0), none⟩, ⟨some 38, .nilck (.t 37), none⟩, ⟨some 39, (.fadr (.t 38) 5), none⟩, ⟨some 40, .ld (.t 39), none⟩, ⟨some 41, (.bin .add (.t 40) (.k (.v (.int .i64 1)))), none⟩, ⟨some 42, (.call 44 [(.t 5), (.t 41)]), none⟩]) (.seq (.reg false [⟨some 43, .mov (.t 3), none⟩, ⟨some 44, (.lenS (.t 43)), none⟩, ⟨some 45, (.call 45 [(.t 5), (.t 44)]), none⟩]) (.seq (.reg false [⟨some 46, .mov (.t 0), none⟩, ⟨some 47, .nilck (.t 46), none⟩, ⟨some 48, (.fadr (.t 47) 5), none⟩, ⟨some 49, .ld (.t 48), none⟩, ⟨some 50, (.bin .add (.t 49) (.k (.v (.int .i64 1)))), none⟩, ⟨some 51, (.call 44 [(.t 5), (.t 50)]), none⟩]) (.seq (.reg false [⟨some 53, (.call 46 [(.t 5)]), none⟩, ⟨some 52, .mov (.t 53), none⟩, ⟨some 54, (.ext (.t 52) 0), none⟩, ⟨some 55, (.ext (.t 52) 1), none⟩, ⟨some 6, .mov (.t 54), none⟩, ⟨some 7, .mov (.t 55), none⟩]) (.seq (.seq (.reg false [⟨some 56, .mov (.t 0), none⟩, ⟨some 57, .mov (.t 0), none⟩, ⟨some 58, .mov (.t 4), none⟩, ⟨some 59, (.call 48 [(.t 57), (.t 58)]), none⟩, ⟨some 60, .mov (.t 3), none⟩, ⟨some 61, .mov (.t 6), none⟩, ⟨some 62, (.call 47 [(.t 56), (.t 59), (.t 60), (.t 61)]), none⟩, ⟨some 8, .mov (.t 62), none⟩]) (.seq (.reg false [⟨some 63, .mov (.t 8), none⟩, ⟨some 64, (.bin .neq (.t 63) (.k (.v (.int .i64 0)))), none⟩]) (.cond (.t 64) (.seq (.reg false [⟨some 65, .mov (.t 0), none⟩, ⟨some 66, .nilck (.t 65), none⟩, ⟨some 67, (.fadr (.t 66) 7), none⟩, ⟨.none, (.st (.t 67) (.k (.v (.bool true)))), none⟩]) (.seq (.reg false [⟨some 68, .mov (.t 8), none⟩, ⟨some 2, .mov (.t 68), none⟩]) .ret)) .skip))) (.seq (.regD (.pure ⟨some 69, .mov (.t 0), none⟩ (.pure ⟨some 70, .mov (.t 0), none⟩ (.pure ⟨some 71, .mov (.t 0), none⟩ (.pure ⟨some 72, .mov (.t 4), none⟩ (.pure ⟨some 73, .mov (.t 0), none⟩ (.pure ⟨some 74, .nilck (.t 73), none⟩ (.pure ⟨some 75, (.fadr (.t 74) 5), none⟩ (.pure ⟨some 76, .ld (.t 75), none⟩ (.pure ⟨some 77, (.bin .add (.t 76) (.k (.v (.int .i64 1)))), none⟩ (.pure ⟨some 78, .mov (.t 0), none⟩ (.pure ⟨some 79, .nilck (.t 78), none⟩ (.pure ⟨some 80, (.fadr (.t 79) 3), none⟩ (.pure ⟨some 81, .ld (.t 80), none⟩ (.act ⟨some 82, (.call 49 [(.t 81)]), none⟩ [⟨some 76, .ld (.t 75), none⟩] (.pure ⟨some 83, .nilck (.t 69), none⟩ (.pure ⟨some 84, (.fadr (.t 83) 6), none⟩ (.act ⟨.none, (.st (.t 84) (.t 72)), none⟩ [] (.pure ⟨some 85, .nilck (.t 70), none⟩ (.pure ⟨some 86, (.fadr (.t 85) 5), none⟩ (.act ⟨.none, (.st (.t 86) (.t 77)), none⟩ [] (.pure ⟨some 87, .nilck (.t 71), none⟩ (.pure ⟨some 88, (.fadr (.t 87) 4), none⟩ (.act ⟨.none, (.st (.t 88) (.t 82)), none⟩ [] .fin .stop))) .stop))) .stop))) .stop))))))))))))))) (.seq (.reg false [⟨some 2, (.mov (.k (.v (.int .i64 0)))), none⟩]) .ret)))))))))))))) [(.t 2)]
def mBOpen : MFn := .mk 41 (.seq (.reg false [⟨some 8, (.mov (.k (.v (.pointer .none)))), none⟩, ⟨some 9, (.mov (.k (.v (.int .i64 0)))), none⟩]) (.seq (.reg false [⟨some 14, .mov (.t 0), none⟩, ⟨some 15, .mov (.t 1), none⟩, ⟨some 16, .mov (.t 2), none⟩, ⟨some 17, (.call 11 [(.t 14), (.t 15), (.t 16)]), none⟩, ⟨some 13, .mov (.t 17), none⟩, ⟨some 18, (.ext (.t 13) 0), none⟩, ⟨some 19, (.ext (.t 13) 1), none⟩, ⟨some 10, .mov (.t 18), none⟩, ⟨some 11, .mov (.t 19), none⟩]) (.seq (.seq (.reg false [⟨some 20, .mov (.t 11), none⟩, ⟨some 21, (.bin .neq (.t 20) (.k (.v (.int .i64 0)))), none⟩]) (.cond (.t 21) (.seq (.reg false [⟨some 22, .mov (.t 11), none⟩, ⟨some 8, (.mov (.k (.v (.pointer .none)))), none⟩, ⟨some 9, .mov (.t 22), none⟩]) .ret) .skip)) (.seq (.reg false [⟨some 24, .mov (.t 0), none⟩, ⟨some 25, .mov (.t 1), none⟩, ⟨some 26, .mov (.t 2), none⟩, ⟨some 27, (.bin .mul (.k (.v (.int .i64 2))) (.t 26)), none⟩, ⟨some 28, (.bin .add (.t 25) (.t 27)), none⟩, ⟨some 29, .mov (.t 3), none⟩, ⟨some 30, (.call 53 [(.t 24), (.t 28), (.t 29)]), none⟩, ⟨some 23, .mov (.t 30), none⟩, ⟨some 31, (.ext (.t 23) 0), none⟩, ⟨some 32, (.ext (.t 23) 1), none⟩, ⟨some 12, .mov (.t 31), none⟩, ⟨some 11, .mov (.t 32), none⟩]) (.seq (.seq (.reg false [⟨some 33, .mov (.t 11), none⟩, ⟨some 34, (.bin .neq (.t 33) (.k (.v (.int .i64 0)))), none⟩]) (.cond (.t 34) (.seq (.reg false [⟨some 35, .mov (.t 11), none⟩, ⟨some 8, (.mov (.k (.v (.pointer .none)))), none⟩, ⟨some 9, .mov (.t 35), none⟩]) .ret) .skip)) (.seq (.reg false [⟨some 36, .mov (.t 10), none⟩, ⟨some 37, .mov (.t 12), none⟩, ⟨some 38, .mov (.t 3), none⟩, ⟨some 39, (.bld [(.v (.pointer .none)), (.v (.pointer .none)), (.v (.int .i64 0)), (.v (.bool false)), (.v (.int .i64 0)), (.v (.int .i64 0))] [(0, (1, (.t 36))), (1, (1, (.t 37))), (2, (1, (.t 38)))]), none⟩, ⟨some 40, (.box (.t 39)), none⟩, ⟨some 8, .mov (.t 40), none⟩, ⟨some 9, (.mov (.k (.v (.int .i64 0)))), none⟩]) .ret)))))) [(.t 8), (.t 9)]
def mBBoot : MFn := .mk 99 (.seq (.reg false [⟨some 2, (.mov (.k (.v (.int .i64 0)))), none⟩, ⟨some 3, (.mov (.k (.v (.string ⟨#[]⟩)))), none⟩, ⟨some 4, (.mov (.k (.v (.int .i64 0)))), none⟩]) (.seq (.reg false [⟨some 12, .mov (.t 0), none⟩, ⟨some 13, (.call 23 [(.t 12)]), none⟩, ⟨some 5, (.alloc (.sv [(.v (.int .i64 0)), (.v (.int .i64 0)), (.v (.int .i64 0)), (.v (.int .i64 0))])), none⟩, ⟨.none, (.stn (.t 5) (.t 13) 4), none⟩]) (.seq (.seq (.reg false [⟨some 14, (.fadr (.t 5) 0), none⟩, ⟨some 15, .ld (.t 14), none⟩, ⟨some 16, (.bin .lss (.t 15) (.k (.v (.int .i64 0)))), none⟩]) (.cond (.t 16) (.seq (.seq (.reg false [⟨some 17, .mov (.t 0), none⟩, ⟨some 18, (.binP .neq (.t 17) (.k (.v (.pointer .none)))), none⟩]) (.cond (.t 18) (.reg false [⟨some 19, .mov (.t 0), none⟩, ⟨some 20, (.call 60 [(.t 19)]), none⟩]) .skip)) (.seq (.reg false [⟨some 2, (.mov (.k (.v (.int .i64 0)))), none⟩, ⟨some 3, (.mov (.k (.v (.string ⟨#[]⟩)))), none⟩, ⟨some 4, (.mov (.k (.v (.int .i64 5)))), none⟩]) .ret)) .skip)) (.seq (.reg false [⟨some 21, .mov (.t 0), none⟩, ⟨some 22, (.call 60 [(.t 21)]), none⟩]) (.seq (.seq (.reg false [⟨some 23, (.fadr (.t 5) 1), none⟩, ⟨some 24, .ld (.t 23), none⟩, ⟨some 25, (.bin .geq (.t 24) (.k (.v (.int .i64 0)))), none⟩]) (.cond (.t 25) (.seq (.regD (.pure ⟨some 27, .mov (.t 0), none⟩ (.pure ⟨some 28, .nilck (.t 27), none⟩ (.pure ⟨some 29, (.fadr (.t 28) 1), none⟩ (.pure ⟨some 30, .ld (.t 29), none⟩ (.pure ⟨some 31, (.fadr (.t 5) 1), none⟩ (.pure ⟨some 32, .ld (.t 31), none⟩ (.act ⟨some 33, (.call 61 [(.t 30), (.t 32)]), none⟩ [] (.pure ⟨some 26, .mov (.t 33), none⟩ (.pure ⟨some 34, (.ext (.t 26) 0), none⟩ (.pure ⟨some 35, (.ext (.t 26) 1), none⟩ (.pure ⟨some 36, (.ext (.t 26) 2), none⟩ (.pure ⟨some 6, .mov (.t 34), none⟩ (.pure ⟨some 7, .mov (.t 35), none⟩ (.pure ⟨some 8, .mov (.t 36), none⟩ .fin))))))) .stop)))))))) (.seq (.reg false [⟨some 37, (.fadr (.t 5) 2), none⟩, ⟨some 38, .ld (.t 37), none⟩, ⟨some 39, (.bin .gtr (.t 38) (.k (.v (.int .i64 0)))), none⟩, ⟨some 40, .mov (.t 39), none⟩, ⟨some 41, (.mov (.t 8)), (.some (40, true))⟩, ⟨some 42, (.bin .eql (.t 41) (.k (.v (.int .i64 0)))), (.some (40, true))⟩, ⟨some 43, (.pick (.t 40) (.t 42) (.k (.v (.bool false)))), none⟩, ⟨some 44, .mov (.t 43), none⟩, ⟨some 45, (.mov (.t 6)), (.some (44, true))⟩, ⟨some 46, (.fadr (.t 5) 3), (.some (44, true))⟩, ⟨some 47, (.ld (.t 46)), (.some (44, true))⟩, ⟨some 48, (.bin .geq (.t 45) (.t 47)), (.some (44, true))⟩, ⟨some 49, (.pick (.t 44) (.t 48) (.k (.v (.bool false)))), none⟩, ⟨some 9, .mov (.t 49), none⟩]) (.seq (.reg false [⟨some 50, (.ldn (.t 5) 4), none⟩, ⟨some 51, (.call 62 [(.t 50)]), none⟩, ⟨some 10, (.alloc (.sv [(.v (.int .i64 0)), (.v (.int .i64 0)), (.v (.int .i64 0)), (.v (.int .i64 0))])), none⟩, ⟨.none, (.stn (.t 10) (.t 51) 4), none⟩]) (.seq (.seq (.reg false [⟨some 52, .mov (.t 9), none⟩]) (.cond (.t 52) (.seq (.reg false [⟨some 53, (.ldn (.t 5) 4), none⟩, ⟨.none, (.stn (.t 10) (.t 53) 4), none⟩]) (.reg false [⟨some 54, (.fadr (.t 10) 2), none⟩, ⟨some 55, .ld (.t 54), none⟩, ⟨some 56, (.bin .sub (.t 55) (.k (.v (.int .i64 1)))), none⟩, ⟨some 57, (.fadr (.t 10) 2), none⟩, ⟨.none, (.st (.t 57) (.t 56)), none⟩])) .skip)) (.seq (.seq (.reg false [⟨some 58, .mov (.t 0), none⟩, ⟨some 59, (.ldn (.t 10) 4), none⟩, ⟨some 60, (.call 63 [(.t 58), (.t 59)]), none⟩, ⟨some 11, .mov (.t 60), none⟩]) (.seq (.reg false [⟨some 61, .mov (.t 11), none⟩, ⟨some 62, (.bin .neq (.t 61) (.k (.v (.int .i64 0)))), none⟩]) (.cond (.t 62) (.seq (.reg false [⟨some 63, .mov (.t 11), none⟩, ⟨some 2, (.mov (.k (.v (.int .i64 0)))), none⟩, ⟨some 3, (.mov (.k (.v (.string ⟨#[]⟩)))), none⟩, ⟨some 4, .mov (.t 63), none⟩]) .ret) .skip))) (.seq (.reg false [⟨some 64, .mov (.t 9), none⟩]) (.cond (.t 64) (.seq (.reg false [⟨some 65, .mov (.t 0), none⟩, ⟨some 66, (.fadr (.t 5) 1), none⟩, ⟨some 67, .ld (.t 66), none⟩, ⟨some 68, .mov (.t 6), none⟩, ⟨some 69, (.call 64 [(.t 65), (.t 67), (.t 68)]), none⟩]) (.seq (.reg false [⟨some 70, .mov (.t 6), none⟩, ⟨some 71, .mov (.t 7), none⟩, ⟨some 2, .mov (.t 70), none⟩, ⟨some 3, .mov (.t 71), none⟩, ⟨some 4, (.mov (.k (.v (.int .i64 0)))), none⟩]) .ret)) .skip))))))) .skip)) (.seq (.regD (.pure ⟨some 73, .mov (.t 0), none⟩ (.pure ⟨some 74, .nilck (.t 73), none⟩ (.pure ⟨some 75, (.fadr (.t 74) 1), none⟩ (.pure ⟨some 76, .ld (.t 75), none⟩ (.pure ⟨some 77, (.fadr (.t 5) 0), none⟩ (.pure ⟨some 78, .ld (.t 77), none⟩ (.act ⟨some 79, (.call 61 [(.t 76), (.t 78)]), none⟩ [] (.pure ⟨some 72, .mov (.t 79), none⟩ (.pure ⟨some 80, (.ext (.t 72) 0), none⟩ (.pure ⟨some 81, (.ext (.t 72) 1), none⟩ (.pure ⟨some 82, (.ext (.t 72) 2), none⟩ (.pure ⟨some 2, .mov (.t 80), none⟩ (.pure ⟨some 3, .mov (.t 81), none⟩ (.pure ⟨some 4, .mov (.t 82), none⟩ .fin))))))) .stop)))))))) (.seq (.block 0 (.seq (.reg false [⟨some 84, .mov (.t 4), none⟩, ⟨some 85, (.bin .neq (.t 84) (.k (.v (.int .i64 0)))), none⟩, ⟨some 83, .mov (.t 85), none⟩]) (.cond (.t 83) (.seq (.reg false [⟨some 86, .mov (.t 4), none⟩, ⟨some 2, (.mov (.k (.v (.int .i64 0)))), none⟩, ⟨some 3, (.mov (.k (.v (.string ⟨#[]⟩)))), none⟩, ⟨some 4, .mov (.t 86), none⟩]) .ret) (.seq (.reg false [⟨some 88, .mov (.t 2), none⟩, ⟨some 89, (.fadr (.t 5) 3), none⟩, ⟨some 90, .ld (.t 89), none⟩, ⟨some 91, (.bin .lss (.t 88) (.t 90)), none⟩, ⟨some 87, .mov (.t 91), none⟩]) (.cond (.t 87) (.seq (.reg false [⟨some 2, (.mov (.k (.v (.int .i64 0)))), none⟩, ⟨some 3, (.mov (.k (.v (.string ⟨#[]⟩)))), none⟩, ⟨some 4, (.mov (.k (.v (.int .i64 12)))), none⟩]) .ret) .skip))))) (.seq (.reg false [⟨some 92, .mov (.t 0), none⟩, ⟨some 93, (.fadr (.t 5) 0), none⟩, ⟨some 94, .ld (.t 93), none⟩, ⟨some 95, .mov (.t 2), none⟩, ⟨some 96, (.call 64 [(.t 92), (.t 94), (.t 95)]), none⟩]) (.seq (.reg false [⟨some 97, .mov (.t 2), none⟩, ⟨some 98, .mov (.t 3), none⟩, ⟨some 2, .mov (.t 97), none⟩, ⟨some 3, .mov (.t 98), none⟩, ⟨some 4, (.mov (.k (.v (.int .i64 0)))), none⟩]) .ret))))))))) [(.t 2), (.t 3), (.t 4)]
def mBRunning : MFn := .mk 25 (.seq (.reg false [⟨some 2, (.mov (.k (.v (.int .i64 0)))), none⟩, ⟨some 3, (.mov (.k (.v (.int .i64 0)))), none⟩, ⟨some 4, (.mov (.k (.v (.bool false)))), none⟩]) (.seq (.seq (.reg false [⟨some 5, .mov (.t 0), none⟩, ⟨some 6, (.binP .eql (.t 5) (.k (.v (.pointer .none)))), none⟩, ⟨some 7, .mov (.t 6), none⟩, ⟨some 8, (.mov (.t 0)), (.some (7, false))⟩, ⟨some 9, (.nilck (.t 8)), (.some (7, false))⟩, ⟨some 10, (.fadr (.t 9) 3), (.some (7, false))⟩, ⟨some 11, (.fadr (.t 10) 0), (.some (7, false))⟩, ⟨some 12, (.ld (.t 11)), (.some (7, false))⟩, ⟨some 13, (.un .not (.t 12)), (.some (7, false))⟩, ⟨some 14, (.pick (.t 7) (.k (.v (.bool true))) (.t 13)), none⟩]) (.cond (.t 14) (.seq (.reg false [⟨some 2, (.mov (.k (.v (.int .i64 0)))), none⟩, ⟨some 3, (.mov (.k (.v (.int .i64 0)))), none⟩, ⟨some 4, (.mov (.k (.v (.bool false)))), none⟩]) .ret) .skip)) (.seq (.regD (.pure ⟨some 15, .mov (.t 0), none⟩ (.pure ⟨some 16, .nilck (.t 15), none⟩ (.pure ⟨some 17, (.fadr (.t 16) 3), none⟩ (.pure ⟨some 18, (.fadr (.t 17) 1), none⟩ (.pure ⟨some 19, .ld (.t 18), none⟩ (.pure ⟨some 20, .mov (.t 0), none⟩ (.pure ⟨some 21, .nilck (.t 20), none⟩ (.pure ⟨some 22, (.fadr (.t 21) 3), none⟩ (.pure ⟨some 23, (.fadr (.t 22) 2), none⟩ (.pure ⟨some 24, .ld (.t 23), none⟩ (.pure ⟨some 2, .mov (.t 19), none⟩ (.pure ⟨some 3, .mov (.t 24), none⟩ (.pure ⟨some 4, (.mov (.k (.v (.bool true)))), none⟩ .fin)))))))))))))) .ret))) [(.t 2), (.t 3), (.t 4)]
def mBState : MFn := .mk 44 (.seq (.reg false [⟨some 2, (.alloc (.sv [(.v (.int .i64 0)), (.v (.int .i64 0)), (.v (.int .i64 0)), (.v (.int .i64 0))])), none⟩]) (.seq (.seq (.reg false [⟨some 5, .mov (.t 0), none⟩, ⟨some 6, (.binP .eql (.t 5) (.k (.v (.pointer .none)))), none⟩]) (.cond (.t 6) (.seq (.reg false [⟨some 7, (.ldn (.k (.ptr 4001003 0)) 4), none⟩, ⟨.none, (.stn (.t 2) (.t 7) 4), none⟩]) .ret) .skip)) (.seq (.reg false [⟨some 9, .mov (.t 0), none⟩, ⟨some 10, .nilck (.t 9), none⟩, ⟨some 11, (.fadr (.t 10) 0), none⟩, ⟨some 12, .ld (.t 11), none⟩, ⟨some 13, (.call 39 [(.t 12), (.k (.v (.string ⟨#[98, 111, 111, 116]⟩)))]), none⟩, ⟨some 8, .mov (.t 13), none⟩, ⟨some 14, (.ext (.t 8) 0), none⟩, ⟨some 15, (.ext (.t 8) 1), none⟩, ⟨some 3, .mov (.t 14), none⟩, ⟨some 4, .mov (.t 15), none⟩]) (.seq (.seq (.reg false [⟨some 16, .mov (.t 0), none⟩, ⟨some 17, .nilck (.t 16), none⟩, ⟨some 18, (.fadr (.t 17) 0), none⟩, ⟨some 19, .ld (.t 18), none⟩, ⟨some 20, (.call 65 [(.t 19)]), none⟩, ⟨some 21, (.lenL (.t 20)), none⟩, ⟨some 22, (.bin .neq (.t 21) (.k (.v (.int .i64 1)))), none⟩, ⟨some 23, .mov (.t 22), none⟩, ⟨some 24, (.mov (.t 3)), (.some (23, false))⟩, ⟨some 25, (.call 66 [(.t 24)]), (.some (23, false))⟩, ⟨some 26, (.un .not (.t 25)), (.some (23, false))⟩, ⟨some 27, (.pick (.t 23) (.k (.v (.bool true))) (.t 26)), none⟩]) (.cond (.t 27) (.seq (.reg false [⟨some 28, (.ldn (.k (.ptr 4001003 0)) 4), none⟩, ⟨.none, (.stn (.t 2) (.t 28) 4), none⟩]) .ret) .skip)) (.seq (.regD (.pure ⟨some 29, .mov (.t 3), none⟩ (.pure ⟨some 30, (.idxS (.t 29) (.k (.v (.int .i64 0)))), none⟩ (.pure ⟨some 31, (.conv .i64 (.t 30)), none⟩ (.pure ⟨some 32, (.bin .sub (.t 31) (.k (.v (.int .i64 1)))), none⟩ (.pure ⟨some 33, .mov (.t 3), none⟩ (.pure ⟨some 34, (.idxS (.t 33) (.k (.v (.int .i64 1)))), none⟩ (.pure ⟨some 35, (.conv .i64 (.t 34)), none⟩ (.pure ⟨some 36, (.bin .sub (.t 35) (.k (.v (.int .i64 1)))), none⟩ (.pure ⟨some 37, .mov (.t 3), none⟩ (.pure ⟨some 38, (.idxS (.t 37) (.k (.v (.int .i64 2)))), none⟩ (.pure ⟨some 39, (.conv .i64 (.t 38)), none⟩ (.pure ⟨some 40, .mov (.t 3), none⟩ (.pure ⟨some 41, (.idxS (.t 40) (.k (.v (.int .i64 3)))), none⟩ (.pure ⟨some 42, (.conv .i64 (.t 41)), none⟩ (.pure ⟨some 43, (.bld [(.v (.int .i64 0)), (.v (.int .i64 0)), (.v (.int .i64 0)), (.v (.int .i64 0))] [(0, (1, (.t 32))), (1, (1, (.t 36))), (2, (1, (.t 39))), (3, (1, (.t 42)))]), none⟩ (.act ⟨.none, (.stn (.t 2) (.t 43) 4), none⟩ [] .fin .stop))))))))))))))))) .ret))))) [(.cn 2 4)]
def mBProvision : MFn := .mk 32 (.seq (.reg false [⟨some 6, (.mov (.k (.v (.int .i64 0)))), none⟩]) (.seq (.seq (.reg false [⟨some 9, .mov (.t 0), none⟩, ⟨some 10, (.binP .eql (.t 9) (.k (.v (.pointer .none)))), none⟩]) (.cond (.t 10) (.seq (.reg false [⟨some 6, (.mov (.k (.v (.int .i64 1)))), none⟩]) .ret) .skip)) (.seq (.seq (.reg false [⟨some 11, .mov (.t 0), none⟩, ⟨some 12, (.call 23 [(.t 11)]), none⟩, ⟨some 13, (.fld (.t 12) 0 1 false), none⟩, ⟨some 14, (.bin .geq (.t 13) (.k (.v (.int .i64 0)))), none⟩]) (.cond (.t 14) (.seq (.reg false [⟨some 6, (.mov (.k (.v (.int .i64 12)))), none⟩]) .ret) .skip)) (.seq (.seq (.reg false [⟨some 15, .mov (.t 0), none⟩, ⟨some 16, .nilck (.t 15), none⟩, ⟨some 17, (.fadr (.t 16) 1), none⟩, ⟨some 18, .ld (.t 17), none⟩, ⟨some 19, .mov (.t 1), none⟩, ⟨some 20, .mov (.t 2), none⟩, ⟨some 21, (.call 67 [(.t 18), (.k (.v (.int .i64 0))), (.t 19), (.t 20)]), none⟩, ⟨some 7, .mov (.t 21), none⟩]) (.seq (.reg false [⟨some 22, .mov (.t 7), none⟩, ⟨some 23, (.bin .neq (.t 22) (.k (.v (.int .i64 0)))), none⟩]) (.cond (.t 23) (.seq (.reg false [⟨some 24, .mov (.t 7), none⟩, ⟨some 6, .mov (.t 24), none⟩]) .ret) .skip))) (.seq (.reg false [⟨some 25, (.ldn (.k (.ptr 4001003 0)) 4), none⟩, ⟨some 8, (.alloc (.sv [(.v (.int .i64 0)), (.v (.int .i64 0)), (.v (.int .i64 0)), (.v (.int .i64 0))])), none⟩, ⟨.none, (.stn (.t 8) (.t 25) 4), none⟩]) (.seq (.reg false [⟨some 26, .mov (.t 1), none⟩, ⟨some 27, (.fadr (.t 8) 0), none⟩, ⟨.none, (.st (.t 27) (.k (.v (.int .i64 0)))), none⟩, ⟨some 28, (.fadr (.t 8) 3), none⟩, ⟨.none, (.st (.t 28) (.t 26)), none⟩]) (.seq (.reg false [⟨some 29, .mov (.t 0), none⟩, ⟨some 30, (.ldn (.t 8) 4), none⟩, ⟨some 31, (.call 63 [(.t 29), (.t 30)]), none⟩, ⟨some 6, .mov (.t 31), none⟩]) .ret))))))) [(.t 6)]
def mBInstall : MFn := .mk 110 (.seq (.reg false [⟨some 8, (.mov (.k (.v (.int .i64 0)))), none⟩]) (.seq (.reg false [⟨some 16, .mov (.t 0), none⟩, ⟨some 17, (.call 23 [(.t 16)]), none⟩, ⟨some 9, (.alloc (.sv [(.v (.int .i64 0)), (.v (.int .i64 0)), (.v (.int .i64 0)), (.v (.int .i64 0))])), none⟩, ⟨.none, (.stn (.t 9) (.t 17) 4), none⟩]) (.seq (.block 0 (.seq (.reg false [⟨some 19, .mov (.t 0), none⟩, ⟨some 20, (.binP .eql (.t 19) (.k (.v (.pointer .none)))), none⟩, ⟨some 18, .mov (.t 20), none⟩]) (.cond (.t 18) (.seq (.reg false [⟨some 8, (.mov (.k (.v (.int .i64 1)))), none⟩]) .ret) (.seq (.reg false [⟨some 22, (.ldn (.t 9) 4), none⟩, ⟨some 23, (.ldn (.k (.ptr 4001003 0)) 4), none⟩, ⟨some 24, (.binA .eql (.t 22) (.t 23) [0, 0, 0, 0]), none⟩, ⟨some 25, .mov (.t 24), none⟩, ⟨some 26, (.fadr (.t 9) 0), (.some (25, false))⟩, ⟨some 27, (.ld (.t 26)), (.some (25, false))⟩, ⟨some 28, (.bin .lss (.t 27) (.k (.v (.int .i64 0)))), (.some (25, false))⟩, ⟨some 29, (.pick (.t 25) (.k (.v (.bool true))) (.t 28)), none⟩, ⟨some 21, .mov (.t 29), none⟩]) (.cond (.t 21) (.seq (.reg false [⟨some 8, (.mov (.k (.v (.int .i64 5)))), none⟩]) .ret) (.seq (.reg false [⟨some 31, .mov (.t 3), none⟩, ⟨some 32, (.bin .lss (.t 31) (.k (.v (.int .i64 1)))), none⟩, ⟨some 33, .mov (.t 32), none⟩, ⟨some 34, (.mov (.t 3)), (.some (33, false))⟩, ⟨some 35, (.bin .gtr (.t 34) (.k (.v (.int .i64 8)))), (.some (33, false))⟩, ⟨some 36, (.pick (.t 33) (.k (.v (.bool true))) (.t 35)), none⟩, ⟨some 30, .mov (.t 36), none⟩]) (.cond (.t 30) (.seq (.reg false [⟨some 8, (.mov (.k (.v (.int .i64 1)))), none⟩]) .ret) (.seq (.reg false [⟨some 38, (.fadr (.t 9) 3), none⟩, ⟨some 39, .ld (.t 38), none⟩, ⟨some 40, (.bin .eql (.t 39) (.k (.v (.int .i64 255)))), none⟩, ⟨some 37, .mov (.t 40), none⟩]) (.cond (.t 37) (.seq (.reg false [⟨some 8, (.mov (.k (.v (.int .i64 8)))), none⟩]) .ret) (.seq (.reg false [⟨some 42, .mov (.t 1), none⟩, ⟨some 43, (.fadr (.t 9) 3), none⟩, ⟨some 44, .ld (.t 43), none⟩, ⟨some 45, (.bin .leq (.t 42) (.t 44)), none⟩, ⟨some 41, .mov (.t 45), none⟩]) (.cond (.t 41) (.seq (.reg false [⟨some 8, (.mov (.k (.v (.int .i64 12)))), none⟩]) .ret) (.seq (.reg false [⟨some 47, .mov (.t 1), none⟩, ⟨some 48, (.bin .gtr (.t 47) (.k (.v (.int .i64 255)))), none⟩, ⟨some 49, .mov (.t 48), none⟩, ⟨some 50, (.mov (.t 2)), (.some (49, false))⟩, ⟨some 51, (.bin .eql (.t 50) (.k (.v (.string ⟨#[]⟩)))), (.some (49, false))⟩, ⟨some 52, (.pick (.t 49) (.k (.v (.bool true))) (.t 51)), none⟩, ⟨some 46, .mov (.t 52), none⟩]) (.cond (.t 46) (.seq (.reg false [⟨some 8, (.mov (.k (.v (.int .i64 1)))), none⟩]) .ret) (.seq (.reg false [⟨some 54, .mov (.t 2), none⟩, ⟨some 55, (.lenS (.t 54)), none⟩, ⟨some 56, .mov (.t 0), none⟩, ⟨some 57, .nilck (.t 56), none⟩, ⟨some 58, (.fadr (.t 57) 2), none⟩, ⟨some 59, .ld (.t 58), none⟩, ⟨some 60, (.bin .mul (.t 59) (.k (.v (.int .i64 64)))), none⟩, ⟨some 61, (.mm true (.k (.v (.int .i64 8192))) [(.t 60)]), none⟩, ⟨some 62, (.bin .gtr (.t 55) (.t 61)), none⟩, ⟨some 53, .mov (.t 62), none⟩]) (.cond (.t 53) (.seq (.reg false [⟨some 8, (.mov (.k (.v (.int .i64 4)))), none⟩]) .ret) .skip))))))))))))))) (.seq (.reg false [⟨some 63, (.fadr (.t 9) 0), none⟩, ⟨some 64, .ld (.t 63), none⟩, ⟨some 65, (.bin .sub (.k (.v (.int .i64 1))) (.t 64)), none⟩, ⟨some 10, .mov (.t 65), none⟩]) (.seq (.seq (.reg false [⟨some 67, .mov (.t 0), none⟩, ⟨some 68, (.call 22 [(.t 67)]), none⟩, ⟨some 66, .mov (.t 68), none⟩, ⟨some 69, (.ext (.t 66) 0), none⟩, ⟨some 70, (.ext (.t 66) 1), none⟩, ⟨some 71, (.ext (.t 66) 2), none⟩, ⟨some 11, .mov (.t 69), none⟩, ⟨some 12, .mov (.t 70), none⟩, ⟨some 13, .mov (.t 71), none⟩]) (.seq (.reg false [⟨some 72, .mov (.t 13), none⟩, ⟨some 73, .mov (.t 72), none⟩, ⟨some 74, (.mov (.t 11)), (.some (73, true))⟩, ⟨some 75, (.mov (.t 10)), (.some (73, true))⟩, ⟨some 76, (.bin .eql (.t 74) (.t 75)), (.some (73, true))⟩, ⟨some 77, (.pick (.t 73) (.t 76) (.k (.v (.bool false)))), none⟩]) (.cond (.t 77) (.reg false [⟨some 78, .mov (.t 0), none⟩, ⟨some 79, (.call 60 [(.t 78)]), none⟩]) .skip))) (.seq (.seq (.regD (.pure ⟨some 80, (.ldn (.t 9) 4), none⟩ (.pure ⟨some 81, (.ldn (.t 9) 4), none⟩ (.act ⟨some 82, (.call 62 [(.t 81)]), none⟩ [⟨some 80, (.ldn (.t 9) 4), none⟩] (.pure ⟨some 83, (.binA .neq (.t 80) (.t 82) [0, 0, 0, 0]), none⟩ .fin) .stop)))) (.cond (.t 83) (.seq (.reg false [⟨some 84, (.ldn (.t 9) 4), none⟩, ⟨some 85, (.call 62 [(.t 84)]), none⟩, ⟨.none, (.stn (.t 9) (.t 85) 4), none⟩]) (.seq (.reg false [⟨some 86, .mov (.t 0), none⟩, ⟨some 87, (.ldn (.t 9) 4), none⟩, ⟨some 88, (.call 63 [(.t 86), (.t 87)]), none⟩, ⟨some 14, .mov (.t 88), none⟩]) (.seq (.reg false [⟨some 89, .mov (.t 14), none⟩, ⟨some 90, (.bin .neq (.t 89) (.k (.v (.int .i64 0)))), none⟩]) (.cond (.t 90) (.seq (.reg false [⟨some 91, .mov (.t 14), none⟩, ⟨some 8, .mov (.t 91), none⟩]) .ret) .skip)))) .skip)) (.seq (.seq (.reg false [⟨some 92, .mov (.t 0), none⟩, ⟨some 93, .nilck (.t 92), none⟩, ⟨some 94, (.fadr (.t 93) 1), none⟩, ⟨some 95, .ld (.t 94), none⟩, ⟨some 96, .mov (.t 10), none⟩, ⟨some 97, .mov (.t 1), none⟩, ⟨some 98, .mov (.t 2), none⟩, ⟨some 99, (.call 67 [(.t 95), (.t 96), (.t 97), (.t 98)]), none⟩, ⟨some 15, .mov (.t 99), none⟩]) (.seq (.reg false [⟨some 100, .mov (.t 15), none⟩, ⟨some 101, (.bin .neq (.t 100) (.k (.v (.int .i64 0)))), none⟩]) (.cond (.t 101) (.seq (.reg false [⟨some 102, .mov (.t 15), none⟩, ⟨some 8, .mov (.t 102), none⟩]) .ret) .skip))) (.seq (.reg false [⟨some 103, .mov (.t 10), none⟩, ⟨some 104, .mov (.t 3), none⟩, ⟨some 105, (.fadr (.t 9) 1), none⟩, ⟨.none, (.st (.t 105) (.t 103)), none⟩, ⟨some 106, (.fadr (.t 9) 2), none⟩, ⟨.none, (.st (.t 106) (.t 104)), none⟩]) (.seq (.reg false [⟨some 107, .mov (.t 0), none⟩, ⟨some 108, (.ldn (.t 9) 4), none⟩, ⟨some 109, (.call 63 [(.t 107), (.t 108)]), none⟩, ⟨some 8, .mov (.t 109), none⟩]) .ret))))))))) [(.t 8)]
def mBConfirm : MFn := .mk 33 (.seq (.reg false [⟨some 2, (.mov (.k (.v (.int .i64 0)))), none⟩]) (.seq (.reg false [⟨some 9, .mov (.t 0), none⟩, ⟨some 10, (.call 22 [(.t 9)]), none⟩, ⟨some 8, .mov (.t 10), none⟩, ⟨some 11, (.ext (.t 8) 0), none⟩, ⟨some 12, (.ext (.t 8) 1), none⟩, ⟨some 13, (.ext (.t 8) 2), none⟩, ⟨some 3, .mov (.t 11), none⟩, ⟨some 4, .mov (.t 12), none⟩, ⟨some 5, .mov (.t 13), none⟩]) (.seq (.reg false [⟨some 14, .mov (.t 0), none⟩, ⟨some 15, (.call 23 [(.t 14)]), none⟩, ⟨some 6, (.alloc (.sv [(.v (.int .i64 0)), (.v (.int .i64 0)), (.v (.int .i64 0)), (.v (.int .i64 0))])), none⟩, ⟨.none, (.stn (.t 6) (.t 15) 4), none⟩]) (.seq (.block 0 (.seq (.reg false [⟨some 17, .mov (.t 5), none⟩, ⟨some 18, (.un .not (.t 17)), none⟩, ⟨some 16, .mov (.t 18), none⟩]) (.cond (.t 16) (.seq (.reg false [⟨some 2, (.mov (.k (.v (.int .i64 5)))), none⟩]) .ret) (.seq (.reg false [⟨some 20, .mov (.t 3), none⟩, ⟨some 21, (.fadr (.t 6) 1), none⟩, ⟨some 22, .ld (.t 21), none⟩, ⟨some 23, (.bin .neq (.t 20) (.t 22)), none⟩, ⟨some 19, .mov (.t 23), none⟩]) (.cond (.t 19) (.seq (.reg false [⟨some 2, (.mov (.k (.v (.int .i64 0)))), none⟩]) .ret) .skip))))) (.seq (.reg false [⟨some 24, (.ldn (.t 6) 4), none⟩, ⟨some 25, (.call 62 [(.t 24)]), none⟩, ⟨some 7, (.alloc (.sv [(.v (.int .i64 0)), (.v (.int .i64 0)), (.v (.int .i64 0)), (.v (.int .i64 0))])), none⟩, ⟨.none, (.stn (.t 7) (.t 25) 4), none⟩]) (.seq (.reg false [⟨some 26, .mov (.t 3), none⟩, ⟨some 27, .mov (.t 4), none⟩, ⟨some 28, (.fadr (.t 7) 0), none⟩, ⟨.none, (.st (.t 28) (.t 26)), none⟩, ⟨some 29, (.fadr (.t 7) 3), none⟩, ⟨.none, (.st (.t 29) (.t 27)), none⟩]) (.seq (.reg false [⟨some 30, .mov (.t 0), none⟩, ⟨some 31, (.ldn (.t 7) 4), none⟩, ⟨some 32, (.call 63 [(.t 30), (.t 31)]), none⟩, ⟨some 2, .mov (.t 32), none⟩]) .ret))))))) [(.t 2)]
def mFCrash : MFn := .mk 65 (.seq (.reg false [⟨some 3, (.box (.t 1)), none⟩]) (.seq (.seq (.reg false [⟨some 7, .mov (.t 0), none⟩, ⟨some 8, (.binP .eql (.t 7) (.k (.v (.pointer .none)))), none⟩]) (.cond (.t 8) .ret .skip)) (.seq (.seq (.reg false [⟨some 9, .mov (.t 0), none⟩, ⟨some 10, .nilck (.t 9), none⟩, ⟨some 11, (.fadr (.t 10) 2), none⟩, ⟨some 12, .ld (.t 11), none⟩, ⟨some 13, (.lenL (.t 12)), none⟩, ⟨some 14, (.mov (.k (.v (.int .i64 0)))), none⟩]) (.block 0 (.loop (.seq (.reg false [⟨some 15, (.bin .lss (.t 14) (.t 13)), none⟩]) (.seq (.cond (.t 15) .skip (.exit 0)) (.seq (.block 1 (.seq (.reg false [⟨some 16, .mov (.t 14), none⟩, ⟨some 17, (.idxA (.t 12) (.t 14) 65), none⟩, ⟨some 18, (.ldn (.t 17) 65), none⟩, ⟨some 5, (.alloc (.pl zw)), none⟩, ⟨some 4, .mov (.t 16), none⟩, ⟨.none, (.stn (.t 5) (.t 18) 65), none⟩]) (.seq (.reg false [⟨some 19, (.fadr (.t 3) 0), none⟩, ⟨some 20, .ld (.t 19), none⟩, ⟨some 21, (.lenL (.t 20)), none⟩, ⟨some 22, (.bin .gtr (.t 21) (.k (.v (.int .i64 0)))), none⟩]) (.cond (.t 22) (.seq (.regD (.pure ⟨some 23, (.fadr (.t 3) 0), none⟩ (.pure ⟨some 24, .ld (.t 23), none⟩ (.pure ⟨some 25, .mov (.t 4), none⟩ (.pure ⟨some 26, (.fadr (.t 3) 0), none⟩ (.pure ⟨some 27, .ld (.t 26), none⟩ (.pure ⟨some 28, (.lenL (.t 27)), none⟩ (.pure ⟨some 29, (.bin .rem (.t 25) (.t 28)), none⟩ (.pure ⟨some 30, (.idxA (.t 24) (.t 29) 1), none⟩ (.pure ⟨some 31, .ld (.t 30), none⟩ (.pure ⟨some 32, (.mm false (.t 31) [(.k (.v (.int .i64 0)))]), none⟩ (.pure ⟨some 33, (.mm true (.t 32) [(.k (.v (.int .i64 64)))]), none⟩ (.pure ⟨some 6, .mov (.t 33), none⟩ .fin))))))))))))) (.regD (.pure ⟨some 34, .mov (.t 0), none⟩ (.pure ⟨some 35, .nilck (.t 34), none⟩ (.pure ⟨some 36, (.fadr (.t 35) 1), none⟩ (.pure ⟨some 37, .ld (.t 36), none⟩ (.pure ⟨some 38, (.fadr (.t 5) 0), none⟩ (.pure ⟨some 39, .ld (.t 38), none⟩ (.pure ⟨some 40, (.idxA (.t 37) (.t 39) 64), none⟩ (.pure ⟨some 41, .mov (.t 6), none⟩ (.pure ⟨some 42, (.slP (.t 40) .none (.some (.t 41)) 64 1), none⟩ (.pure ⟨some 43, (.fadr (.t 5) 1), none⟩ (.pure ⟨some 44, .mov (.t 6), none⟩ (.pure ⟨some 45, (.slP (.t 43) .none (.some (.t 44)) 64 1), none⟩ (.act ⟨some 46, (.cpy (.t 42) (.t 45) 1), none⟩ [] .fin .stop))))))))))))))) .skip)))) (.reg false [⟨some 47, (.bin .add (.t 14) (.k (.v (.int .i64 1)))), none⟩, ⟨some 14, .mov (.t 47), none⟩]))))))) (.seq (.reg false [⟨some 48, .mov (.t 0), none⟩, ⟨some 49, .mov (.t 0), none⟩, ⟨some 50, .nilck (.t 49), none⟩, ⟨some 51, (.fadr (.t 50) 1), none⟩, ⟨some 52, .ld (.t 51), none⟩, ⟨some 53, (.call 68 [(.t 52)]), none⟩, ⟨some 54, .nilck (.t 48), none⟩, ⟨some 55, (.fadr (.t 54) 0), none⟩, ⟨.none, (.st (.t 55) (.t 53)), none⟩]) (.reg false [⟨some 56, .mov (.t 0), none⟩, ⟨some 57, .mov (.t 0), none⟩, ⟨some 58, .mov (.t 0), none⟩, ⟨some 59, .nilck (.t 56), none⟩, ⟨some 60, (.fadr (.t 59) 2), none⟩, ⟨.none, (.st (.t 60) (.k (.sl 0 0 0 65))), none⟩, ⟨some 61, .nilck (.t 57), none⟩, ⟨some 62, (.fadr (.t 61) 4), none⟩, ⟨.none, (.st (.t 62) (.k (.v (.int .i64 0)))), none⟩, ⟨some 63, .nilck (.t 58), none⟩, ⟨some 64, (.fadr (.t 63) 5), none⟩, ⟨.none, (.st (.t 64) (.k (.v (.bool false)))), none⟩]))))) []
def mFWrite : MFn := .mk 48 (.seq (.reg false [⟨some 6, (.mov (.k (.v (.int .i64 0)))), none⟩]) (.seq (.seq (.reg false [⟨some 10, .mov (.t 0), none⟩, ⟨some 11, .mov (.t 1), none⟩, ⟨some 12, (.call 70 [(.t 10), (.t 11)]), none⟩, ⟨some 7, .mov (.t 12), none⟩]) (.seq (.reg false [⟨some 13, .mov (.t 7), none⟩, ⟨some 14, (.bin .neq (.t 13) (.k (.v (.int .i64 0)))), none⟩]) (.cond (.t 14) (.seq (.reg false [⟨some 15, .mov (.t 7), none⟩, ⟨some 6, .mov (.t 15), none⟩]) .ret) .skip))) (.seq (.seq (.reg false [⟨some 16, .mov (.t 2), none⟩, ⟨some 17, (.lenS (.t 16)), none⟩, ⟨some 18, (.bin .gtr (.t 17) (.k (.v (.int .i64 64)))), none⟩]) (.cond (.t 18) (.seq (.reg false [⟨some 6, (.mov (.k (.v (.int .i64 1)))), none⟩]) .ret) .skip)) (.seq (.seq (.reg false [⟨some 19, .mov (.t 0), none⟩, ⟨some 20, (.call 71 [(.t 19)]), none⟩, ⟨some 8, .mov (.t 20), none⟩]) (.seq (.reg false [⟨some 21, .mov (.t 8), none⟩, ⟨some 22, (.bin .neq (.t 21) (.k (.v (.int .i64 0)))), none⟩]) (.cond (.t 22) (.seq (.reg false [⟨some 23, .mov (.t 8), none⟩, ⟨some 6, .mov (.t 23), none⟩]) .ret) .skip))) (.seq (.reg false [⟨some 24, .mov (.t 1), none⟩, ⟨some 25, (.bld zws [(0, (1, (.t 24)))]), none⟩, ⟨some 9, (.alloc (.pl zw)), none⟩, ⟨.none, (.stn (.t 9) (.t 25) 65), none⟩]) (.seq (.reg false [⟨some 26, (.fadr (.t 9) 1), none⟩, ⟨some 27, (.slP (.t 26) .none .none 64 1), none⟩, ⟨some 28, .mov (.t 2), none⟩, ⟨some 29, (.cpyS (.t 27) (.t 28)), none⟩]) (.seq (.regD (.pure ⟨some 30, .mov (.t 0), none⟩ (.pure ⟨some 31, .mov (.t 0), none⟩ (.pure ⟨some 32, .nilck (.t 31), none⟩ (.pure ⟨some 33, (.fadr (.t 32) 2), none⟩ (.pure ⟨some 34, .ld (.t 33), none⟩ (.pure ⟨some 35, (.ldn (.t 9) 65), none⟩ (.act ⟨some 36, (.rowV 65 (.pl []) [(.t 35)]), none⟩ [⟨some 34, .ld (.t 33), none⟩] (.act ⟨some 37, (.app (.t 34) (.t 36) (.pl []) 65 72), none⟩ [] (.pure ⟨some 38, .nilck (.t 30), none⟩ (.pure ⟨some 39, (.fadr (.t 38) 2), none⟩ (.act ⟨.none, (.st (.t 39) (.t 37)), none⟩ [] .fin .stop))) .stop) .stop)))))))) (.seq (.regD (.pure ⟨some 40, .mov (.t 0), none⟩ (.pure ⟨some 41, .nilck (.t 40), none⟩ (.pure ⟨some 42, (.fadr (.t 41) 0), none⟩ (.pure ⟨some 43, .ld (.t 42), none⟩ (.pure ⟨some 44, .mov (.t 1), none⟩ (.pure ⟨some 45, (.fadr (.t 9) 1), none⟩ (.pure ⟨some 46, (.ldn (.t 45) 64), none⟩ (.pure ⟨some 47, (.idxA (.t 43) (.t 44) 64), none⟩ (.act ⟨.none, (.stn (.t 47) (.t 46) 64), none⟩ [] .fin .stop)))))))))) (.seq (.reg false [⟨some 6, (.mov (.k (.v (.int .i64 0)))), none⟩]) .ret))))))))) [(.t 6)]
def mFSectors : MFn := .mk 10 (.seq (.reg false [⟨some 2, (.mov (.k (.v (.int .i64 0)))), none⟩]) (.seq (.seq (.reg false [⟨some 3, .mov (.t 0), none⟩, ⟨some 4, (.binP .eql (.t 3) (.k (.v (.pointer .none)))), none⟩]) (.cond (.t 4) (.seq (.reg false [⟨some 2, (.mov (.k (.v (.int .i64 0)))), none⟩]) .ret) .skip)) (.seq (.reg false [⟨some 5, .mov (.t 0), none⟩, ⟨some 6, .nilck (.t 5), none⟩, ⟨some 7, (.fadr (.t 6) 0), none⟩, ⟨some 8, .ld (.t 7), none⟩, ⟨some 9, (.lenL (.t 8)), none⟩, ⟨some 2, .mov (.t 9), none⟩]) .ret))) [(.t 2)]
def mFOff : MFn := .mk 11 (.seq (.reg false [⟨some 2, (.mov (.k (.v (.bool false)))), none⟩]) (.seq (.reg false [⟨some 3, .mov (.t 0), none⟩, ⟨some 4, (.binP .neq (.t 3) (.k (.v (.pointer .none)))), none⟩, ⟨some 5, .mov (.t 4), none⟩, ⟨some 6, (.mov (.t 0)), (.some (5, true))⟩, ⟨some 7, (.nilck (.t 6)), (.some (5, true))⟩, ⟨some 8, (.fadr (.t 7) 5), (.some (5, true))⟩, ⟨some 9, (.ld (.t 8)), (.some (5, true))⟩, ⟨some 10, (.pick (.t 5) (.t 9) (.k (.v (.bool false)))), none⟩, ⟨some 2, .mov (.t 10), none⟩]) .ret)) [(.t 2)]
def mCcopied : MFn := .mk 88 (.seq (.reg false [⟨some 4, (.mov (.k (.v (.int .i64 0)))), none⟩, ⟨some 5, (.mov (.k (.v (.map .none)))), none⟩, ⟨some 6, (.mov (.k (.v (.bool false)))), none⟩]) (.seq (.regD (.pure ⟨some 20, .mov (.t 0), none⟩ (.pure ⟨some 21, .nilck (.t 20), none⟩ (.pure ⟨some 22, (.fadr (.t 21) 0), none⟩ (.pure ⟨some 23, .ld (.t 22), none⟩ (.pure ⟨some 24, .mov (.t 0), none⟩ (.pure ⟨some 25, .mov (.t 1), none⟩ (.act ⟨some 26, (.call 48 [(.t 24), (.t 25)]), none⟩ [⟨some 23, .ld (.t 22), none⟩] (.act ⟨some 27, (.call 74 [(.t 23), (.t 26)]), none⟩ [] (.pure ⟨some 19, .mov (.t 27), none⟩ (.pure ⟨some 28, (.ext (.t 19) 0), none⟩ (.pure ⟨some 29, (.ext (.t 19) 1), none⟩ (.pure ⟨some 7, .mov (.t 28), none⟩ (.pure ⟨some 8, .mov (.t 29), none⟩ .fin))))) .stop) .stop)))))))) (.seq (.reg false [⟨some 30, .mov (.t 7), none⟩, ⟨some 31, (.call 75 [(.t 30)]), none⟩, ⟨some 9, .mov (.t 31), none⟩]) (.seq (.reg false [⟨some 32, .mov (.t 9), none⟩, ⟨some 33, (.call 76 [(.t 32)]), none⟩, ⟨some 34, .mov (.t 9), none⟩, ⟨some 35, (.call 77 [(.t 34)]), none⟩, ⟨some 36, .mov (.t 9), none⟩, ⟨some 37, (.call 76 [(.t 36)]), none⟩, ⟨some 10, .mov (.t 33), none⟩, ⟨some 11, .mov (.t 35), none⟩, ⟨some 12, .mov (.t 37), none⟩]) (.seq (.seq (.reg false [⟨some 38, .mov (.t 10), none⟩, ⟨some 39, (.bin .eql (.t 38) (.k (.v (.int .i64 0)))), none⟩, ⟨some 40, .mov (.t 39), none⟩, ⟨some 41, (.mov (.t 10)), (.some (40, false))⟩, ⟨some 42, (.bin .eql (.t 41) (.k (.v (.int .i64 9223372036854775807)))), (.some (40, false))⟩, ⟨some 43, (.pick (.t 40) (.k (.v (.bool true))) (.t 42)), none⟩, ⟨some 44, .mov (.t 43), none⟩, ⟨some 45, (.mov (.t 10)), (.some (44, false))⟩, ⟨some 46, (.mov (.t 12)), (.some (44, false))⟩, ⟨some 47, (.bin .neq (.t 45) (.t 46)), (.some (44, false))⟩, ⟨some 48, (.pick (.t 44) (.k (.v (.bool true))) (.t 47)), none⟩, ⟨some 49, .mov (.t 48), none⟩, ⟨some 50, (.mov (.t 11)), (.some (49, false))⟩, ⟨some 51, (.mov (.t 0)), (.some (49, false))⟩, ⟨some 52, (.call 43 [(.t 51)]), (.some (49, false))⟩, ⟨some 53, (.bin .gtr (.t 50) (.t 52)), (.some (49, false))⟩, ⟨some 54, (.pick (.t 49) (.k (.v (.bool true))) (.t 53)), none⟩]) (.cond (.t 54) (.seq (.reg false [⟨some 4, (.mov (.k (.v (.int .i64 0)))), none⟩, ⟨some 5, (.mov (.k (.v (.map .none)))), none⟩, ⟨some 6, (.mov (.k (.v (.bool false)))), none⟩]) .ret) .skip)) (.seq (.reg false [⟨some 13, (.allocT (.sv [(.v (.pointer .none)), (.sl 0 0 0 1)]) 143 2), none⟩]) (.seq (.seq (.reg false [⟨some 14, (.mov (.k (.v (.int .i64 1)))), none⟩]) (.block 0 (.loop (.seq (.seq (.reg false [⟨some 55, .mov (.t 14), none⟩, ⟨some 56, .mov (.t 0), none⟩, ⟨some 57, .nilck (.t 56), none⟩, ⟨some 58, (.fadr (.t 57) 2), none⟩, ⟨some 59, .ld (.t 58), none⟩, ⟨some 60, (.bin .lss (.t 55) (.t 59)), none⟩]) (.cond (.t 60) .skip (.exit 0))) (.seq (.block 1 (.seq (.regD (.pure ⟨some 64, .mov (.t 0), none⟩ (.pure ⟨some 65, .nilck (.t 64), none⟩ (.pure ⟨some 66, (.fadr (.t 65) 0), none⟩ (.pure ⟨some 67, .ld (.t 66), none⟩ (.pure ⟨some 68, .mov (.t 0), none⟩ (.pure ⟨some 69, .mov (.t 1), none⟩ (.pure ⟨some 71, .mov (.t 14), none⟩ (.act ⟨some 70, (.call 48 [(.t 68), (.t 69)]), none⟩ [⟨some 67, .ld (.t 66), none⟩] (.pure ⟨some 72, (.bin .add (.t 70) (.t 71)), none⟩ (.act ⟨some 73, (.call 74 [(.t 67), (.t 72)]), none⟩ [] (.pure ⟨some 63, .mov (.t 73), none⟩ (.pure ⟨some 74, (.ext (.t 63) 0), none⟩ (.pure ⟨some 75, (.ext (.t 63) 1), none⟩ (.pure ⟨some 15, .mov (.t 74), none⟩ (.pure ⟨some 16, .mov (.t 75), none⟩ .fin))))) .stop)) .stop))))))))) (.reg false [⟨some 76, .mov (.t 15), none⟩, ⟨some 77, (.call 78 [(.t 13), (.t 76)]), none⟩]))) (.reg false [⟨some 61, .mov (.t 14), none⟩, ⟨some 62, (.bin .add (.t 61) (.k (.v (.int .i64 1)))), none⟩, ⟨some 14, .mov (.t 62), none⟩])))))) (.seq (.reg false [⟨some 79, (.call 80 [(.t 13)]), none⟩, ⟨some 80, .mov (.t 11), none⟩, ⟨some 81, (.slS (.t 79) .none (.some (.t 80))), none⟩, ⟨some 82, (.call 79 [(.t 81)]), none⟩, ⟨some 78, .mov (.t 82), none⟩, ⟨some 83, (.ext (.t 78) 0), none⟩, ⟨some 84, (.ext (.t 78) 1), none⟩, ⟨some 17, .mov (.t 83), none⟩, ⟨some 18, .mov (.t 84), none⟩]) (.seq (.reg false [⟨some 85, .mov (.t 10), none⟩, ⟨some 86, .mov (.t 17), none⟩, ⟨some 87, .mov (.t 18), none⟩, ⟨some 4, .mov (.t 85), none⟩, ⟨some 5, .mov (.t 86), none⟩, ⟨some 6, .mov (.t 87), none⟩]) .ret))))))))) [(.t 4), (.t 5), (.t 6)]
def mCUndo : MFn := .mk 12 (.seq (.reg false [⟨some 2, .mov (.t 0), none⟩, ⟨some 3, (.binP .neq (.t 2) (.k (.v (.pointer .none)))), none⟩]) (.cond (.t 3) (.reg false [⟨some 4, .mov (.t 0), none⟩, ⟨some 5, .mov (.t 0), none⟩, ⟨some 6, .nilck (.t 5), none⟩, ⟨some 7, (.fadr (.t 6) 4), none⟩, ⟨some 8, .ld (.t 7), none⟩, ⟨some 9, (.call 49 [(.t 8)]), none⟩, ⟨some 10, .nilck (.t 4), none⟩, ⟨some 11, (.fadr (.t 10) 3), none⟩, ⟨.none, (.st (.t 11) (.t 9)), none⟩]) .skip)) []
def mCGet : MFn := .mk 22 (.seq (.reg false [⟨some 4, (.mov (.k (.v (.string ⟨#[]⟩)))), none⟩, ⟨some 5, (.mov (.k (.v (.bool false)))), none⟩]) (.seq (.seq (.reg false [⟨some 8, .mov (.t 0), none⟩, ⟨some 9, (.binP .eql (.t 8) (.k (.v (.pointer .none)))), none⟩]) (.cond (.t 9) (.seq (.reg false [⟨some 4, (.mov (.k (.v (.string ⟨#[]⟩)))), none⟩, ⟨some 5, (.mov (.k (.v (.bool false)))), none⟩]) .ret) .skip)) (.seq (.reg false [⟨some 11, .mov (.t 0), none⟩, ⟨some 12, .nilck (.t 11), none⟩, ⟨some 13, (.fadr (.t 12) 3), none⟩, ⟨some 14, .ld (.t 13), none⟩, ⟨some 15, .mov (.t 1), none⟩, ⟨some 16, (.luM (.t 14) (.t 15) (.agg #[(.string ⟨#[]⟩)]) true), none⟩, ⟨some 10, .mov (.t 16), none⟩, ⟨some 17, (.ext (.t 10) 0), none⟩, ⟨some 18, (.ext (.t 10) 1), none⟩, ⟨some 6, (.alloc (.sv [(.v (.string ⟨#[]⟩))])), none⟩, ⟨.none, (.stn (.t 6) (.t 17) 1), none⟩, ⟨some 7, .mov (.t 18), none⟩]) (.seq (.reg false [⟨some 19, (.fadr (.t 6) 0), none⟩, ⟨some 20, .ld (.t 19), none⟩, ⟨some 21, .mov (.t 7), none⟩, ⟨some 4, .mov (.t 20), none⟩, ⟨some 5, .mov (.t 21), none⟩]) .ret)))) [(.t 4), (.t 5)]
def mcbytes : MFn := .mk 31 (.seq (.reg false [⟨some 2, (.mov (.k (.v (.string ⟨#[]⟩)))), none⟩]) (.seq (.reg false [⟨some 3, (.alloc (.sv [(.sl 0 0 0 1), (.v (.bool false))])), none⟩]) (.seq (.reg false [⟨some 8, .mov (.t 0), none⟩, ⟨some 9, (.lenM (.t 8)), none⟩, ⟨some 10, (.call 85 [(.t 3), (.t 9)]), none⟩]) (.seq (.seq (.reg false [⟨some 11, .mov (.t 0), none⟩, ⟨some 12, (.call 86 [(.t 11)]), none⟩, ⟨some 13, (.lenL (.t 12)), none⟩, ⟨some 14, (.mov (.k (.v (.int .i64 0)))), none⟩]) (.block 0 (.loop (.seq (.reg false [⟨some 15, (.bin .lss (.t 14) (.t 13)), none⟩]) (.seq (.cond (.t 15) .skip (.exit 0)) (.seq (.block 1 (.seq (.reg false [⟨some 16, (.idxA (.t 12) (.t 14) 1), none⟩, ⟨some 17, .ld (.t 16), none⟩, ⟨some 5, .mov (.t 17), none⟩]) (.seq (.reg false [⟨some 18, .mov (.t 5), none⟩, ⟨some 19, (.call 87 [(.t 3), (.t 18)]), none⟩]) (.reg false [⟨some 20, .mov (.t 0), none⟩, ⟨some 21, .mov (.t 5), none⟩, ⟨some 22, (.luM (.t 20) (.t 21) (.agg #[(.string ⟨#[]⟩)]) false), none⟩, ⟨some 23, (.fld (.t 22) 0 1 false), none⟩, ⟨some 24, (.call 87 [(.t 3), (.t 23)]), none⟩])))) (.reg false [⟨some 25, (.bin .add (.t 14) (.k (.v (.int .i64 1)))), none⟩, ⟨some 14, .mov (.t 25), none⟩]))))))) (.seq (.reg false [⟨some 27, (.call 46 [(.t 3)]), none⟩, ⟨some 26, .mov (.t 27), none⟩, ⟨some 28, (.ext (.t 26) 0), none⟩, ⟨some 29, (.ext (.t 26) 1), none⟩, ⟨some 6, .mov (.t 28), none⟩, ⟨some 7, .mov (.t 29), none⟩]) (.seq (.reg false [⟨some 30, .mov (.t 6), none⟩, ⟨some 2, .mov (.t 30), none⟩]) .ret)))))) [(.t 2)]
def mCroom : MFn := .mk 9 (.seq (.reg false [⟨some 2, (.mov (.k (.v (.int .i64 0)))), none⟩]) (.seq (.reg false [⟨some 3, .mov (.t 0), none⟩, ⟨some 4, .nilck (.t 3), none⟩, ⟨some 5, (.fadr (.t 4) 2), none⟩, ⟨some 6, .ld (.t 5), none⟩, ⟨some 7, (.bin .sub (.t 6) (.k (.v (.int .i64 1)))), none⟩, ⟨some 8, (.bin .mul (.k (.v (.int .i64 64))) (.t 7)), none⟩, ⟨some 2, .mov (.t 8), none⟩]) .ret)) [(.t 2)]
def mWEight : MFn := .mk 7 (.reg false [⟨some 4, .mov (.t 0), none⟩, ⟨some 5, .mov (.t 1), none⟩, ⟨some 6, (.call 88 [(.t 4), (.t 5), (.k (.v (.int .i64 8)))]), none⟩]) []
def mWFour : MFn := .mk 7 (.reg false [⟨some 4, .mov (.t 0), none⟩, ⟨some 5, .mov (.t 1), none⟩, ⟨some 6, (.call 88 [(.t 4), (.t 5), (.k (.v (.int .i64 4)))]), none⟩]) []
def mWBytes : MFn := .mk 17 (.seq (.reg false [⟨some 2, (.mov (.k (.v (.string ⟨#[]⟩)))), none⟩, ⟨some 3, (.mov (.k (.v (.int .i64 0)))), none⟩]) (.seq (.seq (.reg false [⟨some 4, .mov (.t 0), none⟩, ⟨some 5, (.binP .eql (.t 4) (.k (.v (.pointer .none)))), none⟩, ⟨some 6, .mov (.t 5), none⟩, ⟨some 7, (.mov (.t 0)), (.some (6, false))⟩, ⟨some 8, (.nilck (.t 7)), (.some (6, false))⟩, ⟨some 9, (.fadr (.t 8) 1), (.some (6, false))⟩, ⟨some 10, (.ld (.t 9)), (.some (6, false))⟩, ⟨some 11, (.pick (.t 6) (.k (.v (.bool true))) (.t 10)), none⟩]) (.cond (.t 11) (.seq (.reg false [⟨some 2, (.mov (.k (.v (.string ⟨#[]⟩)))), none⟩, ⟨some 3, (.mov (.k (.v (.int .i64 1)))), none⟩]) .ret) .skip)) (.seq (.reg false [⟨some 12, .mov (.t 0), none⟩, ⟨some 13, .nilck (.t 12), none⟩, ⟨some 14, (.fadr (.t 13) 0), none⟩, ⟨some 15, .ld (.t 14), none⟩, ⟨some 16, (.b2s (.t 15)), none⟩, ⟨some 2, .mov (.t 16), none⟩, ⟨some 3, (.mov (.k (.v (.int .i64 0)))), none⟩]) .ret))) [(.t 2), (.t 3)]
def mCwrite : MFn := .mk 68 (.seq (.reg false [⟨some 8, (.mov (.k (.v (.int .i64 0)))), none⟩]) (.seq (.seq (.reg false [⟨some 15, .mov (.t 1), none⟩, ⟨some 16, (.bld [(.v (.int .i64 0)), (.v (.string ⟨#[]⟩))] [(0, (1, (.t 15))), (1, (1, (.k (.v (.string ⟨#[]⟩)))))]), none⟩, ⟨some 17, .mov (.t 1), none⟩, ⟨some 18, (.bin .add (.t 17) (.k (.v (.int .i64 1)))), none⟩, ⟨some 19, .mov (.t 2), none⟩, ⟨some 20, (.bld [(.v (.int .i64 0)), (.v (.string ⟨#[]⟩))] [(0, (1, (.t 18))), (1, (1, (.t 19)))]), none⟩, ⟨some 21, .mov (.t 1), none⟩, ⟨some 22, .mov (.t 3), none⟩, ⟨some 23, (.bld [(.v (.int .i64 0)), (.v (.string ⟨#[]⟩))] [(0, (1, (.t 21))), (1, (1, (.t 22)))]), none⟩, ⟨some 24, (.rowV 2 (.pl []) [(.t 16), (.t 20), (.t 23)]), none⟩, ⟨some 25, (.lenL (.t 24)), none⟩, ⟨some 26, (.mov (.k (.v (.int .i64 0)))), none⟩]) (.block 0 (.loop (.seq (.reg false [⟨some 27, (.bin .lss (.t 26) (.t 25)), none⟩]) (.seq (.cond (.t 27) .skip (.exit 0)) (.seq (.block 1 (.seq (.reg false [⟨some 28, (.idxA (.t 24) (.t 26) 2), none⟩, ⟨some 29, (.ldn (.t 28) 2), none⟩, ⟨some 10, (.alloc (.sv [(.v (.int .i64 0)), (.v (.string ⟨#[]⟩))])), none⟩, ⟨.none, (.stn (.t 10) (.t 29) 2), none⟩]) (.seq (.seq (.reg false [⟨some 30, (.fadr (.t 10) 0), none⟩, ⟨some 31, .ld (.t 30), none⟩, ⟨some 11, .mov (.t 31), none⟩]) (.block 2 (.loop (.seq (.block 3 (.seq (.reg false [⟨some 34, (.fadr (.t 10) 1), none⟩, ⟨some 35, .ld (.t 34), none⟩, ⟨some 36, (.lenS (.t 35)), none⟩, ⟨some 37, (.mm true (.t 36) [(.k (.v (.int .i64 64)))]), none⟩, ⟨some 12, .mov (.t 37), none⟩]) (.seq (.seq (.regD (.pure ⟨some 38, .mov (.t 0), none⟩ (.pure ⟨some 39, .nilck (.t 38), none⟩ (.pure ⟨some 40, (.fadr (.t 39) 0), none⟩ (.pure ⟨some 41, .ld (.t 40), none⟩ (.pure ⟨some 42, .mov (.t 11), none⟩ (.pure ⟨some 43, (.fadr (.t 10) 1), none⟩ (.pure ⟨some 44, .ld (.t 43), none⟩ (.pure ⟨some 45, .mov (.t 12), none⟩ (.pure ⟨some 46, (.slS (.t 44) .none (.some (.t 45))), none⟩ (.act ⟨some 47, (.call 32 [(.t 41), (.t 42), (.t 46)]), none⟩ [] (.pure ⟨some 13, .mov (.t 47), none⟩ .fin) .stop))))))))))) (.seq (.reg false [⟨some 48, .mov (.t 13), none⟩, ⟨some 49, (.bin .neq (.t 48) (.k (.v (.int .i64 0)))), none⟩]) (.cond (.t 49) (.seq (.reg false [⟨some 50, .mov (.t 13), none⟩, ⟨some 8, .mov (.t 50), none⟩]) .ret) .skip))) (.seq (.reg false [⟨some 51, (.fadr (.t 10) 1), none⟩, ⟨some 52, .ld (.t 51), none⟩, ⟨some 53, .mov (.t 12), none⟩, ⟨some 54, (.slS (.t 52) (.some (.t 53)) .none), none⟩, ⟨some 55, (.fadr (.t 10) 1), none⟩, ⟨.none, (.st (.t 55) (.t 54)), none⟩]) (.seq (.reg false [⟨some 56, (.fadr (.t 10) 1), none⟩, ⟨some 57, .ld (.t 56), none⟩, ⟨some 58, (.bin .eql (.t 57) (.k (.v (.string ⟨#[]⟩)))), none⟩]) (.cond (.t 58) (.exit 2) .skip)))))) (.reg false [⟨some 32, .mov (.t 11), none⟩, ⟨some 33, (.bin .add (.t 32) (.k (.v (.int .i64 1)))), none⟩, ⟨some 11, .mov (.t 33), none⟩]))))) (.seq (.reg false [⟨some 59, .mov (.t 0), none⟩, ⟨some 60, .nilck (.t 59), none⟩, ⟨some 61, (.fadr (.t 60) 0), none⟩, ⟨some 62, .ld (.t 61), none⟩, ⟨some 63, (.call 89 [(.t 62)]), none⟩, ⟨some 14, .mov (.t 63), none⟩]) (.seq (.reg false [⟨some 64, .mov (.t 14), none⟩, ⟨some 65, (.bin .neq (.t 64) (.k (.v (.int .i64 0)))), none⟩]) (.cond (.t 65) (.seq (.reg false [⟨some 66, .mov (.t 14), none⟩, ⟨some 8, .mov (.t 66), none⟩]) .ret) .skip)))))) (.reg false [⟨some 67, (.bin .add (.t 26) (.k (.v (.int .i64 1)))), none⟩, ⟨some 26, .mov (.t 67), none⟩]))))))) (.seq (.reg false [⟨some 8, (.mov (.k (.v (.int .i64 0)))), none⟩]) .ret))) [(.t 8)]
def mCfirst : MFn := .mk 16 (.seq (.reg false [⟨some 4, (.mov (.k (.v (.int .i64 0)))), none⟩]) (.seq (.regD (.pure ⟨some 5, .mov (.t 0), none⟩ (.pure ⟨some 6, .nilck (.t 5), none⟩ (.pure ⟨some 7, (.fadr (.t 6) 1), none⟩ (.pure ⟨some 8, .ld (.t 7), none⟩ (.pure ⟨some 9, .mov (.t 1), none⟩ (.pure ⟨some 10, .mov (.t 0), none⟩ (.pure ⟨some 11, .nilck (.t 10), none⟩ (.pure ⟨some 12, (.fadr (.t 11) 2), none⟩ (.pure ⟨some 13, .ld (.t 12), none⟩ (.pure ⟨some 14, (.bin .mul (.t 9) (.t 13)), none⟩ (.pure ⟨some 15, (.bin .add (.t 8) (.t 14)), none⟩ (.pure ⟨some 4, .mov (.t 15), none⟩ .fin))))))))))))) .ret)) [(.t 4)]
def mSOpen : MFn := .mk 41 (.seq (.reg false [⟨some 6, (.mov (.k (.v (.pointer .none)))), none⟩, ⟨some 7, (.mov (.k (.v (.int .i64 0)))), none⟩]) (.seq (.block 0 (.seq (.reg false [⟨some 9, .mov (.t 0), none⟩, ⟨some 10, (.binP .eql (.t 9) (.k (.v (.pointer .none)))), none⟩, ⟨some 11, .mov (.t 10), none⟩, ⟨some 12, (.mov (.t 1)), (.some (11, false))⟩, ⟨some 13, (.bin .lss (.t 12) (.k (.v (.int .i64 0)))), (.some (11, false))⟩, ⟨some 14, (.pick (.t 11) (.k (.v (.bool true))) (.t 13)), none⟩, ⟨some 15, .mov (.t 14), none⟩, ⟨some 16, (.mov (.t 2)), (.some (15, false))⟩, ⟨some 17, (.bin .lss (.t 16) (.k (.v (.int .i64 1)))), (.some (15, false))⟩, ⟨some 18, (.pick (.t 15) (.k (.v (.bool true))) (.t 17)), none⟩, ⟨some 19, .mov (.t 18), none⟩, ⟨some 20, (.mov (.t 2)), (.some (19, false))⟩, ⟨some 21, (.bin .gtr (.t 20) (.k (.v (.int .i64 128)))), (.some (19, false))⟩, ⟨some 22, (.pick (.t 19) (.k (.v (.bool true))) (.t 21)), none⟩, ⟨some 23, .mov (.t 22), none⟩, ⟨some 24, (.mov (.t 1)), (.some (23, false))⟩, ⟨some 25, (.mov (.t 0)), (.some (23, false))⟩, ⟨some 26, (.call 34 [(.t 25)]), (.some (23, false))⟩, ⟨some 27, (.mov (.t 2)), (.some (23, false))⟩, ⟨some 28, (.bin .add (.k (.v (.int .i64 1))) (.t 27)), (.some (23, false))⟩, ⟨some 29, (.bin .mul (.k (.v (.int .i64 2))) (.t 28)), (.some (23, false))⟩, ⟨some 30, (.bin .sub (.t 26) (.t 29)), (.some (23, false))⟩, ⟨some 31, (.bin .gtr (.t 24) (.t 30)), (.some (23, false))⟩, ⟨some 32, (.pick (.t 23) (.k (.v (.bool true))) (.t 31)), none⟩, ⟨some 8, .mov (.t 32), none⟩]) (.cond (.t 8) (.seq (.reg false [⟨some 6, (.mov (.k (.v (.pointer .none)))), none⟩, ⟨some 7, (.mov (.k (.v (.int .i64 1)))), none⟩]) .ret) (.seq (.reg false [⟨some 34, .mov (.t 0), none⟩, ⟨some 35, (.call 35 [(.t 34)]), none⟩, ⟨some 33, .mov (.t 35), none⟩]) (.cond (.t 33) (.seq (.reg false [⟨some 6, (.mov (.k (.v (.pointer .none)))), none⟩, ⟨some 7, (.mov (.k (.v (.int .i64 7)))), none⟩]) .ret) .skip))))) (.seq (.reg false [⟨some 36, .mov (.t 0), none⟩, ⟨some 37, .mov (.t 1), none⟩, ⟨some 38, .mov (.t 2), none⟩, ⟨some 39, (.bld [(.v (.pointer .none)), (.v (.int .i64 0)), (.v (.int .i64 0))] [(0, (1, (.t 36))), (1, (1, (.t 37))), (2, (1, (.t 38)))]), none⟩, ⟨some 40, (.box (.t 39)), none⟩, ⟨some 6, .mov (.t 40), none⟩, ⟨some 7, (.mov (.k (.v (.int .i64 0)))), none⟩]) .ret))) [(.t 6), (.t 7)]
def mBstop : MFn := .mk 14 (.reg false [⟨some 2, .mov (.t 0), none⟩, ⟨some 3, .mov (.t 0), none⟩, ⟨some 4, .mov (.t 0), none⟩, ⟨some 5, .nilck (.t 2), none⟩, ⟨some 6, (.fadr (.t 5) 3), none⟩, ⟨some 7, (.fadr (.t 6) 0), none⟩, ⟨.none, (.st (.t 7) (.k (.v (.bool false)))), none⟩, ⟨some 8, .nilck (.t 3), none⟩, ⟨some 9, (.fadr (.t 8) 3), none⟩, ⟨some 10, (.fadr (.t 9) 1), none⟩, ⟨.none, (.st (.t 10) (.k (.v (.int .i64 0)))), none⟩, ⟨some 11, .nilck (.t 4), none⟩, ⟨some 12, (.fadr (.t 11) 3), none⟩, ⟨some 13, (.fadr (.t 12) 2), none⟩, ⟨.none, (.st (.t 13) (.k (.v (.int .i64 0)))), none⟩]) []
def mSRead : MFn := .mk 96 (.seq (.reg false [⟨some 4, (.mov (.k (.v (.int .i64 0)))), none⟩, ⟨some 5, (.mov (.k (.v (.string ⟨#[]⟩)))), none⟩, ⟨some 6, (.mov (.k (.v (.int .i64 0)))), none⟩]) (.seq (.reg false [⟨some 20, .mov (.t 0), none⟩, ⟨some 21, .mov (.t 1), none⟩, ⟨some 22, (.call 98 [(.t 20), (.t 21)]), none⟩, ⟨some 19, .mov (.t 22), none⟩, ⟨some 23, (.ext (.t 19) 0), none⟩, ⟨some 24, (.ext (.t 19) 1), none⟩, ⟨some 7, .mov (.t 23), none⟩, ⟨some 8, .mov (.t 24), none⟩]) (.seq (.seq (.reg false [⟨some 25, .mov (.t 8), none⟩, ⟨some 26, (.un .not (.t 25)), none⟩]) (.cond (.t 26) (.seq (.reg false [⟨some 4, (.mov (.k (.v (.int .i64 0)))), none⟩, ⟨some 5, (.mov (.k (.v (.string ⟨#[]⟩)))), none⟩, ⟨some 6, (.mov (.k (.v (.int .i64 1)))), none⟩]) .ret) .skip)) (.seq (.reg false [⟨some 28, .mov (.t 0), none⟩, ⟨some 29, .nilck (.t 28), none⟩, ⟨some 30, (.fadr (.t 29) 0), none⟩, ⟨some 31, .ld (.t 30), none⟩, ⟨some 32, .mov (.t 7), none⟩, ⟨some 33, (.call 74 [(.t 31), (.t 32)]), none⟩, ⟨some 27, .mov (.t 33), none⟩, ⟨some 34, (.ext (.t 27) 0), none⟩, ⟨some 35, (.ext (.t 27) 1), none⟩, ⟨some 9, .mov (.t 34), none⟩, ⟨some 6, .mov (.t 35), none⟩]) (.seq (.seq (.reg false [⟨some 36, .mov (.t 6), none⟩, ⟨some 37, (.bin .neq (.t 36) (.k (.v (.int .i64 0)))), none⟩]) (.cond (.t 37) (.seq (.reg false [⟨some 38, .mov (.t 6), none⟩, ⟨some 4, (.mov (.k (.v (.int .i64 0)))), none⟩, ⟨some 5, (.mov (.k (.v (.string ⟨#[]⟩)))), none⟩, ⟨some 6, .mov (.t 38), none⟩]) .ret) .skip)) (.seq (.reg false [⟨some 39, .mov (.t 9), none⟩, ⟨some 40, (.call 75 [(.t 39)]), none⟩, ⟨some 10, .mov (.t 40), none⟩]) (.seq (.reg false [⟨some 41, .mov (.t 10), none⟩, ⟨some 42, (.call 99 [(.t 41)]), none⟩, ⟨some 43, .mov (.t 10), none⟩, ⟨some 44, (.call 77 [(.t 43)]), none⟩, ⟨some 45, .mov (.t 10), none⟩, ⟨some 46, (.call 100 [(.t 45)]), none⟩, ⟨some 47, .mov (.t 10), none⟩, ⟨some 48, (.call 99 [(.t 47)]), none⟩, ⟨some 11, .mov (.t 42), none⟩, ⟨some 12, .mov (.t 44), none⟩, ⟨some 13, .mov (.t 46), none⟩, ⟨some 14, .mov (.t 48), none⟩]) (.seq (.seq (.reg false [⟨some 49, .mov (.t 11), none⟩, ⟨some 50, (.bin .eql (.t 49) (.k (.v (.int .i64 0)))), none⟩, ⟨some 51, .mov (.t 50), none⟩, ⟨some 52, (.mov (.t 11)), (.some (51, false))⟩, ⟨some 53, (.mov (.t 14)), (.some (51, false))⟩, ⟨some 54, (.bin .neq (.t 52) (.t 53)), (.some (51, false))⟩, ⟨some 55, (.pick (.t 51) (.k (.v (.bool true))) (.t 54)), none⟩, ⟨some 56, .mov (.t 55), none⟩, ⟨some 57, (.mov (.t 12)), (.some (56, false))⟩, ⟨some 58, (.bin .eql (.t 57) (.k (.v (.int .i64 0)))), (.some (56, false))⟩, ⟨some 59, (.pick (.t 56) (.k (.v (.bool true))) (.t 58)), none⟩, ⟨some 60, .mov (.t 59), none⟩, ⟨some 61, (.mov (.t 0)), (.some (60, false))⟩, ⟨some 62, (.mov (.t 12)), (.some (60, false))⟩, ⟨some 63, (.call 101 [(.t 61), (.t 62)]), (.some (60, false))⟩, ⟨some 64, (.un .not (.t 63)), (.some (60, false))⟩, ⟨some 65, (.pick (.t 60) (.k (.v (.bool true))) (.t 64)), none⟩]) (.cond (.t 65) (.seq (.reg false [⟨some 4, (.mov (.k (.v (.int .i64 0)))), none⟩, ⟨some 5, (.mov (.k (.v (.string ⟨#[]⟩)))), none⟩, ⟨some 6, (.mov (.k (.v (.int .i64 5)))), none⟩]) .ret) .skip)) (.seq (.reg false [⟨some 15, (.allocT (.sv [(.v (.pointer .none)), (.sl 0 0 0 1)]) 143 2), none⟩]) (.seq (.seq (.reg false [⟨some 16, (.mov (.k (.v (.int .i64 0)))), none⟩]) (.block 0 (.loop (.seq (.seq (.reg false [⟨some 66, .mov (.t 16), none⟩, ⟨some 67, (.bin .mul (.t 66) (.k (.v (.int .i64 64)))), none⟩, ⟨some 68, .mov (.t 12), none⟩, ⟨some 69, (.bin .lss (.t 67) (.t 68)), none⟩]) (.cond (.t 69) .skip (.exit 0))) (.seq (.block 1 (.seq (.reg false [⟨some 73, .mov (.t 0), none⟩, ⟨some 74, .nilck (.t 73), none⟩, ⟨some 75, (.fadr (.t 74) 0), none⟩, ⟨some 76, .ld (.t 75), none⟩, ⟨some 77, .mov (.t 7), none⟩, ⟨some 78, (.bin .add (.t 77) (.k (.v (.int .i64 1)))), none⟩, ⟨some 79, .mov (.t 16), none⟩, ⟨some 80, (.bin .add (.t 78) (.t 79)), none⟩, ⟨some 81, (.call 74 [(.t 76), (.t 80)]), none⟩, ⟨some 72, .mov (.t 81), none⟩, ⟨some 82, (.ext (.t 72) 0), none⟩, ⟨some 83, (.ext (.t 72) 1), none⟩, ⟨some 17, .mov (.t 82), none⟩, ⟨some 18, .mov (.t 83), none⟩]) (.reg false [⟨some 84, .mov (.t 17), none⟩, ⟨some 85, (.call 78 [(.t 15), (.t 84)]), none⟩]))) (.reg false [⟨some 70, .mov (.t 16), none⟩, ⟨some 71, (.bin .add (.t 70) (.k (.v (.int .i64 1)))), none⟩, ⟨some 16, .mov (.t 71), none⟩])))))) (.seq (.reg false [⟨some 86, (.call 80 [(.t 15)]), none⟩, ⟨some 87, .mov (.t 12), none⟩, ⟨some 88, (.slS (.t 86) .none (.some (.t 87))), none⟩, ⟨some 5, .mov (.t 88), none⟩]) (.seq (.seq (.reg false [⟨some 89, .mov (.t 5), none⟩, ⟨some 90, (.rowS [(.t 89)]), none⟩, ⟨some 91, (.call 102 [(.t 90)]), none⟩, ⟨some 92, .mov (.t 13), none⟩, ⟨some 93, (.bin .neq (.t 91) (.t 92)), none⟩]) (.cond (.t 93) (.seq (.reg false [⟨some 4, (.mov (.k (.v (.int .i64 0)))), none⟩, ⟨some 5, (.mov (.k (.v (.string ⟨#[]⟩)))), none⟩, ⟨some 6, (.mov (.k (.v (.int .i64 10)))), none⟩]) .ret) .skip)) (.seq (.reg false [⟨some 94, .mov (.t 11), none⟩, ⟨some 95, .mov (.t 5), none⟩, ⟨some 4, .mov (.t 94), none⟩, ⟨some 5, .mov (.t 95), none⟩, ⟨some 6, (.mov (.k (.v (.int .i64 0)))), none⟩]) .ret))))))))))))) [(.t 4), (.t 5), (.t 6)]
def mBsettled : MFn := .mk 8 (.seq (.reg false [⟨some 1, (.box (.t 0)), none⟩, ⟨some 2, (.alloc (.sv [(.v (.int .i64 0)), (.v (.int .i64 0)), (.v (.int .i64 0)), (.v (.int .i64 0))])), none⟩]) (.seq (.reg false [⟨some 3, (.fadr (.k (.ptr 4001003 0)) 1), none⟩, ⟨some 4, .ld (.t 3), none⟩, ⟨some 5, (.fadr (.t 1) 1), none⟩, ⟨.none, (.st (.t 5) (.t 4)), none⟩, ⟨some 6, (.fadr (.t 1) 2), none⟩, ⟨.none, (.st (.t 6) (.k (.v (.int .i64 0)))), none⟩]) (.seq (.reg false [⟨some 7, (.ldn (.t 1) 4), none⟩, ⟨.none, (.stn (.t 2) (.t 7) 4), none⟩]) .ret))) [(.cn 2 4)]
def mBkeep : MFn := .mk 59 (.seq (.reg false [⟨some 3, (.box (.t 1)), none⟩, ⟨some 4, (.mov (.k (.v (.int .i64 0)))), none⟩]) (.seq (.seq (.reg false [⟨some 8, .mov (.t 0), none⟩, ⟨some 9, .nilck (.t 8), none⟩, ⟨some 10, (.fadr (.t 9) 0), none⟩, ⟨some 11, .ld (.t 10), none⟩, ⟨some 12, (.call 65 [(.t 11)]), none⟩, ⟨some 13, (.lenL (.t 12)), none⟩, ⟨some 14, (.mov (.k (.v (.int .i64 0)))), none⟩]) (.block 0 (.loop (.seq (.reg false [⟨some 15, (.bin .lss (.t 14) (.t 13)), none⟩]) (.seq (.cond (.t 15) .skip (.exit 0)) (.seq (.block 1 (.seq (.reg false [⟨some 16, (.idxA (.t 12) (.t 14) 1), none⟩, ⟨some 17, .ld (.t 16), none⟩, ⟨some 6, .mov (.t 17), none⟩]) (.reg false [⟨some 18, .mov (.t 0), none⟩, ⟨some 19, .nilck (.t 18), none⟩, ⟨some 20, (.fadr (.t 19) 0), none⟩, ⟨some 21, .ld (.t 20), none⟩, ⟨some 22, .mov (.t 6), none⟩, ⟨some 23, (.call 103 [(.t 21), (.t 22)]), none⟩]))) (.reg false [⟨some 24, (.bin .add (.t 14) (.k (.v (.int .i64 1)))), none⟩, ⟨some 14, .mov (.t 24), none⟩]))))))) (.seq (.regD (.pure ⟨some 25, .mov (.t 0), none⟩ (.pure ⟨some 26, .nilck (.t 25), none⟩ (.pure ⟨some 27, (.fadr (.t 26) 0), none⟩ (.pure ⟨some 28, .ld (.t 27), none⟩ (.pure ⟨some 29, (.fadr (.t 3) 0), none⟩ (.pure ⟨some 30, .ld (.t 29), none⟩ (.pure ⟨some 31, (.bin .add (.t 30) (.k (.v (.int .i64 1)))), none⟩ (.pure ⟨some 32, (.conv .u8 (.t 31)), none⟩ (.pure ⟨some 33, (.fadr (.t 3) 1), none⟩ (.pure ⟨some 34, .ld (.t 33), none⟩ (.pure ⟨some 35, (.bin .add (.t 34) (.k (.v (.int .i64 1)))), none⟩ (.pure ⟨some 36, (.conv .u8 (.t 35)), none⟩ (.pure ⟨some 37, (.fadr (.t 3) 2), none⟩ (.pure ⟨some 38, .ld (.t 37), none⟩ (.pure ⟨some 39, (.conv .u8 (.t 38)), none⟩ (.pure ⟨some 40, (.fadr (.t 3) 3), none⟩ (.pure ⟨some 41, .ld (.t 40), none⟩ (.pure ⟨some 42, (.conv .u8 (.t 41)), none⟩ (.act ⟨some 43, (.rowI .u8 [(.t 32), (.t 36), (.t 39), (.t 42)]), none⟩ [⟨some 28, .ld (.t 27), none⟩] (.pure ⟨some 44, (.b2s (.t 43)), none⟩ (.act ⟨some 45, (.call 13 [(.t 28), (.k (.v (.string ⟨#[98, 111, 111, 116]⟩))), (.t 44)]), none⟩ [] .fin .stop)) .stop)))))))))))))))))))) (.seq (.reg false [⟨some 46, .mov (.t 0), none⟩, ⟨some 47, .nilck (.t 46), none⟩, ⟨some 48, (.fadr (.t 47) 0), none⟩, ⟨some 49, .ld (.t 48), none⟩, ⟨some 50, (.call 15 [(.t 49)]), none⟩, ⟨some 7, .mov (.t 50), none⟩]) (.seq (.seq (.reg false [⟨some 51, .mov (.t 7), none⟩, ⟨some 52, (.bin .neq (.t 51) (.k (.v (.int .i64 0)))), none⟩]) (.cond (.t 52) (.reg false [⟨some 53, .mov (.t 0), none⟩, ⟨some 54, .nilck (.t 53), none⟩, ⟨some 55, (.fadr (.t 54) 0), none⟩, ⟨some 56, .ld (.t 55), none⟩, ⟨some 57, (.call 37 [(.t 56)]), none⟩]) .skip)) (.seq (.reg false [⟨some 58, .mov (.t 7), none⟩, ⟨some 4, .mov (.t 58), none⟩]) .ret)))))) [(.t 4)]
def mBstart : MFn := .mk 20 (.reg false [⟨some 6, .mov (.t 0), none⟩, ⟨some 7, .mov (.t 0), none⟩, ⟨some 8, .mov (.t 0), none⟩, ⟨some 9, .mov (.t 1), none⟩, ⟨some 10, .mov (.t 2), none⟩, ⟨some 11, .nilck (.t 6), none⟩, ⟨some 12, (.fadr (.t 11) 3), none⟩, ⟨some 13, (.fadr (.t 12) 0), none⟩, ⟨.none, (.st (.t 13) (.k (.v (.bool true)))), none⟩, ⟨some 14, .nilck (.t 7), none⟩, ⟨some 15, (.fadr (.t 14) 3), none⟩, ⟨some 16, (.fadr (.t 15) 1), none⟩, ⟨.none, (.st (.t 16) (.t 9)), none⟩, ⟨some 17, .nilck (.t 8), none⟩, ⟨some 18, (.fadr (.t 17) 3), none⟩, ⟨some 19, (.fadr (.t 18) 2), none⟩, ⟨.none, (.st (.t 19) (.t 10)), none⟩]) []
def mCNames : MFn := .mk 10 (.seq (.reg false [⟨some 2, .mov (.k (.sl 0 0 0 1)), none⟩]) (.seq (.seq (.reg false [⟨some 3, .mov (.t 0), none⟩, ⟨some 4, (.binP .eql (.t 3) (.k (.v (.pointer .none)))), none⟩]) (.cond (.t 4) (.seq (.reg false [⟨some 2, .mov (.k (.sl 0 0 0 1)), none⟩]) .ret) .skip)) (.seq (.reg false [⟨some 5, .mov (.t 0), none⟩, ⟨some 6, .nilck (.t 5), none⟩, ⟨some 7, (.fadr (.t 6) 3), none⟩, ⟨some 8, .ld (.t 7), none⟩, ⟨some 9, (.call 86 [(.t 8)]), none⟩, ⟨some 2, .mov (.t 9), none⟩]) .ret))) [(.t 2)]
def mBsound : MFn := .mk 43 (.seq (.reg false [⟨some 2, (.mov (.k (.v (.bool false)))), none⟩]) (.seq (.regD (.pure ⟨some 3, .mov (.t 0), none⟩ (.pure ⟨some 4, (.lenS (.t 3)), none⟩ (.pure ⟨some 5, (.bin .eql (.t 4) (.k (.v (.int .i64 4)))), none⟩ (.pure ⟨some 6, .mov (.t 5), none⟩ (.pure ⟨some 7, (.mov (.t 0)), (.some (6, true))⟩ (.pure ⟨some 8, (.idxS (.t 7) (.k (.v (.int .i64 0)))), (.some (6, true))⟩ (.pure ⟨some 9, (.bin .leq (.t 8) (.k (.v (.int .u8 2)))), (.some (6, true))⟩ (.pure ⟨some 10, (.pick (.t 6) (.t 9) (.k (.v (.bool false)))), none⟩ (.pure ⟨some 11, .mov (.t 10), none⟩ (.pure ⟨some 12, (.mov (.t 0)), (.some (11, true))⟩ (.pure ⟨some 13, (.idxS (.t 12) (.k (.v (.int .i64 1)))), (.some (11, true))⟩ (.pure ⟨some 14, (.bin .leq (.t 13) (.k (.v (.int .u8 2)))), (.some (11, true))⟩ (.pure ⟨some 15, (.pick (.t 11) (.t 14) (.k (.v (.bool false)))), none⟩ (.pure ⟨some 16, .mov (.t 15), none⟩ (.pure ⟨some 17, (.mov (.t 0)), (.some (16, true))⟩ (.pure ⟨some 18, (.idxS (.t 17) (.k (.v (.int .i64 0)))), (.some (16, true))⟩ (.pure ⟨some 19, (.bin .eql (.t 18) (.k (.v (.int .u8 0)))), (.some (16, true))⟩ (.pure ⟨some 20, (.mov (.t 19)), (.some (16, true))⟩ (.pure ⟨some 21, (.mov (.t 0)), (.some (20, false))⟩ (.pure ⟨some 22, (.idxS (.t 21) (.k (.v (.int .i64 0)))), (.some (20, false))⟩ (.pure ⟨some 23, (.mov (.t 0)), (.some (20, false))⟩ (.pure ⟨some 24, (.idxS (.t 23) (.k (.v (.int .i64 1)))), (.some (20, false))⟩ (.pure ⟨some 25, (.bin .neq (.t 22) (.t 24)), (.some (20, false))⟩ (.pure ⟨some 26, (.pick (.t 20) (.k (.v (.bool true))) (.t 25)), (.some (16, true))⟩ (.pure ⟨some 27, (.pick (.t 16) (.t 26) (.k (.v (.bool false)))), none⟩ (.pure ⟨some 28, .mov (.t 27), none⟩ (.pure ⟨some 29, (.mov (.t 0)), (.some (28, true))⟩ (.pure ⟨some 30, (.idxS (.t 29) (.k (.v (.int .i64 2)))), (.some (28, true))⟩ (.pure ⟨some 31, (.bin .leq (.t 30) (.k (.v (.int .u8 8)))), (.some (28, true))⟩ (.pure ⟨some 32, (.pick (.t 28) (.t 31) (.k (.v (.bool false)))), none⟩ (.pure ⟨some 33, .mov (.t 32), none⟩ (.pure ⟨some 34, (.mov (.t 0)), (.some (33, true))⟩ (.pure ⟨some 35, (.idxS (.t 34) (.k (.v (.int .i64 1)))), (.some (33, true))⟩ (.pure ⟨some 36, (.bin .neq (.t 35) (.k (.v (.int .u8 0)))), (.some (33, true))⟩ (.pure ⟨some 37, (.mov (.t 36)), (.some (33, true))⟩ (.pure ⟨some 38, (.mov (.t 0)), (.some (37, false))⟩ (.pure ⟨some 39, (.idxS (.t 38) (.k (.v (.int .i64 2)))), (.some (37, false))⟩ (.pure ⟨some 40, (.bin .eql (.t 39) (.k (.v (.int .u8 0)))), (.some (37, false))⟩ (.pure ⟨some 41, (.pick (.t 37) (.k (.v (.bool true))) (.t 40)), (.some (33, true))⟩ (.pure ⟨some 42, (.pick (.t 33) (.t 41) (.k (.v (.bool false)))), none⟩ (.pure ⟨some 2, .mov (.t 42), none⟩ .fin)))))))))))))))))))))))))))))))))))))))))) .ret)) [(.t 2)]
def mSWrite : MFn := .mk 99 (.seq (.reg false [⟨some 4, (.box (.t 0)), none⟩, ⟨some 8, (.mov (.k (.v (.int .i64 0)))), none⟩]) (.seq (.reg false [⟨some 19, .ld (.t 4), none⟩, ⟨some 20, .mov (.t 1), none⟩, ⟨some 21, (.call 98 [(.t 19), (.t 20)]), none⟩, ⟨some 18, .mov (.t 21), none⟩, ⟨some 22, (.ext (.t 18) 0), none⟩, ⟨some 23, (.ext (.t 18) 1), none⟩, ⟨some 9, .mov (.t 22), none⟩, ⟨some 10, .mov (.t 23), none⟩]) (.seq (.block 0 (.seq (.reg false [⟨some 25, .mov (.t 10), none⟩, ⟨some 26, (.un .not (.t 25)), none⟩, ⟨some 27, .mov (.t 26), none⟩, ⟨some 28, (.mov (.t 2)), (.some (27, false))⟩, ⟨some 29, (.bin .lss (.t 28) (.k (.v (.int .i64 1)))), (.some (27, false))⟩, ⟨some 30, (.pick (.t 27) (.k (.v (.bool true))) (.t 29)), none⟩, ⟨some 31, .mov (.t 30), none⟩, ⟨some 32, (.mov (.t 2)), (.some (31, false))⟩, ⟨some 33, (.bin .gtr (.t 32) (.k (.v (.int .i64 255)))), (.some (31, false))⟩, ⟨some 34, (.pick (.t 31) (.k (.v (.bool true))) (.t 33)), none⟩, ⟨some 35, .mov (.t 34), none⟩, ⟨some 36, (.mov (.t 3)), (.some (35, false))⟩, ⟨some 37, (.bin .eql (.t 36) (.k (.v (.string ⟨#[]⟩)))), (.some (35, false))⟩, ⟨some 38, (.pick (.t 35) (.k (.v (.bool true))) (.t 37)), none⟩, ⟨some 24, .mov (.t 38), none⟩]) (.cond (.t 24) (.seq (.reg false [⟨some 8, (.mov (.k (.v (.int .i64 1)))), none⟩]) .ret) (.seq (.reg false [⟨some 40, .ld (.t 4), none⟩, ⟨some 41, .mov (.t 3), none⟩, ⟨some 42, (.lenS (.t 41)), none⟩, ⟨some 43, (.call 101 [(.t 40), (.t 42)]), none⟩, ⟨some 44, (.un .not (.t 43)), none⟩, ⟨some 39, .mov (.t 44), none⟩]) (.cond (.t 39) (.seq (.reg false [⟨some 8, (.mov (.k (.v (.int .i64 4)))), none⟩]) .ret) .skip))))) (.seq (.reg false [⟨some 11, (.alloc (.sv [(.sl 0 0 0 1), (.v (.bool false))])), none⟩]) (.seq (.reg false [⟨some 45, .mov (.t 2), none⟩, ⟨some 46, (.call 104 [(.t 11), (.t 45)]), none⟩]) (.seq (.reg false [⟨some 47, .mov (.t 3), none⟩, ⟨some 48, (.lenS (.t 47)), none⟩, ⟨some 49, (.call 45 [(.t 11), (.t 48)]), none⟩]) (.seq (.reg false [⟨some 50, .mov (.t 3), none⟩, ⟨some 51, (.rowS [(.t 50)]), none⟩, ⟨some 52, (.call 102 [(.t 51)]), none⟩, ⟨some 53, (.call 105 [(.t 11), (.t 52)]), none⟩]) (.seq (.reg false [⟨some 54, .mov (.t 2), none⟩, ⟨some 55, (.call 104 [(.t 11), (.t 54)]), none⟩]) (.seq (.reg false [⟨some 57, (.call 46 [(.t 11)]), none⟩, ⟨some 56, .mov (.t 57), none⟩, ⟨some 58, (.ext (.t 56) 0), none⟩, ⟨some 59, (.ext (.t 56) 1), none⟩, ⟨some 12, .mov (.t 58), none⟩, ⟨some 13, .mov (.t 59), none⟩]) (.seq (.reg false [⟨some 14, (.alloc (.sv [(.v (.int .i64 0))])), none⟩]) (.seq (.reg false [⟨some 60, (.mkfn 106 [(.t 14), (.t 4)]), none⟩, ⟨some 15, .mov (.t 60), none⟩]) (.seq (.reg false [⟨some 61, (.mkfn 107 [(.t 14), (.t 4)]), none⟩, ⟨some 16, .mov (.t 61), none⟩]) (.seq (.reg false [⟨some 62, .mov (.t 15), none⟩, ⟨some 63, .mov (.t 9), none⟩, ⟨some 64, (.callv (.t 62) [(.t 63), (.k (.v (.string ⟨#[]⟩)))]), none⟩]) (.seq (.reg false [⟨some 65, .mov (.t 16), none⟩, ⟨some 66, (.callv (.t 65) []), none⟩]) (.seq (.seq (.reg false [⟨some 17, (.mov (.k (.v (.int .i64 0)))), none⟩]) (.block 1 (.loop (.seq (.seq (.reg false [⟨some 67, .mov (.t 17), none⟩, ⟨some 68, (.bin .mul (.t 67) (.k (.v (.int .i64 64)))), none⟩, ⟨some 69, .mov (.t 3), none⟩, ⟨some 70, (.lenS (.t 69)), none⟩, ⟨some 71, (.bin .lss (.t 68) (.t 70)), none⟩]) (.cond (.t 71) .skip (.exit 1))) (.seq (.block 2 (.reg false [⟨some 74, .mov (.t 15), none⟩, ⟨some 75, .mov (.t 9), none⟩, ⟨some 76, (.bin .add (.t 75) (.k (.v (.int .i64 1)))), none⟩, ⟨some 77, .mov (.t 17), none⟩, ⟨some 78, (.bin .add (.t 76) (.t 77)), none⟩, ⟨some 79, .mov (.t 3), none⟩, ⟨some 80, .mov (.t 17), none⟩, ⟨some 81, (.bin .mul (.t 80) (.k (.v (.int .i64 64)))), none⟩, ⟨some 82, .mov (.t 17), none⟩, ⟨some 83, (.bin .add (.t 82) (.k (.v (.int .i64 1)))), none⟩, ⟨some 84, (.bin .mul (.t 83) (.k (.v (.int .i64 64)))), none⟩, ⟨some 85, .mov (.t 3), none⟩, ⟨some 86, (.lenS (.t 85)), none⟩, ⟨some 87, (.mm true (.t 84) [(.t 86)]), none⟩, ⟨some 88, (.slS (.t 79) (.some (.t 81)) (.some (.t 87))), none⟩, ⟨some 89, (.callv (.t 74) [(.t 78), (.t 88)]), none⟩])) (.reg false [⟨some 72, .mov (.t 17), none⟩, ⟨some 73, (.bin .add (.t 72) (.k (.v (.int .i64 1)))), none⟩, ⟨some 17, .mov (.t 73), none⟩])))))) (.seq (.reg false [⟨some 90, .mov (.t 16), none⟩, ⟨some 91, (.callv (.t 90) []), none⟩]) (.seq (.reg false [⟨some 92, .mov (.t 15), none⟩, ⟨some 93, .mov (.t 9), none⟩, ⟨some 94, .mov (.t 12), none⟩, ⟨some 95, (.callv (.t 92) [(.t 93), (.t 94)]), none⟩]) (.seq (.reg false [⟨some 96, .mov (.t 16), none⟩, ⟨some 97, (.callv (.t 96) []), none⟩]) (.seq (.reg false [⟨some 98, .ld (.t 14), none⟩, ⟨some 8, .mov (.t 98), none⟩]) .ret))))))))))))))))))) [(.t 8)]
def mCloneF : MFn := .mk 8 (.seq (.reg false [⟨some 2, .mov (.k (.sl 0 0 0 64)), none⟩]) (.seq (.seq (.reg false [⟨some 3, .mov (.t 0), none⟩, ⟨some 4, (.slnil false (.t 3)), none⟩]) (.cond (.t 4) (.seq (.reg false [⟨some 2, .mov (.k (.sl 0 0 0 64)), none⟩]) .ret) .skip)) (.seq (.reg false [⟨some 5, (.rowV 64 (.ints .u8 []) []), none⟩, ⟨some 6, .mov (.t 0), none⟩, ⟨some 7, (.app (.t 5) (.t 6) (.ints .u8 []) 64 64), none⟩, ⟨some 2, .mov (.t 7), none⟩]) .ret))) [(.t 2)]
def mFat : MFn := .mk 23 (.seq (.reg false [⟨some 4, (.mov (.k (.v (.int .i64 0)))), none⟩]) (.seq (.block 0 (.seq (.reg false [⟨some 6, .mov (.t 0), none⟩, ⟨some 7, (.binP .neq (.t 6) (.k (.v (.pointer .none)))), none⟩, ⟨some 8, .mov (.t 7), none⟩, ⟨some 9, (.mov (.t 0)), (.some (8, true))⟩, ⟨some 10, (.nilck (.t 9)), (.some (8, true))⟩, ⟨some 11, (.fadr (.t 10) 5), (.some (8, true))⟩, ⟨some 12, (.ld (.t 11)), (.some (8, true))⟩, ⟨some 13, (.pick (.t 8) (.t 12) (.k (.v (.bool false)))), none⟩, ⟨some 5, .mov (.t 13), none⟩]) (.cond (.t 5) (.seq (.reg false [⟨some 4, (.mov (.k (.v (.int .i64 7)))), none⟩]) .ret) (.seq (.reg false [⟨some 15, .mov (.t 1), none⟩, ⟨some 16, (.bin .lss (.t 15) (.k (.v (.int .i64 0)))), none⟩, ⟨some 17, .mov (.t 16), none⟩, ⟨some 18, (.mov (.t 1)), (.some (17, false))⟩, ⟨some 19, (.mov (.t 0)), (.some (17, false))⟩, ⟨some 20, (.call 34 [(.t 19)]), (.some (17, false))⟩, ⟨some 21, (.bin .geq (.t 18) (.t 20)), (.some (17, false))⟩, ⟨some 22, (.pick (.t 17) (.k (.v (.bool true))) (.t 21)), none⟩, ⟨some 14, .mov (.t 22), none⟩]) (.cond (.t 14) (.seq (.reg false [⟨some 4, (.mov (.k (.v (.int .i64 1)))), none⟩]) .ret) .skip))))) (.seq (.reg false [⟨some 4, (.mov (.k (.v (.int .i64 0)))), none⟩]) .ret))) [(.t 4)]
def mFstep : MFn := .mk 30 (.seq (.reg false [⟨some 2, (.mov (.k (.v (.int .i64 0)))), none⟩]) (.seq (.seq (.reg false [⟨some 3, .mov (.t 0), none⟩, ⟨some 4, .nilck (.t 3), none⟩, ⟨some 5, (.fadr (.t 4) 4), none⟩, ⟨some 6, .ld (.t 5), none⟩, ⟨some 7, (.bin .gtr (.t 6) (.k (.v (.int .i64 0)))), none⟩]) (.cond (.t 7) (.seq (.reg false [⟨some 8, .mov (.t 0), none⟩, ⟨some 9, .nilck (.t 8), none⟩, ⟨some 10, (.fadr (.t 9) 4), none⟩, ⟨some 11, .ld (.t 10), none⟩, ⟨some 12, (.bin .sub (.t 11) (.k (.v (.int .i64 1)))), none⟩, ⟨some 13, .nilck (.t 8), none⟩, ⟨some 14, (.fadr (.t 13) 4), none⟩, ⟨.none, (.st (.t 14) (.t 12)), none⟩]) (.seq (.reg false [⟨some 15, .mov (.t 0), none⟩, ⟨some 16, .nilck (.t 15), none⟩, ⟨some 17, (.fadr (.t 16) 4), none⟩, ⟨some 18, .ld (.t 17), none⟩, ⟨some 19, (.bin .eql (.t 18) (.k (.v (.int .i64 0)))), none⟩]) (.cond (.t 19) (.seq (.reg false [⟨some 20, .mov (.t 0), none⟩, ⟨some 21, .nilck (.t 20), none⟩, ⟨some 22, (.fadr (.t 21) 5), none⟩, ⟨.none, (.st (.t 22) (.k (.v (.bool true)))), none⟩]) (.seq (.reg false [⟨some 2, (.mov (.k (.v (.int .i64 7)))), none⟩]) .ret)) .skip))) .skip)) (.seq (.reg false [⟨some 23, .mov (.t 0), none⟩, ⟨some 24, .nilck (.t 23), none⟩, ⟨some 25, (.fadr (.t 24) 3), none⟩, ⟨some 26, .ld (.t 25), none⟩, ⟨some 27, (.bin .add (.t 26) (.k (.v (.int .i64 1)))), none⟩, ⟨some 28, .nilck (.t 23), none⟩, ⟨some 29, (.fadr (.t 28) 3), none⟩, ⟨.none, (.st (.t 29) (.t 27)), none⟩]) (.seq (.reg false [⟨some 2, (.mov (.k (.v (.int .i64 0)))), none⟩]) .ret)))) [(.t 2)]
def mFRead : MFn := .mk 21 (.seq (.reg false [⟨some 4, (.mov (.k (.v (.string ⟨#[]⟩)))), none⟩, ⟨some 5, (.mov (.k (.v (.int .i64 0)))), none⟩]) (.seq (.seq (.reg false [⟨some 7, .mov (.t 0), none⟩, ⟨some 8, .mov (.t 1), none⟩, ⟨some 9, (.call 70 [(.t 7), (.t 8)]), none⟩, ⟨some 6, .mov (.t 9), none⟩]) (.seq (.reg false [⟨some 10, .mov (.t 6), none⟩, ⟨some 11, (.bin .neq (.t 10) (.k (.v (.int .i64 0)))), none⟩]) (.cond (.t 11) (.seq (.reg false [⟨some 12, .mov (.t 6), none⟩, ⟨some 4, (.mov (.k (.v (.string ⟨#[]⟩)))), none⟩, ⟨some 5, .mov (.t 12), none⟩]) .ret) .skip))) (.seq (.reg false [⟨some 13, .mov (.t 0), none⟩, ⟨some 14, .nilck (.t 13), none⟩, ⟨some 15, (.fadr (.t 14) 0), none⟩, ⟨some 16, .ld (.t 15), none⟩, ⟨some 17, .mov (.t 1), none⟩, ⟨some 18, (.idxA (.t 16) (.t 17) 64), none⟩, ⟨some 19, (.slP (.t 18) .none .none 64 1), none⟩, ⟨some 20, (.b2s (.t 19)), none⟩, ⟨some 4, .mov (.t 20), none⟩, ⟨some 5, (.mov (.k (.v (.int .i64 0)))), none⟩]) .ret))) [(.t 4), (.t 5)]
def mPRead : MFn := .mk 6 (.seq (.reg false [⟨some 2, (.mov (.k (.v (.pointer .none)))), none⟩]) (.seq (.reg false [⟨some 3, .mov (.t 0), none⟩, ⟨some 4, (.bld [(.v (.string ⟨#[]⟩)), (.v (.int .i64 0))] [(0, (1, (.t 3)))]), none⟩, ⟨some 5, (.box (.t 4)), none⟩, ⟨some 2, .mov (.t 5), none⟩]) .ret)) [(.t 2)]
def mREight : MFn := .mk 18 (.seq (.reg false [⟨some 2, (.mov (.k (.v (.int .i64 0)))), none⟩]) (.seq (.seq (.reg false [⟨some 3, .mov (.t 0), none⟩, ⟨some 4, (.call 108 [(.t 3)]), none⟩, ⟨some 5, (.bin .geq (.t 4) (.k (.v (.int .i64 8)))), none⟩, ⟨some 6, .mov (.t 5), none⟩, ⟨some 7, (.mov (.t 0)), (.some (6, true))⟩, ⟨some 8, (.nilck (.t 7)), (.some (6, true))⟩, ⟨some 9, (.fadr (.t 8) 0), (.some (6, true))⟩, ⟨some 10, (.ld (.t 9)), (.some (6, true))⟩, ⟨some 11, (.idxS (.t 10) (.k (.v (.int .i64 0)))), (.some (6, true))⟩, ⟨some 12, (.bin .gtr (.t 11) (.k (.v (.int .u8 127)))), (.some (6, true))⟩, ⟨some 13, (.pick (.t 6) (.t 12) (.k (.v (.bool false)))), none⟩]) (.cond (.t 13) (.reg false [⟨some 14, .mov (.t 0), none⟩, ⟨some 15, (.call 109 [(.t 14), (.k (.v (.int .i64 3)))]), none⟩]) .skip)) (.seq (.reg false [⟨some 16, .mov (.t 0), none⟩, ⟨some 17, (.call 110 [(.t 16), (.k (.v (.int .i64 8)))]), none⟩, ⟨some 2, .mov (.t 17), none⟩]) .ret))) [(.t 2)]
def mRFour : MFn := .mk 5 (.seq (.reg false [⟨some 2, (.mov (.k (.v (.int .i64 0)))), none⟩]) (.seq (.reg false [⟨some 3, .mov (.t 0), none⟩, ⟨some 4, (.call 110 [(.t 3), (.k (.v (.int .i64 4)))]), none⟩, ⟨some 2, .mov (.t 4), none⟩]) .ret)) [(.t 2)]
def mBWriteString : MFn := .mk 19 (.seq (.reg false [⟨some 4, (.mov (.k (.v (.int .i64 0)))), none⟩, ⟨some 5, .mov (.k (.v .nilIface)), none⟩]) (.seq (.reg false [⟨some 6, .mov (.t 0), none⟩, ⟨some 7, (.call 111 [(.t 6)]), none⟩]) (.seq (.reg false [⟨some 8, .mov (.t 0), none⟩, ⟨some 9, .mov (.t 0), none⟩, ⟨some 10, .nilck (.t 9), none⟩, ⟨some 11, (.fadr (.t 10) 1), none⟩, ⟨some 12, .ld (.t 11), none⟩, ⟨some 13, .mov (.t 1), none⟩, ⟨some 14, (.appST (.t 12) (.t 13) (.ints .u8 []) 5), none⟩, ⟨some 15, .nilck (.t 8), none⟩, ⟨some 16, (.fadr (.t 15) 1), none⟩, ⟨.none, (.st (.t 16) (.t 14)), none⟩]) (.seq (.reg false [⟨some 17, .mov (.t 1), none⟩, ⟨some 18, (.lenS (.t 17)), none⟩, ⟨some 4, .mov (.t 18), none⟩, ⟨some 5, .mov (.k (.v .nilIface)), none⟩]) .ret)))) [(.t 4), (.t 5)]
def mcread : MFn := .mk 35 (.seq (.reg false [⟨some 2, (.mov (.k (.v (.map .none)))), none⟩, ⟨some 3, (.mov (.k (.v (.bool false)))), none⟩]) (.seq (.reg false [⟨some 9, .mov (.t 0), none⟩, ⟨some 10, (.call 75 [(.t 9)]), none⟩, ⟨some 4, .mov (.t 10), none⟩]) (.seq (.reg false [⟨some 11, .mkM, none⟩, ⟨some 5, .mov (.t 11), none⟩]) (.seq (.reg false [⟨some 6, (.mov (.k (.v (.string ⟨#[]⟩)))), none⟩]) (.seq (.reg false [⟨some 12, .mov (.t 4), none⟩, ⟨some 13, (.call 112 [(.t 12)]), none⟩, ⟨some 7, .mov (.t 13), none⟩]) (.seq (.seq (.reg false [⟨some 14, .mov (.t 7), none⟩, ⟨some 15, (.bin .gtr (.t 14) (.k (.v (.int .i64 64)))), none⟩]) (.cond (.t 15) (.seq (.reg false [⟨some 2, (.mov (.k (.v (.map .none)))), none⟩, ⟨some 3, (.mov (.k (.v (.bool false)))), none⟩]) .ret) .skip)) (.seq (.seq (.reg false [⟨some 16, .mov (.t 7), none⟩, ⟨some 17, (.mov (.k (.v (.int .i64 0)))), none⟩]) (.block 0 (.loop (.seq (.reg false [⟨some 18, (.bin .lss (.t 17) (.t 16)), none⟩]) (.seq (.cond (.t 18) .skip (.exit 0)) (.seq (.block 1 (.seq (.reg false [⟨some 19, .mov (.t 4), none⟩, ⟨some 20, (.call 113 [(.t 19), (.k (.v (.int .i64 32)))]), none⟩, ⟨some 8, .mov (.t 20), none⟩]) (.seq (.seq (.reg false [⟨some 21, .mov (.t 8), none⟩, ⟨some 22, .mov (.t 6), none⟩, ⟨some 23, (.bin .leq (.t 21) (.t 22)), none⟩]) (.cond (.t 23) (.seq (.reg false [⟨some 2, (.mov (.k (.v (.map .none)))), none⟩, ⟨some 3, (.mov (.k (.v (.bool false)))), none⟩]) .ret) .skip)) (.seq (.reg false [⟨some 24, .mov (.t 5), none⟩, ⟨some 25, .mov (.t 8), none⟩, ⟨some 26, .mov (.t 4), none⟩, ⟨some 27, (.call 113 [(.t 26), (.k (.v (.int .i64 65535)))]), none⟩, ⟨some 28, (.bld [(.v (.string ⟨#[]⟩))] [(0, (1, (.t 27)))]), none⟩, ⟨.none, (.upM (.t 24) (.t 25) (.t 28)), none⟩]) (.reg false [⟨some 29, .mov (.t 8), none⟩, ⟨some 6, .mov (.t 29), none⟩]))))) (.reg false [⟨some 30, (.bin .add (.t 17) (.k (.v (.int .i64 1)))), none⟩, ⟨some 17, .mov (.t 30), none⟩]))))))) (.seq (.reg false [⟨some 31, .mov (.t 5), none⟩, ⟨some 32, .mov (.t 4), none⟩, ⟨some 33, (.call 114 [(.t 32)]), none⟩, ⟨some 34, (.bin .eql (.t 33) (.k (.v (.int .i64 0)))), none⟩, ⟨some 2, .mov (.t 31), none⟩, ⟨some 3, .mov (.t 34), none⟩]) .ret)))))))) [(.t 2), (.t 3)]
def mWTwo : MFn := .mk 7 (.reg false [⟨some 4, .mov (.t 0), none⟩, ⟨some 5, .mov (.t 1), none⟩, ⟨some 6, (.call 88 [(.t 4), (.t 5), (.k (.v (.int .i64 2)))]), none⟩]) []
def mcnames : MFn := .mk 6 (.seq (.reg false [⟨some 2, .mov (.k (.sl 0 0 0 1)), none⟩]) (.seq (.reg false [⟨some 3, .mov (.t 0), none⟩, ⟨some 4, (.call 120 [(.t 3)]), none⟩, ⟨some 5, (.call 119 [(.t 4)]), none⟩, ⟨some 2, .mov (.t 5), none⟩]) .ret)) [(.t 2)]
def mWText : MFn := .mk 19 (.seq (.seq (.reg false [⟨some 4, .mov (.t 0), none⟩, ⟨some 5, (.binP .eql (.t 4) (.k (.v (.pointer .none)))), none⟩]) (.cond (.t 5) .ret .skip)) (.seq (.reg false [⟨some 6, .mov (.t 0), none⟩, ⟨some 7, .mov (.t 1), none⟩, ⟨some 8, (.lenS (.t 7)), none⟩, ⟨some 9, (.call 88 [(.t 6), (.t 8), (.k (.v (.int .i64 2)))]), none⟩]) (.reg false [⟨some 10, .mov (.t 0), none⟩, ⟨some 11, .mov (.t 0), none⟩, ⟨some 12, .nilck (.t 11), none⟩, ⟨some 13, (.fadr (.t 12) 0), none⟩, ⟨some 14, .ld (.t 13), none⟩, ⟨some 15, .mov (.t 1), none⟩, ⟨some 16, (.appS (.t 14) (.t 15) (.ints .u8 [])), none⟩, ⟨some 17, .nilck (.t 10), none⟩, ⟨some 18, (.fadr (.t 17) 0), none⟩, ⟨.none, (.st (.t 18) (.t 16)), none⟩]))) []
def mWNumber : MFn := .mk 44 (.seq (.seq (.reg false [⟨some 6, .mov (.t 0), none⟩, ⟨some 7, (.binP .eql (.t 6) (.k (.v (.pointer .none)))), none⟩]) (.cond (.t 7) .ret .skip)) (.seq (.seq (.reg false [⟨some 8, .mov (.t 1), none⟩, ⟨some 9, (.bin .lss (.t 8) (.k (.v (.int .i64 0)))), none⟩, ⟨some 10, .mov (.t 9), none⟩, ⟨some 11, (.mov (.t 2)), (.some (10, false))⟩, ⟨some 12, (.bin .lss (.t 11) (.k (.v (.int .i64 8)))), (.some (10, false))⟩, ⟨some 13, (.mov (.t 12)), (.some (10, false))⟩, ⟨some 14, (.mov (.t 1)), (.some (13, true))⟩, ⟨some 15, (.mov (.t 2)), (.some (13, true))⟩, ⟨some 16, (.bin .mul (.k (.v (.int .i64 8))) (.t 15)), (.some (13, true))⟩, ⟨some 17, (.bin .shr (.t 14) (.t 16)), (.some (13, true))⟩, ⟨some 18, (.bin .neq (.t 17) (.k (.v (.int .i64 0)))), (.some (13, true))⟩, ⟨some 19, (.pick (.t 13) (.t 18) (.k (.v (.bool false)))), (.some (10, false))⟩, ⟨some 20, (.pick (.t 10) (.k (.v (.bool true))) (.t 19)), none⟩]) (.cond (.t 20) (.seq (.reg false [⟨some 21, .mov (.t 0), none⟩, ⟨some 22, .nilck (.t 21), none⟩, ⟨some 23, (.fadr (.t 22) 1), none⟩, ⟨.none, (.st (.t 23) (.k (.v (.bool true)))), none⟩]) .ret) .skip)) (.seq (.reg false [⟨some 24, .mov (.t 2), none⟩, ⟨some 25, (.bin .sub (.t 24) (.k (.v (.int .i64 1)))), none⟩, ⟨some 2, .mov (.t 25), none⟩]) (.block 0 (.loop (.seq (.seq (.reg false [⟨some 26, .mov (.t 2), none⟩, ⟨some 27, (.bin .geq (.t 26) (.k (.v (.int .i64 0)))), none⟩]) (.cond (.t 27) .skip (.exit 0))) (.seq (.block 1 (.regD (.pure ⟨some 30, .mov (.t 0), none⟩ (.pure ⟨some 31, .mov (.t 0), none⟩ (.pure ⟨some 32, .nilck (.t 31), none⟩ (.pure ⟨some 33, (.fadr (.t 32) 0), none⟩ (.pure ⟨some 34, .ld (.t 33), none⟩ (.pure ⟨some 35, .mov (.t 1), none⟩ (.pure ⟨some 36, .mov (.t 2), none⟩ (.pure ⟨some 37, (.bin .mul (.k (.v (.int .i64 8))) (.t 36)), none⟩ (.pure ⟨some 38, (.bin .shr (.t 35) (.t 37)), none⟩ (.pure ⟨some 39, (.conv .u8 (.t 38)), none⟩ (.act ⟨some 40, (.rowI .u8 [(.t 39)]), none⟩ [⟨some 34, .ld (.t 33), none⟩] (.act ⟨some 41, (.app (.t 34) (.t 40) (.ints .u8 []) 1 1), none⟩ [] (.pure ⟨some 42, .nilck (.t 30), none⟩ (.pure ⟨some 43, (.fadr (.t 42) 0), none⟩ (.act ⟨.none, (.st (.t 43) (.t 41)), none⟩ [] .fin .stop))) .stop) .stop))))))))))))) (.reg false [⟨some 28, .mov (.t 2), none⟩, ⟨some 29, (.bin .sub (.t 28) (.k (.v (.int .i64 1)))), none⟩, ⟨some 2, .mov (.t 29), none⟩])))))))) []
def mFBarrier : MFn := .mk 41 (.seq (.reg false [⟨some 2, (.mov (.k (.v (.int .i64 0)))), none⟩]) (.seq (.block 0 (.seq (.reg false [⟨some 7, .mov (.t 0), none⟩, ⟨some 8, (.binP .eql (.t 7) (.k (.v (.pointer .none)))), none⟩, ⟨some 6, .mov (.t 8), none⟩]) (.cond (.t 6) (.seq (.reg false [⟨some 2, (.mov (.k (.v (.int .i64 1)))), none⟩]) .ret) (.seq (.reg false [⟨some 10, .mov (.t 0), none⟩, ⟨some 11, .nilck (.t 10), none⟩, ⟨some 12, (.fadr (.t 11) 5), none⟩, ⟨some 13, .ld (.t 12), none⟩, ⟨some 9, .mov (.t 13), none⟩]) (.cond (.t 9) (.seq (.reg false [⟨some 2, (.mov (.k (.v (.int .i64 7)))), none⟩]) .ret) .skip))))) (.seq (.seq (.reg false [⟨some 14, .mov (.t 0), none⟩, ⟨some 15, (.call 71 [(.t 14)]), none⟩, ⟨some 3, .mov (.t 15), none⟩]) (.seq (.reg false [⟨some 16, .mov (.t 3), none⟩, ⟨some 17, (.bin .neq (.t 16) (.k (.v (.int .i64 0)))), none⟩]) (.cond (.t 17) (.seq (.reg false [⟨some 18, .mov (.t 3), none⟩, ⟨some 2, .mov (.t 18), none⟩]) .ret) .skip))) (.seq (.seq (.reg false [⟨some 19, .mov (.t 0), none⟩, ⟨some 20, .nilck (.t 19), none⟩, ⟨some 21, (.fadr (.t 20) 2), none⟩, ⟨some 22, .ld (.t 21), none⟩, ⟨some 23, (.lenL (.t 22)), none⟩, ⟨some 24, (.mov (.k (.v (.int .i64 0)))), none⟩]) (.block 1 (.loop (.seq (.reg false [⟨some 25, (.bin .lss (.t 24) (.t 23)), none⟩]) (.seq (.cond (.t 25) .skip (.exit 1)) (.seq (.block 2 (.seq (.reg false [⟨some 26, (.idxA (.t 22) (.t 24) 65), none⟩, ⟨some 27, (.ldn (.t 26) 65), none⟩, ⟨some 5, (.alloc (.pl zw)), none⟩, ⟨.none, (.stn (.t 5) (.t 27) 65), none⟩]) (.regD (.pure ⟨some 28, .mov (.t 0), none⟩ (.pure ⟨some 29, .nilck (.t 28), none⟩ (.pure ⟨some 30, (.fadr (.t 29) 1), none⟩ (.pure ⟨some 31, .ld (.t 30), none⟩ (.pure ⟨some 32, (.fadr (.t 5) 0), none⟩ (.pure ⟨some 33, .ld (.t 32), none⟩ (.pure ⟨some 34, (.fadr (.t 5) 1), none⟩ (.pure ⟨some 35, (.ldn (.t 34) 64), none⟩ (.pure ⟨some 36, (.idxA (.t 31) (.t 33) 64), none⟩ (.act ⟨.none, (.stn (.t 36) (.t 35) 64), none⟩ [] .fin .stop))))))))))))) (.reg false [⟨some 37, (.bin .add (.t 24) (.k (.v (.int .i64 1)))), none⟩, ⟨some 24, .mov (.t 37), none⟩]))))))) (.seq (.reg false [⟨some 38, .mov (.t 0), none⟩, ⟨some 39, .nilck (.t 38), none⟩, ⟨some 40, (.fadr (.t 39) 2), none⟩, ⟨.none, (.st (.t 40) (.k (.sl 0 0 0 65))), none⟩]) (.seq (.reg false [⟨some 2, (.mov (.k (.v (.int .i64 0)))), none⟩]) .ret)))))) [(.t 2)]
def mSAt : MFn := .mk 28 (.seq (.reg false [⟨some 4, (.mov (.k (.v (.int .i64 0)))), none⟩, ⟨some 5, (.mov (.k (.v (.bool false)))), none⟩]) (.seq (.seq (.reg false [⟨some 6, .mov (.t 0), none⟩, ⟨some 7, (.binP .eql (.t 6) (.k (.v (.pointer .none)))), none⟩, ⟨some 8, .mov (.t 7), none⟩, ⟨some 9, (.mov (.t 1)), (.some (8, false))⟩, ⟨some 10, (.bin .lss (.t 9) (.k (.v (.int .i64 0)))), (.some (8, false))⟩, ⟨some 11, (.pick (.t 8) (.k (.v (.bool true))) (.t 10)), none⟩, ⟨some 12, .mov (.t 11), none⟩, ⟨some 13, (.mov (.t 1)), (.some (12, false))⟩, ⟨some 14, (.bin .gtr (.t 13) (.k (.v (.int .i64 1)))), (.some (12, false))⟩, ⟨some 15, (.pick (.t 12) (.k (.v (.bool true))) (.t 14)), none⟩]) (.cond (.t 15) (.seq (.reg false [⟨some 4, (.mov (.k (.v (.int .i64 0)))), none⟩, ⟨some 5, (.mov (.k (.v (.bool false)))), none⟩]) .ret) .skip)) (.seq (.regD (.pure ⟨some 16, .mov (.t 0), none⟩ (.pure ⟨some 17, .nilck (.t 16), none⟩ (.pure ⟨some 18, (.fadr (.t 17) 1), none⟩ (.pure ⟨some 19, .ld (.t 18), none⟩ (.pure ⟨some 20, .mov (.t 1), none⟩ (.pure ⟨some 21, .mov (.t 0), none⟩ (.pure ⟨some 22, .nilck (.t 21), none⟩ (.pure ⟨some 23, (.fadr (.t 22) 2), none⟩ (.pure ⟨some 24, .ld (.t 23), none⟩ (.pure ⟨some 25, (.bin .add (.k (.v (.int .i64 1))) (.t 24)), none⟩ (.pure ⟨some 26, (.bin .mul (.t 20) (.t 25)), none⟩ (.pure ⟨some 27, (.bin .add (.t 19) (.t 26)), none⟩ (.pure ⟨some 4, .mov (.t 27), none⟩ (.pure ⟨some 5, (.mov (.k (.v (.bool true)))), none⟩ .fin))))))))))))))) .ret))) [(.t 4), (.t 5)]
def mRByte : MFn := .mk 5 (.seq (.reg false [⟨some 2, (.mov (.k (.v (.int .i64 0)))), none⟩]) (.seq (.reg false [⟨some 3, .mov (.t 0), none⟩, ⟨some 4, (.call 110 [(.t 3), (.k (.v (.int .i64 1)))]), none⟩, ⟨some 2, .mov (.t 4), none⟩]) .ret)) [(.t 2)]
def mRHash : MFn := .mk 5 (.seq (.reg false [⟨some 2, (.mov (.k (.v (.string ⟨#[]⟩)))), none⟩]) (.seq (.reg false [⟨some 3, .mov (.t 0), none⟩, ⟨some 4, (.call 128 [(.t 3), (.k (.v (.int .i64 32)))]), none⟩, ⟨some 2, .mov (.t 4), none⟩]) .ret)) [(.t 2)]
def mSFits : MFn := .mk 16 (.seq (.reg false [⟨some 4, (.mov (.k (.v (.bool false)))), none⟩]) (.seq (.reg false [⟨some 5, .mov (.t 1), none⟩, ⟨some 6, (.bin .leq (.t 5) (.k (.v (.int .i64 8192)))), none⟩, ⟨some 7, .mov (.t 6), none⟩, ⟨some 8, (.mov (.t 1)), (.some (7, true))⟩, ⟨some 9, (.mov (.t 0)), (.some (7, true))⟩, ⟨some 10, (.nilck (.t 9)), (.some (7, true))⟩, ⟨some 11, (.fadr (.t 10) 2), (.some (7, true))⟩, ⟨some 12, (.ld (.t 11)), (.some (7, true))⟩, ⟨some 13, (.bin .mul (.t 12) (.k (.v (.int .i64 64)))), (.some (7, true))⟩, ⟨some 14, (.bin .leq (.t 8) (.t 13)), (.some (7, true))⟩, ⟨some 15, (.pick (.t 7) (.t 14) (.k (.v (.bool false)))), none⟩, ⟨some 4, .mov (.t 15), none⟩]) .ret)) [(.t 4)]
def mCDrop : MFn := .mk 20 (.seq (.reg false [⟨some 4, (.mov (.k (.v (.bool false)))), none⟩]) (.seq (.reg false [⟨some 8, .mov (.t 0), none⟩, ⟨some 9, .mov (.t 1), none⟩, ⟨some 10, (.call 39 [(.t 8), (.t 9)]), none⟩, ⟨some 7, .mov (.t 10), none⟩, ⟨some 11, (.ext (.t 7) 0), none⟩, ⟨some 12, (.ext (.t 7) 1), none⟩, ⟨some 5, .mov (.t 11), none⟩, ⟨some 6, .mov (.t 12), none⟩]) (.seq (.seq (.reg false [⟨some 13, .mov (.t 6), none⟩]) (.cond (.t 13) (.reg false [⟨some 14, .mov (.t 0), none⟩, ⟨some 15, .nilck (.t 14), none⟩, ⟨some 16, (.fadr (.t 15) 3), none⟩, ⟨some 17, .ld (.t 16), none⟩, ⟨some 18, .mov (.t 1), none⟩, ⟨.none, (.delM (.t 17) (.t 18)), none⟩]) .skip)) (.seq (.reg false [⟨some 19, .mov (.t 6), none⟩, ⟨some 4, .mov (.t 19), none⟩]) .ret)))) [(.t 4)]
def mWByte : MFn := .mk 7 (.reg false [⟨some 4, .mov (.t 0), none⟩, ⟨some 5, .mov (.t 1), none⟩, ⟨some 6, (.call 88 [(.t 4), (.t 5), (.k (.v (.int .i64 1)))]), none⟩]) []
def mWHash : MFn := .mk 27 (.seq (.seq (.reg false [⟨some 4, .mov (.t 0), none⟩, ⟨some 5, (.binP .eql (.t 4) (.k (.v (.pointer .none)))), none⟩]) (.cond (.t 5) .ret .skip)) (.seq (.reg false [⟨some 6, .mov (.t 0), none⟩, ⟨some 7, .mov (.t 0), none⟩, ⟨some 8, .nilck (.t 7), none⟩, ⟨some 9, (.fadr (.t 8) 1), none⟩, ⟨some 10, .ld (.t 9), none⟩, ⟨some 11, .mov (.t 10), none⟩, ⟨some 12, (.mov (.t 1)), (.some (11, false))⟩, ⟨some 13, (.lenS (.t 12)), (.some (11, false))⟩, ⟨some 14, (.bin .neq (.t 13) (.k (.v (.int .i64 32)))), (.some (11, false))⟩, ⟨some 15, (.pick (.t 11) (.k (.v (.bool true))) (.t 14)), none⟩, ⟨some 16, .nilck (.t 6), none⟩, ⟨some 17, (.fadr (.t 16) 1), none⟩, ⟨.none, (.st (.t 17) (.t 15)), none⟩]) (.reg false [⟨some 18, .mov (.t 0), none⟩, ⟨some 19, .mov (.t 0), none⟩, ⟨some 20, .nilck (.t 19), none⟩, ⟨some 21, (.fadr (.t 20) 0), none⟩, ⟨some 22, .ld (.t 21), none⟩, ⟨some 23, .mov (.t 1), none⟩, ⟨some 24, (.appS (.t 22) (.t 23) (.ints .u8 [])), none⟩, ⟨some 25, .nilck (.t 18), none⟩, ⟨some 26, (.fadr (.t 25) 0), none⟩, ⟨.none, (.st (.t 26) (.t 24)), none⟩]))) []
def mSWrite1 : MFn := .mk 15 (.seq (.reg false [⟨some 6, .ld (.t 2), none⟩, ⟨some 7, (.bin .eql (.t 6) (.k (.v (.int .i64 0)))), none⟩]) (.cond (.t 7) (.reg false [⟨some 8, .ld (.t 3), none⟩, ⟨some 9, .nilck (.t 8), none⟩, ⟨some 10, (.fadr (.t 9) 0), none⟩, ⟨some 11, .ld (.t 10), none⟩, ⟨some 12, .mov (.t 0), none⟩, ⟨some 13, .mov (.t 1), none⟩, ⟨some 14, (.call 32 [(.t 11), (.t 12), (.t 13)]), none⟩, ⟨.none, (.st (.t 2) (.t 14)), none⟩]) .skip)) []
def mSWrite2 : MFn := .mk 9 (.seq (.reg false [⟨some 2, .ld (.t 0), none⟩, ⟨some 3, (.bin .eql (.t 2) (.k (.v (.int .i64 0)))), none⟩]) (.cond (.t 3) (.reg false [⟨some 4, .ld (.t 1), none⟩, ⟨some 5, .nilck (.t 4), none⟩, ⟨some 6, (.fadr (.t 5) 0), none⟩, ⟨some 7, .ld (.t 6), none⟩, ⟨some 8, (.call 89 [(.t 7)]), none⟩, ⟨.none, (.st (.t 0) (.t 8)), none⟩]) .skip)) []
def mRLeft : MFn := .mk 10 (.seq (.reg false [⟨some 2, (.mov (.k (.v (.int .i64 0)))), none⟩]) (.seq (.seq (.reg false [⟨some 3, .mov (.t 0), none⟩, ⟨some 4, (.binP .eql (.t 3) (.k (.v (.pointer .none)))), none⟩]) (.cond (.t 4) (.seq (.reg false [⟨some 2, (.mov (.k (.v (.int .i64 0)))), none⟩]) .ret) .skip)) (.seq (.reg false [⟨some 5, .mov (.t 0), none⟩, ⟨some 6, .nilck (.t 5), none⟩, ⟨some 7, (.fadr (.t 6) 0), none⟩, ⟨some 8, .ld (.t 7), none⟩, ⟨some 9, (.lenS (.t 8)), none⟩, ⟨some 2, .mov (.t 9), none⟩]) .ret))) [(.t 2)]
def mRFail : MFn := .mk 11 (.seq (.reg false [⟨some 4, .mov (.t 0), none⟩, ⟨some 5, (.call 130 [(.t 4)]), none⟩, ⟨some 6, (.bin .eql (.t 5) (.k (.v (.int .i64 0)))), none⟩]) (.cond (.t 6) (.reg false [⟨some 7, .mov (.t 0), none⟩, ⟨some 8, .mov (.t 1), none⟩, ⟨some 9, .nilck (.t 7), none⟩, ⟨some 10, (.fadr (.t 9) 1), none⟩, ⟨.none, (.st (.t 10) (.t 8)), none⟩]) .skip)) []
def mRNumber : MFn := .mk 24 (.seq (.reg false [⟨some 4, (.mov (.k (.v (.int .i64 0)))), none⟩]) (.seq (.reg false [⟨some 5, (.mov (.k (.v (.int .i64 0)))), none⟩]) (.seq (.seq (.reg false [⟨some 8, .mov (.t 0), none⟩, ⟨some 9, .mov (.t 1), none⟩, ⟨some 10, (.call 128 [(.t 8), (.t 9)]), none⟩, ⟨some 11, (.s2b (.t 10)), none⟩, ⟨some 12, (.lenL (.t 11)), none⟩, ⟨some 13, (.mov (.k (.v (.int .i64 0)))), none⟩]) (.block 0 (.loop (.seq (.reg false [⟨some 14, (.bin .lss (.t 13) (.t 12)), none⟩]) (.seq (.cond (.t 14) .skip (.exit 0)) (.seq (.block 1 (.seq (.reg false [⟨some 15, (.idxA (.t 11) (.t 13) 1), none⟩, ⟨some 16, .ld (.t 15), none⟩, ⟨some 7, .mov (.t 16), none⟩]) (.reg false [⟨some 17, .mov (.t 5), none⟩, ⟨some 18, (.bin .shl (.t 17) (.k (.v (.int .u64 8)))), none⟩, ⟨some 19, .mov (.t 7), none⟩, ⟨some 20, (.conv .i64 (.t 19)), none⟩, ⟨some 21, (.bin .or (.t 18) (.t 20)), none⟩, ⟨some 5, .mov (.t 21), none⟩]))) (.reg false [⟨some 22, (.bin .add (.t 13) (.k (.v (.int .i64 1)))), none⟩, ⟨some 13, .mov (.t 22), none⟩]))))))) (.seq (.reg false [⟨some 23, .mov (.t 5), none⟩, ⟨some 4, .mov (.t 23), none⟩]) .ret)))) [(.t 4)]
def mRTwo : MFn := .mk 5 (.seq (.reg false [⟨some 2, (.mov (.k (.v (.int .i64 0)))), none⟩]) (.seq (.reg false [⟨some 3, .mov (.t 0), none⟩, ⟨some 4, (.call 110 [(.t 3), (.k (.v (.int .i64 2)))]), none⟩, ⟨some 2, .mov (.t 4), none⟩]) .ret)) [(.t 2)]
def mRText : MFn := .mk 36 (.seq (.reg false [⟨some 4, (.mov (.k (.v (.string ⟨#[]⟩)))), none⟩]) (.seq (.seq (.reg false [⟨some 8, .mov (.t 0), none⟩, ⟨some 9, (.call 130 [(.t 8)]), none⟩, ⟨some 10, (.bin .neq (.t 9) (.k (.v (.int .i64 0)))), none⟩]) (.cond (.t 10) (.seq (.reg false [⟨some 4, (.mov (.k (.v (.string ⟨#[]⟩)))), none⟩]) .ret) .skip)) (.seq (.reg false [⟨some 11, .mov (.t 0), none⟩, ⟨some 12, .nilck (.t 11), none⟩, ⟨some 13, (.fadr (.t 12) 0), none⟩, ⟨some 14, .ld (.t 13), none⟩, ⟨some 5, .mov (.t 14), none⟩]) (.seq (.reg false [⟨some 15, .mov (.t 0), none⟩, ⟨some 16, (.call 112 [(.t 15)]), none⟩, ⟨some 6, .mov (.t 16), none⟩]) (.seq (.seq (.reg false [⟨some 17, .mov (.t 6), none⟩, ⟨some 18, .mov (.t 1), none⟩, ⟨some 19, (.mm false (.t 18) [(.k (.v (.int .i64 0)))]), none⟩, ⟨some 20, (.bin .gtr (.t 17) (.t 19)), none⟩]) (.cond (.t 20) (.reg false [⟨some 21, .mov (.t 0), none⟩, ⟨some 22, (.call 109 [(.t 21), (.k (.v (.int .i64 4)))]), none⟩]) .skip)) (.seq (.reg false [⟨some 23, .mov (.t 0), none⟩, ⟨some 24, .mov (.t 6), none⟩, ⟨some 25, (.call 128 [(.t 23), (.t 24)]), none⟩, ⟨some 7, .mov (.t 25), none⟩]) (.seq (.seq (.reg false [⟨some 26, .mov (.t 0), none⟩, ⟨some 27, .nilck (.t 26), none⟩, ⟨some 28, (.fadr (.t 27) 1), none⟩, ⟨some 29, .ld (.t 28), none⟩, ⟨some 30, (.bin .neq (.t 29) (.k (.v (.int .i64 0)))), none⟩]) (.cond (.t 30) (.reg false [⟨some 31, .mov (.t 0), none⟩, ⟨some 32, .mov (.t 5), none⟩, ⟨some 33, .nilck (.t 31), none⟩, ⟨some 34, (.fadr (.t 33) 0), none⟩, ⟨.none, (.st (.t 34) (.t 32)), none⟩]) .skip)) (.seq (.reg false [⟨some 35, .mov (.t 7), none⟩, ⟨some 4, .mov (.t 35), none⟩]) .ret)))))))) [(.t 4)]
def mREnd : MFn := .mk 10 (.seq (.reg false [⟨some 2, (.mov (.k (.v (.int .i64 0)))), none⟩]) (.seq (.seq (.reg false [⟨some 3, .mov (.t 0), none⟩, ⟨some 4, (.call 108 [(.t 3)]), none⟩, ⟨some 5, (.bin .gtr (.t 4) (.k (.v (.int .i64 0)))), none⟩]) (.cond (.t 5) (.reg false [⟨some 6, .mov (.t 0), none⟩, ⟨some 7, (.call 109 [(.t 6), (.k (.v (.int .i64 3)))]), none⟩]) .skip)) (.seq (.reg false [⟨some 8, .mov (.t 0), none⟩, ⟨some 9, (.call 130 [(.t 8)]), none⟩, ⟨some 2, .mov (.t 9), none⟩]) .ret))) [(.t 2)]
def mRRaw : MFn := .mk 43 (.seq (.reg false [⟨some 4, (.mov (.k (.v (.string ⟨#[]⟩)))), none⟩]) (.seq (.block 0 (.seq (.reg false [⟨some 7, .mov (.t 0), none⟩, ⟨some 8, (.call 130 [(.t 7)]), none⟩, ⟨some 9, (.bin .neq (.t 8) (.k (.v (.int .i64 0)))), none⟩, ⟨some 6, .mov (.t 9), none⟩]) (.cond (.t 6) (.seq (.reg false [⟨some 4, (.mov (.k (.v (.string ⟨#[]⟩)))), none⟩]) .ret) (.seq (.reg false [⟨some 11, .mov (.t 1), none⟩, ⟨some 12, (.bin .lss (.t 11) (.k (.v (.int .i64 0)))), none⟩, ⟨some 10, .mov (.t 12), none⟩]) (.cond (.t 10) (.seq (.reg false [⟨some 13, .mov (.t 0), none⟩, ⟨some 14, .nilck (.t 13), none⟩, ⟨some 15, (.fadr (.t 14) 1), none⟩, ⟨.none, (.st (.t 15) (.k (.v (.int .i64 1)))), none⟩]) (.seq (.reg false [⟨some 4, (.mov (.k (.v (.string ⟨#[]⟩)))), none⟩]) .ret)) (.seq (.reg false [⟨some 17, .mov (.t 1), none⟩, ⟨some 18, .mov (.t 0), none⟩, ⟨some 19, .nilck (.t 18), none⟩, ⟨some 20, (.fadr (.t 19) 0), none⟩, ⟨some 21, .ld (.t 20), none⟩, ⟨some 22, (.lenS (.t 21)), none⟩, ⟨some 23, (.bin .gtr (.t 17) (.t 22)), none⟩, ⟨some 16, .mov (.t 23), none⟩]) (.cond (.t 16) (.seq (.reg false [⟨some 24, .mov (.t 0), none⟩, ⟨some 25, .nilck (.t 24), none⟩, ⟨some 26, (.fadr (.t 25) 1), none⟩, ⟨.none, (.st (.t 26) (.k (.v (.int .i64 2)))), none⟩]) (.seq (.reg false [⟨some 4, (.mov (.k (.v (.string ⟨#[]⟩)))), none⟩]) .ret)) .skip))))))) (.seq (.reg false [⟨some 27, .mov (.t 0), none⟩, ⟨some 28, .nilck (.t 27), none⟩, ⟨some 29, (.fadr (.t 28) 0), none⟩, ⟨some 30, .ld (.t 29), none⟩, ⟨some 31, .mov (.t 1), none⟩, ⟨some 32, (.slS (.t 30) .none (.some (.t 31))), none⟩, ⟨some 5, .mov (.t 32), none⟩]) (.seq (.reg false [⟨some 33, .mov (.t 0), none⟩, ⟨some 34, .mov (.t 0), none⟩, ⟨some 35, .nilck (.t 34), none⟩, ⟨some 36, (.fadr (.t 35) 0), none⟩, ⟨some 37, .ld (.t 36), none⟩, ⟨some 38, .mov (.t 1), none⟩, ⟨some 39, (.slS (.t 37) (.some (.t 38)) .none), none⟩, ⟨some 40, .nilck (.t 33), none⟩, ⟨some 41, (.fadr (.t 40) 0), none⟩, ⟨.none, (.st (.t 41) (.t 39)), none⟩]) (.seq (.reg false [⟨some 42, .mov (.t 5), none⟩, ⟨some 4, .mov (.t 42), none⟩]) .ret))))) [(.t 4)]
def mRErr : MFn := .mk 9 (.seq (.reg false [⟨some 2, (.mov (.k (.v (.int .i64 0)))), none⟩]) (.seq (.seq (.reg false [⟨some 3, .mov (.t 0), none⟩, ⟨some 4, (.binP .eql (.t 3) (.k (.v (.pointer .none)))), none⟩]) (.cond (.t 4) (.seq (.reg false [⟨some 2, (.mov (.k (.v (.int .i64 1)))), none⟩]) .ret) .skip)) (.seq (.reg false [⟨some 5, .mov (.t 0), none⟩, ⟨some 6, .nilck (.t 5), none⟩, ⟨some 7, (.fadr (.t 6) 1), none⟩, ⟨some 8, .ld (.t 7), none⟩, ⟨some 2, .mov (.t 8), none⟩]) .ret))) [(.t 2)]
theorem tBootTries : trFn Go.Proofs.Tryz.prog 6 = some mBootTries := by kernel_rfl
theorem tboots : trFn Go.Proofs.Tryz.prog 8 = some mboots := by kernel_rfl
abbrev nboots : Nat := 8
theorem tFNew : trFn Go.Proofs.Tryz.prog 9 = some mFNew := by kernel_rfl
abbrev nFNew : Nat := 9
theorem tCOpen : trFn Go.Proofs.Tryz.prog 11 = some mCOpen := by kernel_rfl
abbrev nCOpen : Nat := 11
theorem tCPut : trFn Go.Proofs.Tryz.prog 13 = some mCPut := by kernel_rfl
abbrev nCPut : Nat := 13
theorem tCCommit : trFn Go.Proofs.Tryz.prog 15 = some mCCommit := by kernel_rfl
abbrev nCCommit : Nat := 15
theorem tBOpen : trFn Go.Proofs.Tryz.prog 17 = some mBOpen := by kernel_rfl
abbrev nBOpen : Nat := 17
theorem tBBoot : trFn Go.Proofs.Tryz.prog 21 = some mBBoot := by kernel_rfl
abbrev nBBoot : Nat := 21
theorem tBRunning : trFn Go.Proofs.Tryz.prog 22 = some mBRunning := by kernel_rfl
theorem tBState : trFn Go.Proofs.Tryz.prog 23 = some mBState := by kernel_rfl
abbrev nBState : Nat := 23
theorem tBProvision : trFn Go.Proofs.Tryz.prog 24 = some mBProvision := by kernel_rfl
abbrev nBProvision : Nat := 24
theorem tBInstall : trFn Go.Proofs.Tryz.prog 25 = some mBInstall := by kernel_rfl
abbrev nBInstall : Nat := 25
theorem tBConfirm : trFn Go.Proofs.Tryz.prog 26 = some mBConfirm := by kernel_rfl
abbrev nBConfirm : Nat := 26
theorem tFCrash : trFn Go.Proofs.Tryz.prog 28 = some mFCrash := by kernel_rfl
abbrev nFCrash : Nat := 28
theorem tFWrite : trFn Go.Proofs.Tryz.prog 32 = some mFWrite := by kernel_rfl
abbrev nFWrite : Nat := 32
theorem tFSectors : trFn Go.Proofs.Tryz.prog 34 = some mFSectors := by kernel_rfl
abbrev nFSectors : Nat := 34
theorem tFOff : trFn Go.Proofs.Tryz.prog 35 = some mFOff := by kernel_rfl
abbrev nFOff : Nat := 35
theorem tCcopied : trFn Go.Proofs.Tryz.prog 36 = some mCcopied := by kernel_rfl
abbrev nCcopied : Nat := 36
theorem tCUndo : trFn Go.Proofs.Tryz.prog 37 = some mCUndo := by kernel_rfl
abbrev nCUndo : Nat := 37
theorem tCGet : trFn Go.Proofs.Tryz.prog 39 = some mCGet := by kernel_rfl
abbrev nCGet : Nat := 39
theorem tcbytes : trFn Go.Proofs.Tryz.prog 42 = some mcbytes := by kernel_rfl
abbrev ncbytes : Nat := 42
theorem tCroom : trFn Go.Proofs.Tryz.prog 43 = some mCroom := by kernel_rfl
theorem tWEight : trFn Go.Proofs.Tryz.prog 44 = some mWEight := by kernel_rfl
theorem tWFour : trFn Go.Proofs.Tryz.prog 45 = some mWFour := by kernel_rfl
abbrev nWFour : Nat := 45
theorem tWBytes : trFn Go.Proofs.Tryz.prog 46 = some mWBytes := by kernel_rfl
abbrev nWBytes : Nat := 46
theorem tCwrite : trFn Go.Proofs.Tryz.prog 47 = some mCwrite := by kernel_rfl
abbrev nCwrite : Nat := 47
theorem tCfirst : trFn Go.Proofs.Tryz.prog 48 = some mCfirst := by kernel_rfl
theorem tSOpen : trFn Go.Proofs.Tryz.prog 53 = some mSOpen := by kernel_rfl
abbrev nSOpen : Nat := 53
theorem tBstop : trFn Go.Proofs.Tryz.prog 60 = some mBstop := by kernel_rfl
theorem tSRead : trFn Go.Proofs.Tryz.prog 61 = some mSRead := by kernel_rfl
abbrev nSRead : Nat := 61
theorem tBsettled : trFn Go.Proofs.Tryz.prog 62 = some mBsettled := by kernel_rfl
abbrev nBsettled : Nat := 62
theorem tBkeep : trFn Go.Proofs.Tryz.prog 63 = some mBkeep := by kernel_rfl
abbrev nBkeep : Nat := 63
theorem tBstart : trFn Go.Proofs.Tryz.prog 64 = some mBstart := by kernel_rfl
theorem tCNames : trFn Go.Proofs.Tryz.prog 65 = some mCNames := by kernel_rfl
abbrev nCNames : Nat := 65
theorem tBsound : trFn Go.Proofs.Tryz.prog 66 = some mBsound := by kernel_rfl
abbrev nBsound : Nat := 66
theorem tSWrite : trFn Go.Proofs.Tryz.prog 67 = some mSWrite := by kernel_rfl
abbrev nSWrite : Nat := 67
theorem tCloneF : trFn Go.Proofs.Tryz.prog 68 = some mCloneF := by kernel_rfl
theorem tFat : trFn Go.Proofs.Tryz.prog 70 = some mFat := by kernel_rfl
theorem tFstep : trFn Go.Proofs.Tryz.prog 71 = some mFstep := by kernel_rfl
theorem tFRead : trFn Go.Proofs.Tryz.prog 74 = some mFRead := by kernel_rfl
abbrev nFRead : Nat := 74
theorem tPRead : trFn Go.Proofs.Tryz.prog 75 = some mPRead := by kernel_rfl
abbrev nPRead : Nat := 75
theorem tREight : trFn Go.Proofs.Tryz.prog 76 = some mREight := by kernel_rfl
abbrev nREight : Nat := 76
theorem tRFour : trFn Go.Proofs.Tryz.prog 77 = some mRFour := by kernel_rfl
abbrev nRFour : Nat := 77
theorem tBWriteString : trFn Go.Proofs.Tryz.prog 78 = some mBWriteString := by kernel_rfl
theorem tcread : trFn Go.Proofs.Tryz.prog 79 = some mcread := by kernel_rfl
abbrev ncread : Nat := 79
theorem tWTwo : trFn Go.Proofs.Tryz.prog 85 = some mWTwo := by kernel_rfl
theorem tcnames : trFn Go.Proofs.Tryz.prog 86 = some mcnames := by kernel_rfl
abbrev ncnames : Nat := 86
theorem tWText : trFn Go.Proofs.Tryz.prog 87 = some mWText := by kernel_rfl
abbrev nWText : Nat := 87
theorem tWNumber : trFn Go.Proofs.Tryz.prog 88 = some mWNumber := by kernel_rfl
abbrev nWNumber : Nat := 88
theorem tFBarrier : trFn Go.Proofs.Tryz.prog 89 = some mFBarrier := by kernel_rfl
abbrev nFBarrier : Nat := 89
theorem tSAt : trFn Go.Proofs.Tryz.prog 98 = some mSAt := by kernel_rfl
abbrev nSAt : Nat := 98
theorem tRByte : trFn Go.Proofs.Tryz.prog 99 = some mRByte := by kernel_rfl
theorem tRHash : trFn Go.Proofs.Tryz.prog 100 = some mRHash := by kernel_rfl
abbrev nRHash : Nat := 100
theorem tSFits : trFn Go.Proofs.Tryz.prog 101 = some mSFits := by kernel_rfl
abbrev nSFits : Nat := 101
theorem tCDrop : trFn Go.Proofs.Tryz.prog 103 = some mCDrop := by kernel_rfl
abbrev nCDrop : Nat := 103
theorem tWByte : trFn Go.Proofs.Tryz.prog 104 = some mWByte := by kernel_rfl
theorem tWHash : trFn Go.Proofs.Tryz.prog 105 = some mWHash := by kernel_rfl
abbrev nWHash : Nat := 105
theorem tSWrite1 : trFn Go.Proofs.Tryz.prog 106 = some mSWrite1 := by kernel_rfl
abbrev nSWrite1 : Nat := 106
theorem tSWrite2 : trFn Go.Proofs.Tryz.prog 107 = some mSWrite2 := by kernel_rfl
abbrev nSWrite2 : Nat := 107
theorem tRLeft : trFn Go.Proofs.Tryz.prog 108 = some mRLeft := by kernel_rfl
abbrev nRLeft : Nat := 108
theorem tRFail : trFn Go.Proofs.Tryz.prog 109 = some mRFail := by kernel_rfl
abbrev nRFail : Nat := 109
theorem tRNumber : trFn Go.Proofs.Tryz.prog 110 = some mRNumber := by kernel_rfl
abbrev nRNumber : Nat := 110
theorem tRTwo : trFn Go.Proofs.Tryz.prog 112 = some mRTwo := by kernel_rfl
abbrev nRTwo : Nat := 112
theorem tRText : trFn Go.Proofs.Tryz.prog 113 = some mRText := by kernel_rfl
abbrev nRText : Nat := 113
theorem tREnd : trFn Go.Proofs.Tryz.prog 114 = some mREnd := by kernel_rfl
abbrev nREnd : Nat := 114
theorem tRRaw : trFn Go.Proofs.Tryz.prog 128 = some mRRaw := by kernel_rfl
abbrev nRRaw : Nat := 128
theorem tRErr : trFn Go.Proofs.Tryz.prog 130 = some mRErr := by kernel_rfl
abbrev nRErr : Nat := 130
end Go.Sx

/- maps.Clone, maps.Keys, slices.Sorted at a map's keys, by the shelf, in the symbolic heap. -/
set_option linter.unusedVariables false
set_option linter.unusedSimpArgs false
namespace Go.Sx
open Go.Shelf Go.RowKit Go.Proofs Go.Maps Go.MapKept Go.WideElems
variable {P : Program} {σ : Go.Shelf.Ren} {H : Hp} {n : Nat}
theorem clone_S (L : SlLaysW.n5 P σ) {i : Nat} {es : List (Value × Value)} {s : SO} (hg : H.get i = some s) (hb : s.b = .mp (.map es)) (hn : n < 1000) :
    SpecAt P (σ.f 5) [.mp i] H n (.mp n) (H.put n ⟨true, .mp (.map es)⟩) (n + 1) := by
  intro F w0 w ρ xs hH hz hl
  match xs, hz with
  | [x], ⟨⟨b, hbl, hx⟩, _⟩ =>
    subst hx
    obtain ⟨b', ents, clk, e1, e2, e3, e4⟩ := map_obj hH hg hb
    rw [hbl] at e1; cases e1
    refine (AnyW.maps_Clone L b ents clk w e2).mono ?_
    rintro e w' ⟨rfl, rfl⟩
    have hnew := hH.alloc hn (.map ents clk) ⟨true, .mp (.map es)⟩ ⟨some w.heap.size, 0, 0, false, none⟩ rfl rfl ⟨_, ents, clk, rfl, heap_alloc_new w _, e3, e4⟩
    exact ⟨_, _, rfl, ⟨w.heap.size, by rw [upd_same], rfl⟩, by show idOK (n + 1) n = true; unfold idOK; simp, hnew, Ext.upd hn, Nat.le_succ _⟩
theorem keys_S (L : SlLaysZ.n7 P σ) {i : Nat} {s : SO} (hg : H.get i = some s) (hn : n + 1 < 1000) :
    SpecAt P (σ.f 7) [.mp i] H n (.fn (σ.f 10) [.ptr n 0]) ((H.put n ⟨true, .sv [.mp i]⟩).put (n + 1) ⟨false, .mp (.shp n (σ.t 23) (some 1))⟩) (n + 2) := by
  intro F w0 w ρ xs hH hz hl
  match xs, hz with
  | [x], ⟨hxr, _⟩ =>
    have hxr : arel ρ (.mp i) x := hxr
    obtain ⟨b, hbl, hx⟩ := hxr
    subst hx
    refine ((callsIn_wide (n := 6)).1 (AnyZ.keys_in L Fence.wide 6 trivial rfl (some b) w)).mono ?_
    rintro e w' ⟨rfl, rfl⟩
    have hid := (hH.lt i s hg).1
    obtain ⟨ρ', h1, h2, h3, h4⟩ := hH.newValsT hn (σ.t 23) [.map (some b)] (.sv [.mp i]) (by simp) (by simp [Body.lt, ltC, ltB, ltA, hid]) ⟨⟨b, hbl, rfl⟩, trivial⟩
    refine ⟨_, ρ', rfl, ?_, ?_, h1, h2, by omega⟩
    · exact ⟨[.pointer (some ⟨w.heap.size, 0, none⟩)], rfl, ⟨w.heap.size, h3, by rw [h4]⟩, trivial⟩
    · simp [ltT, ltC, ltB, ltA, idOK]
def keyB (e : Value × Value) : List UInt8 := match e.1 with
  | .string s => s.data.toList
  | _ => []
def srtK (es : List (Value × Value)) : List ByteArray := ((es.map keyB).mergeSort fun x y => decide (x ≤ y)).map fun l => ⟨⟨l⟩⟩
theorem HRel.addNew {F : Nat → Prop} {w0 w w' : World} {ρ : Nat → Loc} (h : HRel F w0 ρ n H w) (hb : Below w.heap.size w w') (hn : n < 1000) (s : SO) (l : Loc)
    (hbl : ∀ b, l.blk = some b → w.heap.size ≤ b ∧ b < w'.heap.size) (hlt : s.b.lt n = true) (hok : ObjOK ρ w' l s) (hsh : l.sh = none) : HRel F w0 (upd ρ n l) (n + 1) (H.put n s) w' := by
  have h' := h.below hb
  have hx : Ext n ρ (upd ρ n l) := Ext.upd hn
  have hr : ∀ i, i ≠ n → upd ρ n l i = ρ i := fun i hi => by simp [upd, hi]
  refine ⟨h'.os, h'.tape, h'.output, h'.size, h'.keep, h'.old, ?_, by omega, ?_, ?_, ?_, ?_, ?_, h'.xput hn, h'.shp.upd fun T c b e1 _ => (by rw [hsh] at e1; cases e1), h'.shk, h'.gl.upd hn⟩
  · rw [hr 0 (by have := h.pos; omega)]; exact h.nil
  · intro i s' hi
    rw [Hp.get_put] at hi
    split at hi
    · rename_i e; subst e; cases hi
      rw [upd_same]; exact ObjOK.ext hx hlt hok
    · rename_i e
      rw [hr i (Ne.symm e)]
      exact ObjOK.ext hx (h'.lt i s' hi).2 (h'.obj i s' hi)
  · intro i s' hi
    rw [Hp.get_put] at hi
    split at hi
    · rename_i e; subst e; cases hi
      exact ⟨by unfold idOK; simp, Body.lt_mono (Nat.le_succ _) hlt⟩
    · exact ⟨idOK_mono (Nat.le_succ _) (h.lt i s' hi).1, Body.lt_mono (Nat.le_succ _) (h.lt i s' hi).2⟩
  · intro i s' b hi hw hbk hF
    rw [Hp.get_put] at hi
    split at hi
    · rename_i e; subst e; rw [upd_same] at hbk
      have h1 := hbl b hbk
      have := h.old _ hF; have := h.size; omega
    · rename_i e
      rw [hr i (Ne.symm e)] at hbk
      exact h.own i s' b hi hw hbk hF
  · intro i j s1 s2 b hij hi hj hw hbk hbk'
    rw [Hp.get_put] at hi hj
    split at hi
    · rename_i e; subst e
      rw [if_neg hij] at hj
      rw [upd_same] at hbk
      rw [hr j (Ne.symm hij)] at hbk'
      have h1 := hbl b hbk
      have := h.live j s2 _ hj hbk'; omega
    · rename_i e
      rw [hr i (Ne.symm e)] at hbk
      split at hj
      · rename_i e'; subst e'; rw [upd_same] at hbk'
        have h1 := hbl b hbk'
        have := h.live i s1 _ hi hbk; omega
      · rename_i e'
        rw [hr j (Ne.symm e')] at hbk'
        exact h.inj i j s1 s2 b hij hi hj hw hbk hbk'
  · intro i s' b hi hbk
    rw [Hp.get_put] at hi
    split at hi
    · rename_i e; subst e; rw [upd_same] at hbk; exact (hbl b hbk).2
    · rename_i e
      rw [hr i (Ne.symm e)] at hbk
      exact h'.live i s' b hi hbk
theorem keyB_rg {k : TypeId} (hk : P.underlying k = some .string) {x : MapEntry} {s : ByteArray} (hx : x.key = .string s) (hs : s.size ≤ maxLen) :
    rd (H := Unit) P k (fun _ => some (.nil, [])) x = some (.string s.data.toList, .nil) := by
  have h1 : keyOf P k x.key = some (.string s.data.toList) := by
    rw [hx]
    simp [keyOf, mapKey, hk, hs]
  simp [rd, h1]
theorem sorted_S (L6 : SlLaysZ.n6 P σ) (L10 : SlLaysZ.n10 P σ) (hsort : ∀ m, AnyZ.SortsIn P σ Fence.wide m) (e9 : ∀ args w, (callFunc (σ.f 9) args).run P w = .ok (.enter (σ.f 9) args) w) (e10 : ∀ args w, (callFunc (σ.f 10) args).run P w = .ok (.enter (σ.f 10) args) w)
    {i j k : Nat} {es : List (Value × Value)} {s u t : SO} {T : Nat} {c0 : Option Nat} (hk : H.get k = some u) (hub : u.b = .sv [.mp i]) (hgh : H.get j = some t) (htb : t.b = .mp (.shp k T c0)) (hg : H.get i = some s) (hb : s.b = .mp (.map es))
    (hkeys : keysS es = true) (hsz : ∀ e ∈ es, (keyB e).length ≤ maxLen) (hlen : es.length ≤ 1000000) (hn : n < 1000) :
    SpecAt P (σ.f 6) [.fn (σ.f 10) [.ptr k 0]] H n (.sl n 0 es.length 1) (H.put n ⟨true, .strs (srtK es)⟩) (n + 1) := by
  intro F w0 w ρ xs hH hz hl
  match xs, hz with
  | [x], ⟨hxr, _⟩ =>
    obtain ⟨ys, hxe, hys⟩ := hxr
    subst hxe
    match ys, hys with
    | [y], ⟨hyr, _⟩ =>
      have hyr : arel ρ (.ptr k 0) y := hyr
      obtain ⟨b, hbk, hy⟩ := hyr
      have hgo := hH.obj j t hgh
      unfold ObjOK at hgo
      rw [htb] at hgo
      obtain ⟨h0, kk, hkk, _⟩ := hgo.2 (by rw [hbk]; simp)
      rw [h0, Nat.zero_add] at hy
      subst hy
      have hrow := obj_row hH hk (by rw [hub]; simp)
      rw [hub] at hrow
      simp only [RowOK, hbk] at hrow
      obtain ⟨ca, T', fr', q1, q2, q3, q4, q5⟩ := hrow
      obtain ⟨z, z1, z2⟩ := q4 0 (.mp i) rfl
      rw [h0, Nat.zero_add] at z1
      have z2 : arel ρ (.mp i) z := z2
      obtain ⟨bm, hbm, hz⟩ := z2
      subst hz
      obtain ⟨b', ents, clk, e1, e2, e3, e4⟩ := map_obj hH hg hb
      rw [hbm] at e1; cases e1
      have hstr := L10.t26
      have hlenE : ents.size = es.length := by rw [← e3]; simp [kvs]
      have hkey : ∀ x ∈ ents.toList, ∃ q : ByteArray, x.key = .string q ∧ q.size ≤ maxLen := by
        intro x hx
        have h1 : (x.key, x.val) ∈ es := by rw [← e3]; exact List.mem_map.2 ⟨x, hx, rfl⟩
        have h2 := List.all_eq_true.1 hkeys _ h1
        have h3 := hsz _ h1
        cases hq : x.key <;> simp [hq] at h2
        rename_i q
        refine ⟨q, rfl, ?_⟩
        simp only [hq, keyB] at h3
        rw [Array.length_toList] at h3
        exact h3
      have hreads : ∀ x ∈ ents.toList, ∃ y, rd (H := Unit) P (σ.t 26) (fun _ => some (.nil, [])) x = some y := fun x hx => by
        obtain ⟨q, h1, h2⟩ := hkey x hx
        exact ⟨_, keyB_rg hstr h1 h2⟩
      have hml : (1000000 : Nat) ≤ maxLen := by decide
      have hown : w.ownsMap P (σ.t 26) (fun _ => some ((.nil : DataW Unit), [])) bm ents.size (.map ((ents.toList.map (rg P (σ.t 26) (fun _ => some (.nil, [])))).foldr DataW.insert [])) :=
        ⟨ents, clk, e2, ⟨by omega, e4, hreads⟩, Nat.le_refl _, rfl⟩
      have hsizeD := hown.size_le
      have hBlt : b < w.heap.size := (Array.getElem?_eq_some_iff.1 q1).1
      have hseq := AnyZ.keys_gives L10 Fence.wide 8 trivial rfl (by decide) b bm ents.size _ w hBlt (by rw [cell_of q1, z1]) hown
      generalize hD : (DataW.map ((ents.toList.map (rg P (σ.t 26) (fun _ => some ((.nil : DataW Unit), [])))).foldr DataW.insert [])) = D0 at hown hsizeD hseq
      have hsorted := AnyZ.sorted_in L6 Fence.wide 11 trivial trivial trivial trivial rfl (by decide) (hsort 10) e9 (σ.f 10) #[.pointer (some ⟨b, 0, none⟩)] trivial e10 _ (Maps.size D0) (by omega) (by omega) w hseq
      refine ((callsIn_wide (n := 11)).1 hsorted).mono ?_
      rintro e w' ⟨v, ss, rfl, hperm, hrow, hnil, hB⟩
      have hpk : ss.Perm (es.map keyB) := by
        refine hperm.trans ?_
        rw [← hD]
        show ((ents.toList.map (rg P (σ.t 26) (fun _ => some ((.nil : DataW Unit), [])))).foldr DataW.insert []).map (fun p => Go.strOf p.1) |>.Perm _
        refine (List.Perm.map _ (Go.WideShapes.sorted_perm _)).trans ?_
        rw [List.map_map, ← e3]
        unfold kvs
        rw [List.map_map]
        refine List.Perm.of_eq (List.map_congr_left fun x hx => ?_)
        obtain ⟨q, h1, h2⟩ := hkey x hx
        show Go.strOf (rg P (σ.t 26) (fun _ => some ((.nil : DataW Unit), [])) x).1 = keyB (x.key, x.val)
        rw [rg_of (keyB_rg hstr h1 h2), h1]
        rfl
      have hms : ss.mergeSort (fun x y => decide (x ≤ y)) = (es.map keyB).mergeSort fun x y => decide (x ≤ y) := mergeSort_of_perm hpk
      have hsl : ss.length = es.length := by rw [hpk.length_eq, List.length_map]
      have hkl : (srtK es).length = es.length := by unfold srtK; rw [List.length_map, List.length_mergeSort, List.length_map]
      have hcells : (ss.mergeSort (fun x y => decide (x ≤ y))).map encStr = (srtK es).map Value.string := by
        rw [hms]; unfold srtK; rw [List.map_map]; rfl
      rw [hcells, hsl] at hrow
      rcases hrow.2 with ⟨rfl, hz0⟩ | ⟨g, cap, cur, rfl, hbase, hgb, r1, r2, r3, r4⟩
      · have hnew := hH.addNew hB hn ⟨true, .strs (srtK es)⟩ ⟨none, 0, 0, true, none⟩ (by simp) (by simp [Body.lt]) (ObjOK.mk (by simp) (by
          show Body.cells (.strs (srtK es)) = []
          have : srtK es = [] := List.eq_nil_of_length_eq_zero (by omega)
          rw [this]; rfl) (by intro h; exact absurd rfl h)) rfl
        refine ⟨_, _, rfl, ?_, lt_new_sl, hnew, Ext.upd hn, Nat.le_succ _⟩
        show slrel (upd ρ n _ n) 0 es.length 1 _
        rw [upd_same]
        exact ⟨by omega, .inl rfl⟩
      · have hnew := hH.addNew hB hn ⟨true, .strs (srtK es)⟩ ⟨some g, 0, cap, true, none⟩ (by
            intro b hb; cases hb; exact ⟨hbase, (Array.getElem?_eq_some_iff.1 hgb).1⟩) (by simp [Body.lt]) (ObjOK.mk (by simp) (by
          show ∃ c T fr, w'.heap[g]? = some (.cells c T fr) ∧ _
          refine ⟨cur, _, _, hgb, by show 0 + cap ≤ _; omega, by show (Body.cells (.strs (srtK es))).length ≤ cap; simp [Body.cells]; omega, ?_, ?_⟩
          · intro j x hx
            rw [Nat.mul_one] at r4
            simp only [Body.cells, List.getElem?_map, Option.map_eq_some_iff] at hx
            obtain ⟨q, hq, rfl⟩ := hx
            have hj : j < es.length := by have := (List.getElem?_eq_some_iff.1 hq).1; omega
            refine ⟨.string q, ?_, rfl⟩
            have h1 : (cur.toList.take es.length)[j]? = ((srtK es).map Value.string)[j]? := by rw [r4]
            rw [List.getElem?_take_of_lt hj, List.getElem?_map, hq, Array.getElem?_toList] at h1
            show cur[0 + j]? = _
            rw [Nat.zero_add]
            exact h1
          · intro _ j _ h
            exact absurd h.2 (by simp)) (by intro _; show (true = true → true = true); intro _; rfl)) rfl
        refine ⟨_, _, rfl, ?_, lt_new_sl, hnew, Ext.upd hn, Nat.le_succ _⟩
        show slrel (upd ρ n _ n) 0 es.length 1 _
        rw [upd_same]
        exact ⟨cap, 0, r1, ⟨by show 0 + cap * 1 ≤ cap; omega, fun _ => by show 0 + cap * 1 = cap; omega⟩, fun _ => rfl, rfl⟩
end Go.Sx

/- maps.Clone, maps.Keys, slices.Sorted at this program. -/
set_option linter.unusedVariables false
set_option linter.unusedSimpArgs false
set_option maxRecDepth 100000
namespace Go.Proofs
open Go.Shelf Go.RowKit Go.Sx
def layZ_ren : Go.Shelf.Ren := ⟨fun | 6 => 119 | 8 => 132 | 9 => 133 | 11 => 140 | 13 => 142 | 12 => 141 | 23 => 155 | 24 => 156 | 14 => 146 | 15 => 147 | 16 => 148 | 17 => 149 | 18 => 150 | 19 => 151 | 20 => 152 | 21 => 153 | 22 => 154 | 25 => 159 | 26 => 160 | 27 => 161 | 28 => 162 | 29 => 163 | 30 => 164 | 31 => 165 | 7 => 120 | 10 => 134 | n => n, fun | 26 => 9 | 28 => 182 | 24 => 70 | 0 => 0 | 3 => 93 | 37 => 179 | 48 => 190 | 50 => 163 | 4 => 4 | 40 => 207 | 39 => 206 | 45 => 169 | 5 => 5 | 9 => 9 | 51 => 215 | 55 => 219 | 57 => 221 | 58 => 222 | 33 => 127 | 23 => 81 | 27 => 181 | n => n, fun n => n⟩
theorem layS : SlLaysZ.n6 Tryz.prog layZ_ren where
  mixed := by kernel_rfl
  f6 := ⟨Tryz.f119.name, by kernel_rfl, Tryz.func119.trans (congrArg some (by kernel_rfl))⟩
  f8 := ⟨Tryz.f132.name, by kernel_rfl, Tryz.func132.trans (congrArg some (by kernel_rfl))⟩
  f11 := ⟨Tryz.f140.name, by kernel_rfl, Tryz.func140.trans (congrArg some (by kernel_rfl))⟩
  t0 := Tryz.underlying0
  a0 := Tryz.isAgg0
  z0 := Tryz.sizeOf0
  v0 := Tryz.zeroValue0
  t24 := Tryz.underlying70
  a24 := Tryz.isAgg70
  z24 := Tryz.sizeOf70
  v24 := Tryz.zeroValue70
  t26 := Tryz.underlying9
  a26 := Tryz.isAgg9
  z26 := Tryz.sizeOf9
  v26 := Tryz.zeroValue9
  t28 := Tryz.underlying182
  a28 := Tryz.isAgg182
  z28 := Tryz.sizeOf182
  v28 := Tryz.zeroValue182
  i26 := by kernel_rfl
theorem layK : SlLaysZ.n7 Tryz.prog layZ_ren where
  mixed := by kernel_rfl
  f7 := ⟨Tryz.f120.name, by kernel_rfl, Tryz.func120.trans (congrArg some (by kernel_rfl))⟩
  f10 := ⟨Tryz.f134.name, by kernel_rfl, Tryz.func134.trans (congrArg some (by kernel_rfl))⟩
  t0 := Tryz.underlying0
  a0 := Tryz.isAgg0
  z0 := Tryz.sizeOf0
  v0 := Tryz.zeroValue0
  t4 := Tryz.underlying4
  a4 := Tryz.isAgg4
  z4 := Tryz.sizeOf4
  v4 := Tryz.zeroValue4
  t23 := Tryz.underlying81
  a23 := Tryz.isAgg81
  z23 := Tryz.sizeOf81
  v23 := Tryz.zeroValue81
  t26 := Tryz.underlying9
  a26 := Tryz.isAgg9
  z26 := Tryz.sizeOf9
  v26 := Tryz.zeroValue9
  t27 := Tryz.underlying181
  a27 := Tryz.isAgg181
  z27 := Tryz.sizeOf181
  v27 := Tryz.zeroValue181
  t28 := Tryz.underlying182
  a28 := Tryz.isAgg182
  z28 := Tryz.sizeOf182
  v28 := Tryz.zeroValue182
  t33 := Tryz.underlying127
  a33 := Tryz.isAgg127
  z33 := Tryz.sizeOf127
  v33 := Tryz.zeroValue127
theorem layK1 : SlLaysZ.n10 Tryz.prog layZ_ren where
  mixed := by kernel_rfl
  f10 := ⟨Tryz.f134.name, by kernel_rfl, Tryz.func134.trans (congrArg some (by kernel_rfl))⟩
  t0 := Tryz.underlying0
  a0 := Tryz.isAgg0
  z0 := Tryz.sizeOf0
  v0 := Tryz.zeroValue0
  t4 := Tryz.underlying4
  a4 := Tryz.isAgg4
  z4 := Tryz.sizeOf4
  v4 := Tryz.zeroValue4
  t23 := Tryz.underlying81
  a23 := Tryz.isAgg81
  z23 := Tryz.sizeOf81
  v23 := Tryz.zeroValue81
  t26 := Tryz.underlying9
  a26 := Tryz.isAgg9
  z26 := Tryz.sizeOf9
  v26 := Tryz.zeroValue9
  t33 := Tryz.underlying127
  a33 := Tryz.isAgg127
  z33 := Tryz.sizeOf127
  v33 := Tryz.zeroValue127
def layC_ren : Go.Shelf.Ren := ⟨fun | 5 => 49 | 7 => 90 | n => n, fun | 23 => 81 | 25 => 9 | 3 => 93 | 4 => 4 | 20 => 20 | n => n, fun n => n⟩
theorem layC : SlLaysW.n5 Tryz.prog layC_ren where
  mixed := by kernel_rfl
  f5 := ⟨Tryz.f49.name, by kernel_rfl, Tryz.func49.trans (congrArg some (by kernel_rfl))⟩
  f7 := Tryz.func90.trans (congrArg some (by kernel_rfl))
  t4 := Tryz.underlying4
  a4 := Tryz.isAgg4
  z4 := Tryz.sizeOf4
  v4 := Tryz.zeroValue4
  t20 := Tryz.underlying20
  a20 := Tryz.isAgg20
  z20 := Tryz.sizeOf20
  v20 := Tryz.zeroValue20
  t23 := Tryz.underlying81
  a23 := Tryz.isAgg81
  z23 := Tryz.sizeOf81
  v23 := Tryz.zeroValue81
def laySo_ren : Go.Shelf.Ren := ⟨fun | 6 => 133 | 8 => 142 | 9 => 141 | 19 => 155 | 20 => 156 | 21 => 146 | 22 => 147 | 23 => 148 | 24 => 149 | 25 => 150 | 26 => 151 | 27 => 152 | 28 => 153 | 29 => 154 | 36 => 159 | 31 => 160 | 32 => 161 | 37 => 162 | 38 => 163 | 39 => 164 | 41 => 165 | n => n, fun | 27 => 70 | 29 => 9 | 3 => 3 | 32 => 179 | 26 => 70 | 0 => 0 | 44 => 190 | 46 => 163 | 4 => 4 | 36 => 207 | 35 => 206 | 41 => 169 | 5 => 5 | 9 => 9 | 53 => 215 | 57 => 219 | 63 => 221 | 64 => 222 | n => n, fun n => n⟩
theorem laySo : SlLaysM.n6 Tryz.prog laySo_ren where
  mixed := by kernel_rfl
  f6 := ⟨Tryz.f133.name, by kernel_rfl, Tryz.func133.trans (congrArg some (by kernel_rfl))⟩
  f8 := Tryz.func142.trans (congrArg some (by kernel_rfl))
  f9 := ⟨Tryz.f141.name, by kernel_rfl, Tryz.func141.trans (congrArg some (by kernel_rfl))⟩
  f19 := Tryz.func155.trans (congrArg some (by kernel_rfl))
  f20 := Tryz.func156.trans (congrArg some (by kernel_rfl))
  f21 := ⟨Tryz.f146.name, by kernel_rfl, Tryz.func146.trans (congrArg some (by kernel_rfl))⟩
  f22 := ⟨Tryz.f147.name, by kernel_rfl, Tryz.func147.trans (congrArg some (by kernel_rfl))⟩
  f23 := ⟨Tryz.f148.name, by kernel_rfl, Tryz.func148.trans (congrArg some (by kernel_rfl))⟩
  f24 := ⟨Tryz.f149.name, by kernel_rfl, Tryz.func149.trans (congrArg some (by kernel_rfl))⟩
  f25 := ⟨Tryz.f150.name, by kernel_rfl, Tryz.func150.trans (congrArg some (by kernel_rfl))⟩
  f26 := ⟨Tryz.f151.name, by kernel_rfl, Tryz.func151.trans (congrArg some (by kernel_rfl))⟩
  f27 := ⟨Tryz.f152.name, by kernel_rfl, Tryz.func152.trans (congrArg some (by kernel_rfl))⟩
  f28 := ⟨Tryz.f153.name, by kernel_rfl, Tryz.func153.trans (congrArg some (by kernel_rfl))⟩
  f29 := ⟨Tryz.f154.name, by kernel_rfl, Tryz.func154.trans (congrArg some (by kernel_rfl))⟩
  f31 := Tryz.func160.trans (congrArg some (by kernel_rfl))
  f32 := Tryz.func161.trans (congrArg some (by kernel_rfl))
  f36 := ⟨Tryz.f159.name, by kernel_rfl, Tryz.func159.trans (congrArg some (by kernel_rfl))⟩
  f37 := ⟨Tryz.f162.name, by kernel_rfl, Tryz.func162.trans (congrArg some (by kernel_rfl))⟩
  f38 := ⟨Tryz.f163.name, by kernel_rfl, Tryz.func163.trans (congrArg some (by kernel_rfl))⟩
  f39 := ⟨Tryz.f164.name, by kernel_rfl, Tryz.func164.trans (congrArg some (by kernel_rfl))⟩
  f41 := ⟨Tryz.f165.name, by kernel_rfl, Tryz.func165.trans (congrArg some (by kernel_rfl))⟩
  t0 := Tryz.underlying0
  a0 := Tryz.isAgg0
  z0 := Tryz.sizeOf0
  v0 := Tryz.zeroValue0
  t3 := Tryz.underlying3
  a3 := Tryz.isAgg3
  z3 := Tryz.sizeOf3
  v3 := Tryz.zeroValue3
  t4 := Tryz.underlying4
  a4 := Tryz.isAgg4
  z4 := Tryz.sizeOf4
  v4 := Tryz.zeroValue4
  t5 := Tryz.underlying5
  a5 := Tryz.isAgg5
  z5 := Tryz.sizeOf5
  v5 := Tryz.zeroValue5
  t9 := Tryz.underlying9
  a9 := Tryz.isAgg9
  z9 := Tryz.sizeOf9
  v9 := Tryz.zeroValue9
  t26 := Tryz.underlying70
  a26 := Tryz.isAgg70
  z26 := Tryz.sizeOf70
  v26 := Tryz.zeroValue70
  t27 := Tryz.underlying70
  a27 := Tryz.isAgg70
  z27 := Tryz.sizeOf70
  v27 := Tryz.zeroValue70
  t29 := Tryz.underlying9
  a29 := Tryz.isAgg9
  z29 := Tryz.sizeOf9
  v29 := Tryz.zeroValue9
  t32 := Tryz.underlying179
  a32 := Tryz.isAgg179
  z32 := Tryz.sizeOf179
  v32 := Tryz.zeroValue179
  t35 := Tryz.underlying206
  a35 := Tryz.isAgg206
  z35 := Tryz.sizeOf206
  v35 := Tryz.zeroValue206
  t36 := Tryz.underlying207
  a36 := Tryz.isAgg207
  z36 := Tryz.sizeOf207
  v36 := Tryz.zeroValue207
  t41 := Tryz.underlying169
  a41 := Tryz.isAgg169
  z41 := Tryz.sizeOf169
  v41 := Tryz.zeroValue169
  t44 := Tryz.underlying190
  a44 := Tryz.isAgg190
  z44 := Tryz.sizeOf190
  v44 := Tryz.zeroValue190
  t46 := Tryz.underlying163
  a46 := Tryz.isAgg163
  z46 := Tryz.sizeOf163
  v46 := Tryz.zeroValue163
  t53 := Tryz.underlying215
  a53 := Tryz.isAgg215
  z53 := Tryz.sizeOf215
  v53 := Tryz.zeroValue215
  t57 := Tryz.underlying219
  a57 := Tryz.isAgg219
  z57 := Tryz.sizeOf219
  v57 := Tryz.zeroValue219
  t63 := Tryz.underlying221
  a63 := Tryz.isAgg221
  z63 := Tryz.sizeOf221
  v63 := Tryz.zeroValue221
  t64 := Tryz.underlying222
  a64 := Tryz.isAgg222
  z64 := Tryz.sizeOf222
  v64 := Tryz.zeroValue222
theorem sortsZ (m : Nat) : AnyZ.SortsIn Tryz.prog layZ_ren Fence.wide m :=
  ⟨fun blk off cap ss W hH hblk hsz => callsIn_wide.2 (AnyM.slices_Sort_string laySo blk off cap ss W hH hblk hsz), fun p cap W => callsIn_wide.2 (AnyM.slices_Sort_string_none laySo p cap W)⟩
variable {H : Hp} {n : Nat}
theorem cloneT {i : Nat} {es : List (Value × Value)} {s : SO} (hg : H.get i = some s) (hb : s.b = .mp (.map es)) (hn : n < 1000) :
    SpecAt Tryz.prog 49 [.mp i] H n (.mp n) (H.put n ⟨true, .mp (.map es)⟩) (n + 1) := clone_S layC hg hb hn
theorem keysT {i : Nat} {s : SO} (hg : H.get i = some s) (hn : n + 1 < 1000) :
    SpecAt Tryz.prog 120 [.mp i] H n (.fn 134 [.ptr n 0]) ((H.put n ⟨true, .sv [.mp i]⟩).put (n + 1) ⟨false, .mp (.shp n 81 (some 1))⟩) (n + 2) := keys_S layK hg hn
theorem sortedT {i j k : Nat} {es : List (Value × Value)} {s u t : SO} {T : Nat} {c0 : Option Nat} (hk : H.get k = some u) (hub : u.b = .sv [.mp i]) (hgh : H.get j = some t) (htb : t.b = .mp (.shp k T c0)) (hg : H.get i = some s) (hb : s.b = .mp (.map es))
    (hkeys : keysS es = true) (hsz : ∀ e ∈ es, (keyB e).length ≤ maxLen) (hlen : es.length ≤ 1000000) (hn : n < 1000) :
    SpecAt Tryz.prog 119 [.fn 134 [.ptr k 0]] H n (.sl n 0 es.length 1) (H.put n ⟨true, .strs (srtK es)⟩) (n + 1) :=
  sorted_S layS layK1 sortsZ (laySo.f6.enters rfl) (layK1.f10.enters rfl) hk hub hgh htb hg hb hkeys hsz hlen hn
end Go.Proofs

/- strings.Builder, wherever it lies: copyCheck, String. -/
set_option linter.unusedVariables false
set_option linter.unusedSimpArgs false
namespace Go.Proofs
open Go.Shelf Go.RowKit
variable {P : Program} {ρ : Ren}
set_option maxHeartbeats 1000000 in
set_option maxRecDepth 100000 in
theorem ck_used (L : Lays.n240 P ρ) (X : Builder.X72 P ρ) (b o : Nat) (w : World) (h0 : w.cell? ⟨b, o, none⟩ = some (.pointer (some ⟨b, o, none⟩))) :
    Calls P (ρ.f 240) #[.pointer (some ⟨b, o, none⟩)] w fun e w' => e = .returned (.tuple #[]) ∧ w' = w := by
  obtain ⟨j, hj, _⟩ := Option.map_eq_some_iff.1 X.sizeBuilder
  have mixed := L.mixed
  have t72 := L.t72; have a72 := L.a72; have z72 := L.z72; have v72 := L.v72; have u72 := run_underlying L.t72
  have t70 := L.t70; have a70 := L.a70; have z70 := L.z70; have v70 := L.v70; have u70 := run_underlying L.t70
  have t9 := L.t9; have a9 := L.a9; have z9 := L.z9; have v9 := L.v9; have u9 := run_underlying L.t9
  have t4 := L.t4; have a4 := L.a4; have z4 := L.z4; have v4 := L.v4; have u4 := run_underlying L.t4
  have t164 := L.t164; have a164 := L.a164; have z164 := L.z164; have v164 := L.v164; have u164 := run_underlying L.t164
  go_enter L.f240, Body.n240_ntmps ρ
  go_wp2
  rw [Lib.run_neq_ptr_same w _ L.t70 hj]
  go_wp2
  go_end0
  exact ⟨rfl, rfl⟩
set_option maxHeartbeats 1000000 in
set_option maxRecDepth 100000 in
theorem ck_fresh (L : Lays.n240 P ρ) (X : Builder.X72 P ρ) (b o T c : Nat) (w : World) (h0 : w.cell? ⟨b, o, none⟩ = some (.pointer none)) (hsh : w.shape? b = some (T, c)) (hoc : o < c) (hlies : liesAt P P.depth T (c / P.cellsOf T) o (ρ.t 72) 1 = true) (hfz : w.frozen? ⟨b, o, none⟩ = false) :
    Calls P (ρ.f 240) #[.pointer (some ⟨b, o, none⟩)] w fun e w' => e = .returned (.tuple #[]) ∧ w' = w.setCell ⟨b, o, none⟩ (.pointer (some ⟨b, o, none⟩)) := by
  obtain ⟨j, hj, hjs⟩ := Option.map_eq_some_iff.1 X.sizeBuilder
  have mixed := L.mixed
  have t72 := L.t72; have a72 := L.a72; have z72 := L.z72; have v72 := L.v72; have u72 := run_underlying L.t72
  have t70 := L.t70; have a70 := L.a70; have z70 := L.z70; have v70 := L.v70; have u70 := run_underlying L.t70
  have t9 := L.t9; have a9 := L.a9; have z9 := L.z9; have v9 := L.v9; have u9 := run_underlying L.t9
  have t4 := L.t4; have a4 := L.a4; have z4 := L.z4; have v4 := L.v4; have u4 := run_underlying L.t4
  have t164 := L.t164; have a164 := L.a164; have z164 := L.z164; have v164 := L.v164; have u164 := run_underlying L.t164
  go_enter L.f240, Body.n240_ntmps ρ
  go_wp2
  rw [Lib.run_to_unsafe w ⟨b, o, none⟩ L.t70 L.t164 hj (by rw [hjs]; decide) hsh hoc]
  simp only [Result.andThen]
  rw [Oper.upon_value]
  go_wp2
  rw [run_callFunc_extern L.f276 (by kernel_rfl) (by kernel_rfl) (by kernel_rfl) (e := Extern.AbiNoEscape.same) (by kernel_rfl)]
  rw [Lib.run_noEscape]
  simp only [Result.andThen]
  rw [Oper.upon_value]
  go_wp2
  rw [Lib.run_from_unsafe w ⟨b, o, none⟩ L.t164 L.t70 hj hsh hlies]
  simp only [Result.andThen]
  rw [Oper.upon_value]
  go_wp2
  go_end0
  exact ⟨rfl, rfl⟩
set_option maxHeartbeats 1000000 in
set_option maxRecDepth 100000 in
theorem str_some (L : Lays.n169 P ρ) (X : Builder.Extra P ρ) (b o g cap c : Nat) (l : List UInt8) (w : World) (h0 : l ≠ []) (k1 : w.cell? ⟨b, o + 1, none⟩ = some (.slice (some ⟨g, 0, none⟩) l.length cap)) (hcap : l.length ≤ cap) (hsh : w.shape? g = some (ρ.t 5, c)) (hlc : l.length ≤ c) (h63 : l.length ≤ 9223372036854775807)
    (hcell : ∀ j x, l[j]? = some x → w.cell? ((⟨g, 0, none⟩ : Addr).add j) = some (.int .u8 x.toNat)) :
    Calls P (ρ.f 169) #[.pointer (some ⟨b, o, none⟩)] w fun e w' => e = .returned (.string ⟨l.toArray⟩) ∧ w' = w.drew.freeze ⟨g, 0, none⟩ l.length := by
  have hl0 : l.length ≠ 0 := by simpa using h0
  have c1 : w.drew.cell? ⟨b, o + 1, none⟩ = some (.slice (some ⟨g, 0, none⟩) l.length cap) := k1
  have hSD : (Builtin.unsafeSliceData_ #[(ρ.t 37)] (ρ.t 127) #[.slice (some ⟨g, 0, none⟩) l.length cap]).run P w.drew = .ok (.pointer (some ⟨g, 0, none⟩)) w.drew :=
    Lib.run_unsafeSliceData_row _ _ _ _ _ _ (by omega)
  have hUS : (Builtin.unsafeString_ #[(ρ.t 127), (ρ.t 3)] (ρ.t 9) #[.pointer (some ⟨g, 0, none⟩), .int .i64 l.length]).run P w.drew = .ok (.string ⟨l.toArray⟩) (w.drew.freeze ⟨g, 0, none⟩ l.length) :=
    Lib.run_unsafeString_row w.drew (ρ.t 127) (ρ.t 3) (ρ.t 9) (ρ.t 5) L.t127 X.cellsByte g c hsh l h0 hlc h63 hcell
  have mixed := L.mixed
  have t72 := L.t72; have a72 := L.a72; have z72 := L.z72; have v72 := L.v72; have u72 := run_underlying L.t72
  have t70 := L.t70; have a70 := L.a70; have z70 := L.z70; have v70 := L.v70; have u70 := run_underlying L.t70
  have t37 := L.t37; have a37 := L.a37; have z37 := L.z37; have v37 := L.v37; have u37 := run_underlying L.t37
  have t127 := L.t127; have a127 := L.a127; have z127 := L.z127; have v127 := L.v127; have u127 := run_underlying L.t127
  have t3 := L.t3; have a3 := L.a3; have z3 := L.z3; have v3 := L.v3; have u3 := run_underlying L.t3
  have t9 := L.t9; have a9 := L.a9; have z9 := L.z9; have v9 := L.v9; have u9 := run_underlying L.t9
  have t5 := X.t5; have a5 := X.a5; have z5 := X.z5; have v5 := X.v5; have u5 := run_underlying X.t5
  go_enter L.f169, Body.n169_ntmps ρ
  go_wp2
  go_region_o
  all_goals (go_wp2; go_ret; exact ⟨rfl, rfl⟩)
end Go.Proofs

/- strings.Builder in the symbolic heap. -/
set_option linter.unusedVariables false
set_option linter.unusedSimpArgs false
namespace Go.Sx
open Go.Shelf Go.RowKit Go.Proofs
variable {P : Program} {σ : Ren} {H : Hp} {n : Nat}
theorem ck_fresh_S (L : Lays.n240 P σ) (X : Builder.X72 P σ) {i j o T c : Nat} {cs cs' : List SV} {s : SO} (hg : H.get i = some ⟨true, .sv cs⟩) (hc : cs[o]? = some (.v (.pointer none))) (hj : H.get j = some s) (hs : s.b = .mp (.shp i T (some c)))
    (hoc : o < c) (hlies : liesAt P P.depth T (c / P.cellsOf T) o (σ.t 72) 1 = true) (hcs : splice cs o [.ptr i o] = cs') :
    SpecAt P (σ.f 240) [.ptr i o] H n (.tup []) (H.put i ⟨true, .sv cs'⟩) n := by
  intro F w0 w ρ xs hH hz hl
  match xs, hz with
  | [x], ⟨⟨b, hb, hx⟩, _⟩ =>
    have hgh := hH.obj j s hj
    unfold ObjOK at hgh
    rw [hs] at hgh
    obtain ⟨h0, k, hk, hck⟩ := hgh.2 (by rw [hb]; simp)
    obtain rfl := hck c rfl
    obtain ⟨ca, fr, e1, e2⟩ := hH.shp i T c b hk hb
    rw [h0, Nat.zero_add] at hx
    subst hx
    have hr := obj_row hH hg (by simp)
    have hr' := hr
    simp only [RowOK, hb] at hr'
    obtain ⟨ca', T', fr', q1, q2, q3, q4, q5⟩ := hr'
    rw [e1] at q1; cases q1
    have holt : o < cs.length := (List.getElem?_eq_some_iff.1 hc).1
    obtain ⟨y, y1, y2⟩ := q4 o _ hc
    rw [h0, Nat.zero_add] at y1
    have y2 : y = .pointer none := y2
    subst y2
    have hfz : w.frozen? ⟨b, o, none⟩ = false := by
      have := q5 trivial o (by have : cs.length ≤ (ρ i).size := q3; omega)
      rw [h0, Nat.zero_add] at this
      simp only [World.frozen?, e1]
      simp; omega
    refine (ck_fresh L X b o T c w (by rw [cell_of e1, y1]) (by simp [World.shape?, e1, e2]) hoc hlies hfz).mono ?_
    rintro e w' ⟨rfl, rfl⟩
    have hidi := (hH.lt i _ hg).1
    have hz1 : All2 (crel ρ) [SV.ptr i o] [Value.pointer (some ⟨b, o, none⟩)] := ⟨⟨b, hb, by rw [h0, Nat.zero_add]⟩, trivial⟩
    obtain ⟨c2, T2, fr2, p1, p2, p3, p4⟩ := row_write hr hb o _ _ hz1 (by simp [Body.cells]; omega)
    rw [e1] at p1; cases p1
    rw [h0, Nat.zero_add] at p4
    rw [setCell_wset e1]
    refine ⟨_, ρ, rfl, ⟨[], rfl, trivial⟩, rfl, ?_, Ext.refl _ _, Nat.le_refl _⟩
    refine hH.write i _ ⟨true, .sv cs'⟩ hg rfl ?_ ?_ rfl rfl rfl (by simp [wset]) (fun q hq => wset_heap_ne _ _ _ _ (fun e => hq (by rw [hb, e]))) (wset_keep e1 (by simp))
    · have hlt := (hH.lt i _ hg).2
      simp only [Body.lt, List.all_eq_true] at hlt ⊢
      intro v hv
      rw [← hcs] at hv
      rcases mem_splice hv with h | h
      · exact hlt v h
      · rw [List.mem_singleton.1 h]; exact hidi
    · refine ObjOK.mk (by simp) ?_ ((obj_ex hH hg (by simp)).to rfl (fun _ => rfl))
      show RowOK _ _ _ true (Body.sv cs').cells
      rw [← hcs]; exact p4
theorem ck_used_S (L : Lays.n240 P σ) (X : Builder.X72 P σ) {i o : Nat} {cs : List SV} {s : SO} (hg : H.get i = some s) (hb' : s.b = .sv cs) (hc : cs[o]? = some (.ptr i o)) :
    SpecAt P (σ.f 240) [.ptr i o] H n (.tup []) H n := by
  intro F w0 w ρ xs hH hz hl
  match xs, hz with
  | [x], ⟨⟨b, hb, hx⟩, _⟩ =>
    subst hx
    have hr := obj_row hH hg (by rw [hb']; simp)
    rw [hb'] at hr
    simp only [RowOK, hb] at hr
    obtain ⟨ca', T', fr', q1, q2, q3, q4, q5⟩ := hr
    obtain ⟨y, y1, y2⟩ := q4 o _ hc
    obtain ⟨b2, hb2, y3⟩ := (y2 : arel ρ (.ptr i o) y)
    rw [hb] at hb2; cases hb2
    subst y3
    refine (ck_used L X b ((ρ i).off + o) w (by rw [cell_of q1, y1])).mono ?_
    rintro e w' ⟨rfl, rfl⟩
    exact ⟨_, ρ, rfl, ⟨[], rfl, trivial⟩, rfl, hH, Ext.refl _ _, Nat.le_refl _⟩
theorem str_some_S (L : Lays.n169 P σ) (X : Builder.Extra P σ) {i o r k q : Nat} {cs : List SV} {s t : SO} {bs : List Int} (hg : H.get i = some s) (hb' : s.b = .sv cs) (hc : cs[o + 1]? = some (.sl r 0 k 1)) (hr : H.get r = some ⟨true, .ints .u8 bs⟩)
    (hk : k = bs.length) (hk0 : k ≠ 0) (hk1 : k ≤ 9223372036854775807) (hq : H.get q = some t) (ht : t.b = .mp (.shp r (σ.t 5) none)) (hby : ∀ y ∈ bs, 0 ≤ y ∧ y ≤ 255) :
    SpecAt P (σ.f 169) [.ptr i o] H n (.v (.string (tx bs))) (H.put r ⟨false, .ints .u8 bs⟩) n := by
  intro F w0 w ρ xs hH hz hl
  match xs, hz with
  | [x], ⟨⟨b, hb, hx⟩, _⟩ =>
    subst hx
    have hri := obj_row hH hg (by rw [hb']; simp)
    rw [hb'] at hri
    simp only [RowOK, hb] at hri
    obtain ⟨ca', T', fr', q1, q2, q3, q4, q5⟩ := hri
    obtain ⟨y, y1, y2⟩ := q4 (o + 1) _ hc
    have y2 : slrel (ρ r) 0 k 1 y := y2
    cases hbr : (ρ r).blk with
    | none => simp only [slrel, hbr] at y2; exact absurd y2.1 hk0
    | some g =>
      simp only [slrel, hbr] at y2
      obtain ⟨cap, a, z1, z2, z3, z4⟩ := y2
      have hgh := hH.obj q t hq
      unfold ObjOK at hgh
      rw [ht] at hgh
      obtain ⟨h0, c, hsh, _⟩ := hgh.2 (by rw [hbr]; simp)
      have ha := z3 (by omega)
      rw [h0] at ha
      subst ha
      subst z4
      obtain ⟨ca, fr, e1, e2⟩ := hH.shp r _ c g hsh hbr
      have hrr := obj_row hH hr (by simp)
      have hrr' := hrr
      simp only [RowOK, hbr] at hrr
      obtain ⟨ca2, T2, fr2, p1, p2, p3, p4, p5⟩ := hrr
      rw [e1] at p1; cases p1
      have hl1 : (tx bs).data.toList.length = bs.length := by
        have := tx_sz bs
        exact this
      have hcell : ∀ j x, (tx bs).data.toList[j]? = some x → w.cell? ((⟨g, 0, none⟩ : Addr).add j) = some (.int .u8 x.toNat) := by
        intro j x hx
        have hj : j < bs.length := by rw [← hl1]; exact (List.getElem?_eq_some_iff.1 hx).1
        have hx2 : x = UInt8.ofNat (bs[j]).toNat := by
          simp [tx, hj] at hx
          exact hx.symm
        obtain ⟨v, v1, v2⟩ := p4 j (.v (.int .u8 bs[j])) (by simp [Body.cells, hj])
        have v2 : v = .int .u8 bs[j] := v2
        rw [h0, Nat.zero_add] at v1
        have hb2 := hby bs[j] (List.getElem_mem hj)
        rw [add_plain, Nat.zero_add, cell_of e1, v1, v2, hx2]
        congr 2
        have : (UInt8.ofNat (bs[j]).toNat).toNat = (bs[j]).toNat := by
          rw [UInt8.toNat_ofNat']; omega
        omega
      have hbl : bs.length ≤ ca.size := by
        have h1 : bs.length ≤ (ρ r).size := by simpa [Body.cells] using p3
        omega
      have hrun := str_some L X b ((ρ i).off + o) g cap c (tx bs).data.toList w (fun e => by rw [e] at hl1; simp at hl1; omega) (by rw [cell_of q1, Nat.add_assoc, y1, hl1, hk]) (by omega) (by simp [World.shape?, e1, e2]) (by omega) (by omega) hcell
      refine hrun.mono ?_
      rintro e w' ⟨rfl, rfl⟩
      refine ⟨_, ρ, rfl, rfl, rfl, ?_, Ext.refl _ _, Nat.le_refl _⟩
      have hD := hH.drew
      obtain ⟨fr3, hnew⟩ : ∃ fr3, (w.drew.freeze ⟨g, 0, none⟩ (tx bs).data.toList.length).heap[g]? = some (.cells ca (σ.t 5) fr3) := by
        unfold World.freeze
        rw [if_neg (by omega)]
        have e1' : w.drew.heap[g]? = some (.cells ca (σ.t 5) fr) := e1
        obtain ⟨lo, hi⟩ := fr
        exact ⟨_, by rw [Array.getElem?_modify, if_pos rfl, e1']; rfl⟩
      have hoth : ∀ m, m ≠ g → (w.drew.freeze ⟨g, 0, none⟩ (tx bs).data.toList.length).heap[m]? = w.drew.heap[m]? := by
        intro m hm
        unfold World.freeze
        rw [if_neg (by omega)]
        show (w.drew.heap.modify g _)[m]? = _
        rw [Array.getElem?_modify, if_neg (Ne.symm hm)]
      refine hD.write r _ ⟨false, .ints .u8 bs⟩ hr rfl rfl ?_ ?_ ?_ ?_ ?_ (fun m hm => hoth m (fun e => hm (by rw [hbr, e]))) (ShKeep.of_one (b := g) (c := ca) (c' := ca) (T := σ.t 5) (fr := fr) (fr' := fr3) e1 hnew rfl hoth)
      · refine ObjOK.mk (by simp) ?_ ((obj_ex hH hr (by simp)).to rfl (fun h => by cases h))
        simp only [RowOK, hbr]
        exact ⟨ca, _, fr3, hnew, p2, p3, p4, fun h => by cases h⟩
      all_goals (unfold World.freeze; rw [if_neg (by omega)])
      simp
end Go.Sx

/- strings.Builder at this program. -/
set_option linter.unusedVariables false
set_option linter.unusedSimpArgs false
set_option maxRecDepth 100000
namespace Go.Proofs
open Go.Shelf Go.RowKit Go.Sx
def layCk_ren : Go.Shelf.Ren := ⟨fun | 240 => 111 | 276 => 131 | n => n, fun | 0 => 0 | 4 => 4 | 9 => 9 | 20 => 20 | 70 => 141 | 72 => 143 | 164 => 187 | 5 => 5 | 37 => 79 | n => n, fun n => n⟩
theorem layCk : Lays.n240 Tryz.prog layCk_ren where
  mixed := by kernel_rfl
  f240 := Tryz.func111.trans (congrArg some (by kernel_rfl))
  f276 := Tryz.func131.trans (congrArg some (by kernel_rfl))
  t0 := Tryz.underlying0
  a0 := Tryz.isAgg0
  z0 := Tryz.sizeOf0
  v0 := Tryz.zeroValue0
  t4 := Tryz.underlying4
  a4 := Tryz.isAgg4
  z4 := Tryz.sizeOf4
  v4 := Tryz.zeroValue4
  t9 := Tryz.underlying9
  a9 := Tryz.isAgg9
  z9 := Tryz.sizeOf9
  v9 := Tryz.zeroValue9
  t20 := Tryz.underlying20
  a20 := Tryz.isAgg20
  z20 := Tryz.sizeOf20
  v20 := Tryz.zeroValue20
  t70 := Tryz.underlying141
  a70 := Tryz.isAgg141
  z70 := Tryz.sizeOf141
  v70 := Tryz.zeroValue141
  t72 := Tryz.underlying143
  a72 := Tryz.isAgg143
  z72 := Tryz.sizeOf143
  v72 := Tryz.zeroValue143
  t164 := Tryz.underlying187
  a164 := Tryz.isAgg187
  z164 := Tryz.sizeOf187
  v164 := Tryz.zeroValue187
theorem layCk_extra : Builder.X72 Tryz.prog layCk_ren where
  sizeBuilder := by kernel_rfl
  liesBuilder := by kernel_rfl
def layStr_ren : Go.Shelf.Ren := ⟨fun | 169 => 80 | n => n, fun | 70 => 141 | 9 => 9 | 0 => 0 | 72 => 143 | 37 => 79 | 127 => 178 | 3 => 3 | 5 => 5 | n => n, fun n => n⟩
theorem layStr : Lays.n169 Tryz.prog layStr_ren where
  mixed := by kernel_rfl
  f169 := Tryz.func80.trans (congrArg some (by kernel_rfl))
  t0 := Tryz.underlying0
  a0 := Tryz.isAgg0
  z0 := Tryz.sizeOf0
  v0 := Tryz.zeroValue0
  t3 := Tryz.underlying3
  a3 := Tryz.isAgg3
  z3 := Tryz.sizeOf3
  v3 := Tryz.zeroValue3
  t9 := Tryz.underlying9
  a9 := Tryz.isAgg9
  z9 := Tryz.sizeOf9
  v9 := Tryz.zeroValue9
  t37 := Tryz.underlying79
  a37 := Tryz.isAgg79
  z37 := Tryz.sizeOf79
  v37 := Tryz.zeroValue79
  t70 := Tryz.underlying141
  a70 := Tryz.isAgg141
  z70 := Tryz.sizeOf141
  v70 := Tryz.zeroValue141
  t72 := Tryz.underlying143
  a72 := Tryz.isAgg143
  z72 := Tryz.sizeOf143
  v72 := Tryz.zeroValue143
  t127 := Tryz.underlying178
  a127 := Tryz.isAgg178
  z127 := Tryz.sizeOf178
  v127 := Tryz.zeroValue178
theorem layStr_extra : Builder.Extra Tryz.prog layStr_ren where
  sizeBuilder := by kernel_rfl
  liesBuilder := by kernel_rfl
  t5 := Tryz.underlying5
  a5 := Tryz.isAgg5
  z5 := Tryz.sizeOf5
  v5 := Tryz.zeroValue5
  infoByte := by kernel_rfl
  cellsByte := by kernel_rfl
  sizeByte := by kernel_rfl
  neB5 := by decide
theorem ckF {i j : Nat} {H : Hp} {n : Nat} {s : SO} {v : SV} (hg : H.get i = some ⟨true, .sv [.v (.pointer none), v]⟩) (hj : H.get j = some s) (hs : s.b = .mp (.shp i 143 (some 2))) :
    SpecAt Tryz.prog 111 [.ptr i 0] H n (.tup []) (H.put i ⟨true, .sv [.ptr i 0, v]⟩) n :=
  ck_fresh_S layCk layCk_extra (o := 0) hg rfl hj hs (by decide) layCk_extra.liesBuilder rfl
theorem ckU {i : Nat} {H : Hp} {n : Nat} {s : SO} {v : SV} (hg : H.get i = some s) (hs : s.b = .sv [.ptr i 0, v]) :
    SpecAt Tryz.prog 111 [.ptr i 0] H n (.tup []) H n :=
  ck_used_S layCk layCk_extra (o := 0) hg hs rfl
theorem strS {i r k q : Nat} {H : Hp} {n : Nat} {s t : SO} {v : SV} {bs : List Int} (hg : H.get i = some s) (hb : s.b = .sv [v, .sl r 0 k 1]) (hr : H.get r = some ⟨true, .ints .u8 bs⟩) (hk : k = bs.length) (hk0 : k ≠ 0) (hk1 : k ≤ 9223372036854775807)
    (hq : H.get q = some t) (ht : t.b = .mp (.shp r 5 none)) (hby : ∀ y ∈ bs, 0 ≤ y ∧ y ≤ 255) : SpecAt Tryz.prog 80 [.ptr i 0] H n (.v (.string (tx bs))) (H.put r ⟨false, .ints .u8 bs⟩) n :=
  str_some_S layStr layStr_extra (o := 0) hg hb rfl hr hk hk0 hk1 hq ht hby
end Go.Proofs

/- Trees, at this program. -/
set_option linter.unusedVariables false
set_option linter.unusedSimpArgs false
set_option maxRecDepth 100000
namespace Go.Sx
open Go.Proofs
variable {H : Hp} {n : Nat} {x : Nat → Option SO}
theorem sub_wr {π : List (Nat × Nat)} {j i : Nat} {o : SO} (hr : rn π j = i) (hi : 0 < i) (h1 : i < 1000) {b : Body} (hg : H.get i = some ⟨true, b⟩) (hb : b = o.b.ren π) : objSub π H j o := by
  unfold objSub
  rw [hr, if_neg (by omega), hg]
  exact ⟨fun _ => h1, fun _ => rfl, hb⟩
theorem sub_ro {π : List (Nat × Nat)} {j i : Nat} {b0 : Body} (hr : rn π j = i) (hi : 0 < i) {s : SO} (hg : H.get i = some s) (hb : s.b = b0.ren π) : objSub π H j ⟨false, b0⟩ := by
  unfold objSub
  rw [hr, if_neg (by omega), hg]
  exact ⟨fun h => (by cases h), fun h => (by cases h), hb⟩
variable {H : Hp} {n : Nat} {x : Nat → Option SO}
theorem seq_self (s : ByteArray) : seq s s = true := by unfold seq; simp
variable {H : Hp} {n : Nat} {x : Nat → Option SO}
theorem nilK_of {i m : Nat} {T S : Prop} {s : SO} (hi : i ≠ 0) (hg : H.get i = some s) (hT : m = 0 → s.b.cells = [] → T) (hS : S) : nilK H i m T S := by
  unfold nilK
  rw [if_neg hi, hg]
  exact ⟨hT, hS⟩
variable {H : Hp} {n : Nat} {x : Nat → Option SO}
end Go.Sx

/- Trees, at this program. -/
set_option linter.unusedVariables false
set_option linter.unusedSimpArgs false
set_option maxRecDepth 100000
namespace Go.Sx
attribute [local go_sem ↓] bind_mk intsB_mk strsB_mk svB_mk fnVC ob_some vc_skip vc_exit vc_ret vc_seq vc_block kSeq_normal kSeq_exit kSeq_ret kBlock_normal kBlock_exit kBlock_ret vc_reg vc_regD vc_cond condK_true condK_false vc_loop kLoop_exit kLoop_ret kRoll_normal kRoll_exit kRoll_ret vcOps_nil vcOps_cons gd_bool gd_undef put_some put_none vcT_fin vcT_pure vcT_act vcT_acts vcT_stop stab_none stab_some stabM_nil stabM_cons stabO_ld stabO_ldn stabO_slP stabO_b2s fldOf_ai fldOf_agg fldOf_ait fldOf_aggt intsOf_nil intsOf_cons strsOf_nil strsOf_cons c_omap ob_if lk_nil lk_cons ev_t ev_k z_mov z_pick z_bin z_binA z_binB z_binP z_un z_r2s z_conv z_s2b z_b2s z_mkM z_luM z_upM z_lenM lenMk_mp lenMk_nil plsOf_v z_delM asM_so plV_v plV_agg mpOf_mp mpOf_nil mpUp_mp asM_mp luV_ok luV_v z_allocT aggOf_mk z_boxT z_alloc z_bld z_bldI z_rowI z_rowS z_ld z_ldn z_st z_stn asN_ptr asN_fn z_nilck z_fld z_fadr z_idxA z_idxP z_idxS z_idxV z_slS z_slL z_slP z_mk z_lenS z_lenL z_app appC_ints appC_pl appC_sv appC_strs isS_strs loose_ints loose_pl loose_sv z_slM z_callv callvK_fn callvK_f callvK_yl vc_rangeF rfEnd_eq rfGo_none rfGo_ret rfGo_exit yGo_mk yEnd_n yEnd_r yEnd_e yRdy_mk yMid_n putPs_nil putPs_cons leaf_v leaf_ptr leaf_sl leaf_yl leaf_mp z_appS z_appST z_appZ z_cpyS z_mkfn reps_int reps_str z_rowV z_slnil nilK_zero z_cpy z_call asT_tup z_extT z_box boxOf_ai boxOf_agg boxOf_int boxOf_str boxOf_bool boxOf_ptr boxOf_sl sbin_int sbin_str sbinA_mk ae_nil ae_int ae_str sbinB_mk sbinP_nn sbinP_pn sbinP_np i_add i_sub i_mul i_quo i_rem i_and i_or i_xor i_andNot i_shl i_shr i_eql i_neq i_lss i_leq i_gtr i_geq st_add st_eql st_neq st_lss st_leq st_gtr st_geq bo_eql bo_neq pt_eql pt_neq un_neg un_xor un_not asI_mk asB_mk asS_mk asP_mk asSl_mk asBy_mk bnd_none bnd_some get_mk hput_mk hdel_mk kill_eq wrOf_eq rowOf_eq rsvs_0 rsvs_1 rsvs_2 rsvs_3 rsv_t rsv_c1 rsv_cn nt_v nt_ptr nt_sl nt_agg nt_ai get_ints get_strs get_pl get_sv getN_ints getN_sv set_ints set_strs set_sv setN_ints setN_sv part_ints part_strs part_sv cat_ints cat_strs cat_sv over_ints over_strs over_sv ones_ints ones_strs evs_nil evs_cons condK_eqt condK_eqf det_callP V_ns V_nn V_gs V_gn obC_mk fresh_ev freshT_ev freshR_ev setN_plagg setN_intsv setN_svai setN_svagg over_intsv set_pl setN_pl setN_plai getN_pl getN_strs part_pl cat_pl over_pl over_plints z_mm
attribute [local go_sem] initTm ne_eq not_true_eq_false not_false_eq_true true_and and_true List.length_cons List.length_nil Int.toNat_natCast Nat.add_zero Nat.zero_add Nat.mul_one List.getElem?_cons_zero List.drop_zero List.take_length List.take_succ_cons List.take_zero List.take_nil List.drop_succ_cons Option.map_some Nat.le_refl implies_true List.getElem?_cons_succ decide_true decide_false Bool.not_true Bool.not_false beq_self_eq_true Nat.succ_ne_self Nat.one_ne_zero Nat.zero_ne_one vk_mk hk_mk nk_mk tok_eq plsOf_map intsOf_map bodyOf_pl bodyOf_ints bodyOf_strs bodyOf_sv part_aggv part_agg part_ai part_int part_str part_bool part_sl part_ptr part_nil numsOf_map u_int u_str u_bool u_pnil u_sl u_ptr u_oci u_ocs evq_nil evq_cons fillS_nil fillS_cons u_ocb ones_pl cells_sv cells_ints cells_strs cells_pl smms_nil smms_cons smm_min smm_max plsOf_nil List.nil_append List.all_cons List.all_nil Bool.and_self Bool.true_and Bool.and_true zws_len zw_len zi_len List.set_cons_zero List.set_cons_succ List.flatMap_cons List.flatMap_nil List.append_nil
attribute [local go_sem_proc] Nat.reduceEqDiff Nat.reduceAdd Nat.reduceMul Nat.reduceLT Nat.reduceLeDiff Nat.reduceSub Int.reduceToNat Int.reduceLE Int.reduceLT reduceCtorEq Int.reduceEq Int.reduceGT Int.reduceGE Int.reduceNeg
attribute [local go_sem_proc ↓] reduceIte
section
open Go.Proofs
variable {H : Hp} {n : Nat} {x : Nat → Option SO}
def be (y k : Nat) : List Int := (List.range k).map fun j => ((y / 256 ^ (k - 1 - j) % 256 : Nat) : Int)
theorem be_len {y k : Nat} : (be y k).length = k := by simp [be]
theorem be_get {y k j : Nat} (h : j < k) : (be y k)[j]? = some ((y / 256 ^ (k - 1 - j) % 256 : Nat) : Int) := by
  unfold be; rw [List.getElem?_map, List.getElem?_range h]; rfl
def wrO (r : Nat) (l : Nat) (bad : Bool) : SO := ⟨true, .sv [.sl r 0 l 1, .v (.bool bad)]⟩
theorem ishr_i {y s : Nat} (hs : s ≤ 64) : ishr .i64 (y : Int) (s : Nat) = ((y / 2 ^ s : Nat) : Int) := by
  unfold ishr
  have hm : min ((s : Nat) : Int).toNat IntKind.i64.bits = s := by show min ((s : Nat) : Int).toNat 64 = s; omega
  rw [hm, Int.fdiv_eq_ediv_of_nonneg _ (Int.le_of_lt (Int.pow_pos (by decide)))]
  push_cast
  rfl
theorem pow256 (c : Nat) : 2 ^ (8 * c) = 256 ^ c := by rw [Nat.pow_mul]
theorem wNumW {y k : Nat} {bs : List Int} {bad : Bool} (hk : k ≤ 8) (hy : y < 9223372036854775808) (hf : k < 8 → y < 256 ^ k) (hb : bs.length ≤ 1099511627776) :
    fnVC CT mWNumber [.ptr 1 0, .v (.int .i64 y), .v (.int .i64 k)] ⟨[(1, some (wrO 2 bs.length bad)), (2, some ⟨true, .ints .u8 bs⟩)], x⟩ 3 fun v H' n' => Sub 3 ⟨[(0, .tup [])], ⟨[(1, some (wrO 3 (bs ++ be y k).length bad)), (2, none), (3, some ⟨true, .ints .u8 (bs ++ be y k)⟩)], x⟩, 4⟩ ⟨[(0, v)], H', n'⟩ := by
  unfold mWNumber wrO
  have g1 : decide ((y : Int) < 0) = false := decide_eq_false (by omega)
  have w1 : IntKind.i64.wrap (8 * (k : Int)) = ((8 * k : Nat) : Int) := by rw [wrap_i64 (by omega) (by omega)]; omega
  have s1 : ishr .i64 (y : Int) ((8 * k : Nat) : Int) = ((y / 256 ^ k : Nat) : Int) := by rw [ishr_i (by omega), pow256]
  have w2 : IntKind.i64.wrap ((k : Int) - 1) = (k : Int) - 1 := wrap_i64 (by omega) (by omega)
  have hz : k < 8 → decide (((y / 256 ^ k : Nat) : Int) = 0) = true := fun h => decide_eq_true (by rw [Nat.div_eq_of_lt (hf h)]; rfl)
  simp -implicitDefEqProofs only [↓fnVC, initTm]
  simp -implicitDefEqProofs only [go_sem, g1]
  refine condK_bb (fun c => ?_) (fun c => ?_)
  · have h1 := hz (by have := of_decide_eq_true c; omega)
    simp -implicitDefEqProofs only [go_sem, c, w1, s1, h1]
    refine ⟨by omega, ?_⟩
    refine loop_fam (fun (c : Nat) => c ≤ k) (fun c => ⟨[(0, .ptr 1 0), (1, .v (.int .i64 y)), (2, .v (.int .i64 ((c : Int) - 1)))], ⟨[(1, some ⟨true, .sv [.sl 3 0 (bs ++ (be y k).take (k - c)).length 1, .v (.bool bad)]⟩), (3, some ⟨true, .ints .u8 (bs ++ (be y k).take (k - c))⟩)], x⟩, 4⟩) (fun c => c) k (Nat.le_refl _) ?_ ?_
    · refine sub_mk [(3, 2)] rfl rfl rfl ?_
      simp only [tmSub, hpSub, objSub, eqTm, eqHp, rn, lk, SV.ren, SV.renC, SV.renB, SV.renA, ren_ints, ren_strs, ren_pl, ren_svs, SV.v.injEq, Value.int.injEq, Body.ints.injEq, SV.ptr.injEq, SV.sl.injEq, Value.string.injEq, Value.bool.injEq, List.map_cons, List.map_nil, forall_const, Nat.reduceLT, Nat.lt_add_one, imp_self, true_and, and_true, and_self, ob_some, get_mk, lk_cons, ↓reduceIte, Nat.reduceEqDiff, ne_eq, not_true_eq_false, not_false_eq_true, Nat.one_ne_zero, Nat.zero_ne_one, Nat.succ_ne_self, Nat.reduceAdd, Bool.false_eq_true, false_implies, implies_true, reduceCtorEq, w2, Nat.sub_self, List.take_zero, List.append_nil]
    · intro c hc
      simp -implicitDefEqProofs only [go_sem]
      refine condK_bb (fun d => ?_) (fun d => ?_)
      · have d1 : 1 ≤ c := by have := of_decide_eq_true d; omega
        have w3 : IntKind.i64.wrap (8 * ((c : Int) - 1)) = ((8 * (c - 1) : Nat) : Int) := by rw [wrap_i64 (by omega) (by omega)]; omega
        have s2 : ishr .i64 (y : Int) ((8 * (c - 1) : Nat) : Int) = ((y / 256 ^ (c - 1) : Nat) : Int) := by rw [ishr_i (by omega), pow256]
        have w4 : IntKind.u8.wrap ((y / 256 ^ (c - 1) : Nat) : Int) = ((y / 256 ^ (c - 1) % 256 : Nat) : Int) := by rw [wrap_u8]; omega
        have w5 : IntKind.i64.wrap ((c : Int) - 1 - 1) = ((c - 1 : Nat) : Int) - 1 := by rw [wrap_i64 (by omega) (by omega)]; omega
        have ht : bs ++ (be y k).take (k - (c - 1)) = (bs ++ (be y k).take (k - c)) ++ [((y / 256 ^ (c - 1) % 256 : Nat) : Int)] := by
          rw [show k - (c - 1) = (k - c) + 1 by omega, List.take_add_one, be_get (by omega), show k - 1 - (k - c) = c - 1 by omega, List.append_assoc]; rfl
        have hlen : (bs ++ (be y k).take (k - c)).length ≤ 1099511627784 := by rw [List.length_append, List.length_take]; omega
        generalize bs ++ (be y k).take (k - c) = cur at hlen ht
        simp -implicitDefEqProofs only [go_sem, d, w3, s2, w4, w5]
        refine ⟨by omega, by omega, by omega, ?_⟩
        refine kLoop_mk (c - 1) (by omega) (by omega) ?_
        refine sub_mk [(3, 5)] rfl rfl rfl ?_
        simp only [tmSub, hpSub, objSub, eqTm, eqHp, rn, lk, SV.ren, SV.renC, SV.renB, SV.renA, ren_ints, ren_strs, ren_pl, ren_svs, SV.v.injEq, Value.int.injEq, Body.ints.injEq, SV.ptr.injEq, SV.sl.injEq, Value.string.injEq, Value.bool.injEq, List.map_cons, List.map_nil, forall_const, Nat.reduceLT, Nat.lt_add_one, imp_self, true_and, and_true, and_self, ob_some, get_mk, lk_cons, ↓reduceIte, Nat.reduceEqDiff, ne_eq, not_true_eq_false, not_false_eq_true, Nat.one_ne_zero, Nat.zero_ne_one, Nat.succ_ne_self, Nat.reduceAdd, Bool.false_eq_true, false_implies, implies_true, reduceCtorEq, w5, ht, List.length_append, List.length_singleton]
      · have d1 : c = 0 := by have := of_decide_eq_false d; omega
        subst d1
        have ht : (be y k).take (k - 0) = be y k := List.take_of_length_le (by rw [be_len]; exact Nat.le_refl _)
        simp -implicitDefEqProofs only [go_sem, d, ht]
        refine sub_mk [] rfl rfl rfl ?_
        simp only [tmSub, hpSub, objSub, eqTm, eqHp, rn, lk, SV.ren, SV.renC, SV.renB, SV.renA, ren_ints, ren_strs, ren_pl, ren_svs, SV.v.injEq, Value.int.injEq, Body.ints.injEq, SV.ptr.injEq, SV.sl.injEq, Value.string.injEq, Value.bool.injEq, List.map_cons, List.map_nil, forall_const, Nat.reduceLT, Nat.lt_add_one, imp_self, true_and, and_true, and_self, ob_some, get_mk, lk_cons, ↓reduceIte, Nat.reduceEqDiff, ne_eq, not_true_eq_false, not_false_eq_true, Nat.one_ne_zero, Nat.zero_ne_one, Nat.succ_ne_self, Nat.reduceAdd, Bool.false_eq_true, false_implies, implies_true, reduceCtorEq]
  · simp -implicitDefEqProofs only [go_sem, c, w1, s1]
    refine loop_fam (fun (c : Nat) => c ≤ k) (fun c => ⟨[(0, .ptr 1 0), (1, .v (.int .i64 y)), (2, .v (.int .i64 ((c : Int) - 1)))], ⟨[(1, some ⟨true, .sv [.sl 3 0 (bs ++ (be y k).take (k - c)).length 1, .v (.bool bad)]⟩), (3, some ⟨true, .ints .u8 (bs ++ (be y k).take (k - c))⟩)], x⟩, 4⟩) (fun c => c) k (Nat.le_refl _) ?_ ?_
    · refine sub_mk [(3, 2)] rfl rfl rfl ?_
      simp only [tmSub, hpSub, objSub, eqTm, eqHp, rn, lk, SV.ren, SV.renC, SV.renB, SV.renA, ren_ints, ren_strs, ren_pl, ren_svs, SV.v.injEq, Value.int.injEq, Body.ints.injEq, SV.ptr.injEq, SV.sl.injEq, Value.string.injEq, Value.bool.injEq, List.map_cons, List.map_nil, forall_const, Nat.reduceLT, Nat.lt_add_one, imp_self, true_and, and_true, and_self, ob_some, get_mk, lk_cons, ↓reduceIte, Nat.reduceEqDiff, ne_eq, not_true_eq_false, not_false_eq_true, Nat.one_ne_zero, Nat.zero_ne_one, Nat.succ_ne_self, Nat.reduceAdd, Bool.false_eq_true, false_implies, implies_true, reduceCtorEq, w2, Nat.sub_self, List.take_zero, List.append_nil]
    · intro c hc
      simp -implicitDefEqProofs only [go_sem]
      refine condK_bb (fun d => ?_) (fun d => ?_)
      · have d1 : 1 ≤ c := by have := of_decide_eq_true d; omega
        have w3 : IntKind.i64.wrap (8 * ((c : Int) - 1)) = ((8 * (c - 1) : Nat) : Int) := by rw [wrap_i64 (by omega) (by omega)]; omega
        have s2 : ishr .i64 (y : Int) ((8 * (c - 1) : Nat) : Int) = ((y / 256 ^ (c - 1) : Nat) : Int) := by rw [ishr_i (by omega), pow256]
        have w4 : IntKind.u8.wrap ((y / 256 ^ (c - 1) : Nat) : Int) = ((y / 256 ^ (c - 1) % 256 : Nat) : Int) := by rw [wrap_u8]; omega
        have w5 : IntKind.i64.wrap ((c : Int) - 1 - 1) = ((c - 1 : Nat) : Int) - 1 := by rw [wrap_i64 (by omega) (by omega)]; omega
        have ht : bs ++ (be y k).take (k - (c - 1)) = (bs ++ (be y k).take (k - c)) ++ [((y / 256 ^ (c - 1) % 256 : Nat) : Int)] := by
          rw [show k - (c - 1) = (k - c) + 1 by omega, List.take_add_one, be_get (by omega), show k - 1 - (k - c) = c - 1 by omega, List.append_assoc]; rfl
        have hlen : (bs ++ (be y k).take (k - c)).length ≤ 1099511627784 := by rw [List.length_append, List.length_take]; omega
        generalize bs ++ (be y k).take (k - c) = cur at hlen ht
        simp -implicitDefEqProofs only [go_sem, d, w3, s2, w4, w5]
        refine ⟨by omega, by omega, by omega, ?_⟩
        refine kLoop_mk (c - 1) (by omega) (by omega) ?_
        refine sub_mk [(3, 5)] rfl rfl rfl ?_
        simp only [tmSub, hpSub, objSub, eqTm, eqHp, rn, lk, SV.ren, SV.renC, SV.renB, SV.renA, ren_ints, ren_strs, ren_pl, ren_svs, SV.v.injEq, Value.int.injEq, Body.ints.injEq, SV.ptr.injEq, SV.sl.injEq, Value.string.injEq, Value.bool.injEq, List.map_cons, List.map_nil, forall_const, Nat.reduceLT, Nat.lt_add_one, imp_self, true_and, and_true, and_self, ob_some, get_mk, lk_cons, ↓reduceIte, Nat.reduceEqDiff, ne_eq, not_true_eq_false, not_false_eq_true, Nat.one_ne_zero, Nat.zero_ne_one, Nat.succ_ne_self, Nat.reduceAdd, Bool.false_eq_true, false_implies, implies_true, reduceCtorEq, w5, ht, List.length_append, List.length_singleton]
      · have d1 : c = 0 := by have := of_decide_eq_false d; omega
        subst d1
        have ht : (be y k).take (k - 0) = be y k := List.take_of_length_le (by rw [be_len]; exact Nat.le_refl _)
        simp -implicitDefEqProofs only [go_sem, d, ht]
        refine sub_mk [] rfl rfl rfl ?_
        simp only [tmSub, hpSub, objSub, eqTm, eqHp, rn, lk, SV.ren, SV.renC, SV.renB, SV.renA, ren_ints, ren_strs, ren_pl, ren_svs, SV.v.injEq, Value.int.injEq, Body.ints.injEq, SV.ptr.injEq, SV.sl.injEq, Value.string.injEq, Value.bool.injEq, List.map_cons, List.map_nil, forall_const, Nat.reduceLT, Nat.lt_add_one, imp_self, true_and, and_true, and_self, ob_some, get_mk, lk_cons, ↓reduceIte, Nat.reduceEqDiff, ne_eq, not_true_eq_false, not_false_eq_true, Nat.one_ne_zero, Nat.zero_ne_one, Nat.succ_ne_self, Nat.reduceAdd, Bool.false_eq_true, false_implies, implies_true, reduceCtorEq]
theorem wNum0W {y k : Nat} {bs : List Int} {bad : Bool} (hk : k ≤ 8) (hy : y < 9223372036854775808) (hf : k < 8 → y < 256 ^ k) (hb : bs.length ≤ 1099511627776) (h0 : bs = []) :
    fnVC CT mWNumber [.ptr 1 0, .v (.int .i64 y), .v (.int .i64 k)] ⟨[(1, some ⟨true, .sv [.sl 0 0 0 1, .v (.bool bad)]⟩)], x⟩ 2 fun v H' n' => Sub 2 ⟨[(0, .tup [])], ⟨[(1, some (wrO 2 (be y k).length bad)), (2, some ⟨true, .ints .u8 (be y k)⟩)], x⟩, 3⟩ ⟨[(0, v)], H', n'⟩ := by
  unfold mWNumber wrO
  have g1 : decide ((y : Int) < 0) = false := decide_eq_false (by omega)
  have w1 : IntKind.i64.wrap (8 * (k : Int)) = ((8 * k : Nat) : Int) := by rw [wrap_i64 (by omega) (by omega)]; omega
  have s1 : ishr .i64 (y : Int) ((8 * k : Nat) : Int) = ((y / 256 ^ k : Nat) : Int) := by rw [ishr_i (by omega), pow256]
  have w2 : IntKind.i64.wrap ((k : Int) - 1) = (k : Int) - 1 := wrap_i64 (by omega) (by omega)
  have hz : k < 8 → decide (((y / 256 ^ k : Nat) : Int) = 0) = true := fun h => decide_eq_true (by rw [Nat.div_eq_of_lt (hf h)]; rfl)
  simp -implicitDefEqProofs only [↓fnVC, initTm]
  simp -implicitDefEqProofs only [go_sem, g1]
  refine condK_bb (fun c => ?_) (fun c => ?_)
  · have h1 := hz (by have := of_decide_eq_true c; omega)
    simp -implicitDefEqProofs only [go_sem, c, w1, s1, h1]
    refine ⟨by omega, ?_⟩
    refine loop_fam (fun (c : Nat) => c ≤ k) (fun c => ⟨[(0, .ptr 1 0), (1, .v (.int .i64 y)), (2, .v (.int .i64 ((c : Int) - 1)))], ⟨[(1, some ⟨true, .sv [.sl 2 0 (bs ++ (be y k).take (k - c)).length 1, .v (.bool bad)]⟩), (2, some ⟨true, .ints .u8 (bs ++ (be y k).take (k - c))⟩)], x⟩, 3⟩) (fun c => c) k (Nat.le_refl _) ?_ ?_
    · subst h0
      refine sub_mk [(2, 0)] rfl rfl rfl ?_
      simp only [tmSub, hpSub, objSub, eqTm, eqHp, rn, lk, SV.ren, SV.renC, SV.renB, SV.renA, ren_ints, ren_strs, ren_pl, ren_svs, SV.v.injEq, Value.int.injEq, Body.ints.injEq, SV.ptr.injEq, SV.sl.injEq, Value.string.injEq, Value.bool.injEq, List.map_cons, List.map_nil, forall_const, Nat.reduceLT, Nat.lt_add_one, imp_self, true_and, and_true, and_self, ob_some, get_mk, lk_cons, ↓reduceIte, Nat.reduceEqDiff, ne_eq, not_true_eq_false, not_false_eq_true, Nat.one_ne_zero, Nat.zero_ne_one, Nat.succ_ne_self, Nat.reduceAdd, Bool.false_eq_true, false_implies, implies_true, reduceCtorEq, w2, Nat.sub_self, List.take_zero, List.append_nil, List.length_nil]
      rfl
    · intro c hc
      simp -implicitDefEqProofs only [go_sem]
      refine condK_bb (fun d => ?_) (fun d => ?_)
      · have d1 : 1 ≤ c := by have := of_decide_eq_true d; omega
        have w3 : IntKind.i64.wrap (8 * ((c : Int) - 1)) = ((8 * (c - 1) : Nat) : Int) := by rw [wrap_i64 (by omega) (by omega)]; omega
        have s2 : ishr .i64 (y : Int) ((8 * (c - 1) : Nat) : Int) = ((y / 256 ^ (c - 1) : Nat) : Int) := by rw [ishr_i (by omega), pow256]
        have w4 : IntKind.u8.wrap ((y / 256 ^ (c - 1) : Nat) : Int) = ((y / 256 ^ (c - 1) % 256 : Nat) : Int) := by rw [wrap_u8]; omega
        have w5 : IntKind.i64.wrap ((c : Int) - 1 - 1) = ((c - 1 : Nat) : Int) - 1 := by rw [wrap_i64 (by omega) (by omega)]; omega
        have ht : bs ++ (be y k).take (k - (c - 1)) = (bs ++ (be y k).take (k - c)) ++ [((y / 256 ^ (c - 1) % 256 : Nat) : Int)] := by
          rw [show k - (c - 1) = (k - c) + 1 by omega, List.take_add_one, be_get (by omega), show k - 1 - (k - c) = c - 1 by omega, List.append_assoc]; rfl
        have hlen : (bs ++ (be y k).take (k - c)).length ≤ 1099511627784 := by rw [List.length_append, List.length_take]; omega
        generalize bs ++ (be y k).take (k - c) = cur at hlen ht
        simp -implicitDefEqProofs only [go_sem, d, w3, s2, w4, w5]
        refine ⟨by omega, by omega, by omega, ?_⟩
        refine kLoop_mk (c - 1) (by omega) (by omega) ?_
        refine sub_mk [(2, 4)] rfl rfl rfl ?_
        simp only [tmSub, hpSub, objSub, eqTm, eqHp, rn, lk, SV.ren, SV.renC, SV.renB, SV.renA, ren_ints, ren_strs, ren_pl, ren_svs, SV.v.injEq, Value.int.injEq, Body.ints.injEq, SV.ptr.injEq, SV.sl.injEq, Value.string.injEq, Value.bool.injEq, List.map_cons, List.map_nil, forall_const, Nat.reduceLT, Nat.lt_add_one, imp_self, true_and, and_true, and_self, ob_some, get_mk, lk_cons, ↓reduceIte, Nat.reduceEqDiff, ne_eq, not_true_eq_false, not_false_eq_true, Nat.one_ne_zero, Nat.zero_ne_one, Nat.succ_ne_self, Nat.reduceAdd, Bool.false_eq_true, false_implies, implies_true, reduceCtorEq, w5, ht, List.length_append, List.length_singleton]
      · have d1 : c = 0 := by have := of_decide_eq_false d; omega
        subst d1
        have ht : (be y k).take (k - 0) = be y k := List.take_of_length_le (by rw [be_len]; exact Nat.le_refl _)
        simp -implicitDefEqProofs only [go_sem, d, ht]
        refine sub_mk [] rfl rfl rfl ?_
        simp only [tmSub, hpSub, objSub, eqTm, eqHp, rn, lk, SV.ren, SV.renC, SV.renB, SV.renA, ren_ints, ren_strs, ren_pl, ren_svs, SV.v.injEq, Value.int.injEq, Body.ints.injEq, SV.ptr.injEq, SV.sl.injEq, Value.string.injEq, Value.bool.injEq, List.map_cons, List.map_nil, forall_const, Nat.reduceLT, Nat.lt_add_one, imp_self, true_and, and_true, and_self, ob_some, get_mk, lk_cons, ↓reduceIte, Nat.reduceEqDiff, ne_eq, not_true_eq_false, not_false_eq_true, Nat.one_ne_zero, Nat.zero_ne_one, Nat.succ_ne_self, Nat.reduceAdd, Bool.false_eq_true, false_implies, implies_true, reduceCtorEq, h0, List.nil_append]
  · simp -implicitDefEqProofs only [go_sem, c, w1, s1]
    refine loop_fam (fun (c : Nat) => c ≤ k) (fun c => ⟨[(0, .ptr 1 0), (1, .v (.int .i64 y)), (2, .v (.int .i64 ((c : Int) - 1)))], ⟨[(1, some ⟨true, .sv [.sl 2 0 (bs ++ (be y k).take (k - c)).length 1, .v (.bool bad)]⟩), (2, some ⟨true, .ints .u8 (bs ++ (be y k).take (k - c))⟩)], x⟩, 3⟩) (fun c => c) k (Nat.le_refl _) ?_ ?_
    · subst h0
      refine sub_mk [(2, 0)] rfl rfl rfl ?_
      simp only [tmSub, hpSub, objSub, eqTm, eqHp, rn, lk, SV.ren, SV.renC, SV.renB, SV.renA, ren_ints, ren_strs, ren_pl, ren_svs, SV.v.injEq, Value.int.injEq, Body.ints.injEq, SV.ptr.injEq, SV.sl.injEq, Value.string.injEq, Value.bool.injEq, List.map_cons, List.map_nil, forall_const, Nat.reduceLT, Nat.lt_add_one, imp_self, true_and, and_true, and_self, ob_some, get_mk, lk_cons, ↓reduceIte, Nat.reduceEqDiff, ne_eq, not_true_eq_false, not_false_eq_true, Nat.one_ne_zero, Nat.zero_ne_one, Nat.succ_ne_self, Nat.reduceAdd, Bool.false_eq_true, false_implies, implies_true, reduceCtorEq, w2, Nat.sub_self, List.take_zero, List.append_nil, List.length_nil]
      rfl
    · intro c hc
      simp -implicitDefEqProofs only [go_sem]
      refine condK_bb (fun d => ?_) (fun d => ?_)
      · have d1 : 1 ≤ c := by have := of_decide_eq_true d; omega
        have w3 : IntKind.i64.wrap (8 * ((c : Int) - 1)) = ((8 * (c - 1) : Nat) : Int) := by rw [wrap_i64 (by omega) (by omega)]; omega
        have s2 : ishr .i64 (y : Int) ((8 * (c - 1) : Nat) : Int) = ((y / 256 ^ (c - 1) : Nat) : Int) := by rw [ishr_i (by omega), pow256]
        have w4 : IntKind.u8.wrap ((y / 256 ^ (c - 1) : Nat) : Int) = ((y / 256 ^ (c - 1) % 256 : Nat) : Int) := by rw [wrap_u8]; omega
        have w5 : IntKind.i64.wrap ((c : Int) - 1 - 1) = ((c - 1 : Nat) : Int) - 1 := by rw [wrap_i64 (by omega) (by omega)]; omega
        have ht : bs ++ (be y k).take (k - (c - 1)) = (bs ++ (be y k).take (k - c)) ++ [((y / 256 ^ (c - 1) % 256 : Nat) : Int)] := by
          rw [show k - (c - 1) = (k - c) + 1 by omega, List.take_add_one, be_get (by omega), show k - 1 - (k - c) = c - 1 by omega, List.append_assoc]; rfl
        have hlen : (bs ++ (be y k).take (k - c)).length ≤ 1099511627784 := by rw [List.length_append, List.length_take]; omega
        generalize bs ++ (be y k).take (k - c) = cur at hlen ht
        simp -implicitDefEqProofs only [go_sem, d, w3, s2, w4, w5]
        refine ⟨by omega, by omega, by omega, ?_⟩
        refine kLoop_mk (c - 1) (by omega) (by omega) ?_
        refine sub_mk [(2, 4)] rfl rfl rfl ?_
        simp only [tmSub, hpSub, objSub, eqTm, eqHp, rn, lk, SV.ren, SV.renC, SV.renB, SV.renA, ren_ints, ren_strs, ren_pl, ren_svs, SV.v.injEq, Value.int.injEq, Body.ints.injEq, SV.ptr.injEq, SV.sl.injEq, Value.string.injEq, Value.bool.injEq, List.map_cons, List.map_nil, forall_const, Nat.reduceLT, Nat.lt_add_one, imp_self, true_and, and_true, and_self, ob_some, get_mk, lk_cons, ↓reduceIte, Nat.reduceEqDiff, ne_eq, not_true_eq_false, not_false_eq_true, Nat.one_ne_zero, Nat.zero_ne_one, Nat.succ_ne_self, Nat.reduceAdd, Bool.false_eq_true, false_implies, implies_true, reduceCtorEq, w5, ht, List.length_append, List.length_singleton]
      · have d1 : c = 0 := by have := of_decide_eq_false d; omega
        subst d1
        have ht : (be y k).take (k - 0) = be y k := List.take_of_length_le (by rw [be_len]; exact Nat.le_refl _)
        simp -implicitDefEqProofs only [go_sem, d, ht]
        refine sub_mk [] rfl rfl rfl ?_
        simp only [tmSub, hpSub, objSub, eqTm, eqHp, rn, lk, SV.ren, SV.renC, SV.renB, SV.renA, ren_ints, ren_strs, ren_pl, ren_svs, SV.v.injEq, Value.int.injEq, Body.ints.injEq, SV.ptr.injEq, SV.sl.injEq, Value.string.injEq, Value.bool.injEq, List.map_cons, List.map_nil, forall_const, Nat.reduceLT, Nat.lt_add_one, imp_self, true_and, and_true, and_self, ob_some, get_mk, lk_cons, ↓reduceIte, Nat.reduceEqDiff, ne_eq, not_true_eq_false, not_false_eq_true, Nat.one_ne_zero, Nat.zero_ne_one, Nat.succ_ne_self, Nat.reduceAdd, Bool.false_eq_true, false_implies, implies_true, reduceCtorEq, h0, List.nil_append]
theorem wBytesS {r l i : Nat} {bs : List Int} {bad : Bool} (hg : H.get i = some (wrO r l bad)) (hr : H.get r = some ⟨true, .ints .u8 bs⟩) (hr0 : r ≠ 0) (hl : l = bs.length) :
    SpecAt Tryz.prog nWBytes [.ptr i 0] H n (if bad then .tup [.v (.string ⟨#[]⟩), .v (.int .i64 1)] else .tup [.v (.string (tx bs)), .v (.int .i64 0)]) H n := okT.pure tWBytes (by
  unfold mWBytes
  unfold wrO at hg
  simp -implicitDefEqProofs only [↓fnVC, initTm]
  cases bad with
  | true =>
    simp -implicitDefEqProofs only [go_sem, hg]
  | false =>
    simp -implicitDefEqProofs only [go_sem, hg, hr, hl]
    rw [if_neg hr0]; trivial)
variable {H : Hp} {n : Nat} {x : Nat → Option SO}
theorem wNumS {i r y k : Nat} {bs : List Int} {bad : Bool} (hg : H.get i = some (wrO r bs.length bad)) (hr : H.get r = some ⟨true, .ints .u8 bs⟩) (hi : 0 < i ∧ i < 1000) (hr1 : 0 < r ∧ r < 1000) (hne : i ≠ r) (hn : n + 1 ≤ 1000)
    (hk : k ≤ 8) (hy : y < 9223372036854775808) (hf : k < 8 → y < 256 ^ k) (hb : bs.length ≤ 1099511627776) :
    SpecAt Tryz.prog nWNumber [.ptr i 0, .v (.int .i64 y), .v (.int .i64 k)] H n (.tup []) ⟨(i, some (wrO n (bs ++ be y k).length bad)) :: (r, none) :: (n, some ⟨true, .ints .u8 (bs ++ be y k)⟩) :: H.l, H.x⟩ (n + 1) := by
  have := lift (n := n) (okT.spec tWNumber (wNumW (x := H.x) hk hy hf hb)) [(1, i), (2, r)] rfl rfl rfl (by omega) rfl rfl
    ⟨sub_wr rfl hi.1 hi.2 hg rfl, sub_wr rfl hr1.1 hr1.2 hr rfl, trivial⟩ (by simp [apartB, apart1, rn, lk, hne, Ne.symm hne]) (by simp [wrNZ, rn, lk]; omega) (by omega)
  exact this
theorem wNum0S {i y k : Nat} {bad : Bool} (hg : H.get i = some ⟨true, .sv [.sl 0 0 0 1, .v (.bool bad)]⟩) (hi : 0 < i ∧ i < 1000) (hn : n + 1 ≤ 1000)
    (hk : k ≤ 8) (hy : y < 9223372036854775808) (hf : k < 8 → y < 256 ^ k) :
    SpecAt Tryz.prog nWNumber [.ptr i 0, .v (.int .i64 y), .v (.int .i64 k)] H n (.tup []) ⟨(i, some (wrO n (be y k).length bad)) :: (n, some ⟨true, .ints .u8 (be y k)⟩) :: H.l, H.x⟩ (n + 1) := by
  have := lift (n := n) (okT.spec tWNumber (wNum0W (x := H.x) (bs := []) hk hy hf (by decide) rfl)) [(1, i)] rfl rfl rfl (by omega) rfl rfl
    ⟨sub_wr rfl hi.1 hi.2 hg rfl, trivial⟩ (by simp [apartB, apart1, rn, lk]) (by simp [wrNZ, rn, lk]; omega) (by omega)
  exact this
theorem be_bytes {y k : Nat} : ∀ b ∈ be y k, 0 ≤ b ∧ b ≤ 255 := by
  intro b hb
  obtain ⟨j, _, rfl⟩ := List.mem_map.1 hb
  omega
variable {H : Hp} {n : Nat} {x : Nat → Option SO}
variable {H : Hp} {n : Nat} {x : Nat → Option SO}
def rdO (s : ByteArray) (e : Int) : SO := ⟨true, .sv [.v (.string s), .v (.int .i64 e)]⟩
theorem readW {s : ByteArray} : fnVC CT mPRead [.v (.string s)] ⟨[], x⟩ 1 fun v H' n' => Sub 1 ⟨[(0, .ptr 1 0)], ⟨[(1, some (rdO s 0))], x⟩, 2⟩ ⟨[(0, v)], H', n'⟩ := by
  unfold mPRead rdO
  simp -implicitDefEqProofs only [↓fnVC, initTm]
  simp -implicitDefEqProofs only [go_sem]
  refine sub_mk [] rfl rfl rfl ?_
  simp only [tmSub, hpSub, objSub, eqTm, eqHp, rn, lk, SV.ren, SV.renC, SV.renB, SV.renA, ren_ints, ren_strs, ren_pl, ren_svs, SV.v.injEq, Value.int.injEq, Body.ints.injEq, SV.ptr.injEq, SV.sl.injEq, Value.string.injEq, Value.bool.injEq, List.map_cons, List.map_nil, forall_const, Nat.reduceLT, Nat.lt_add_one, imp_self, true_and, and_true, and_self, ob_some, get_mk, lk_cons, ↓reduceIte, Nat.reduceEqDiff, ne_eq, not_true_eq_false, not_false_eq_true, Nat.one_ne_zero, Nat.zero_ne_one, Nat.succ_ne_self, Nat.reduceAdd, Bool.false_eq_true, false_implies, implies_true, reduceCtorEq]
  rfl
theorem errS {s : ByteArray} {e : Int} {i : Nat} (hg : H.get i = some (rdO s e)) : SpecAt Tryz.prog nRErr [.ptr i 0] H n (.v (.int .i64 e)) H n := okT.pure tRErr (by
  unfold mRErr
  unfold rdO at hg
  simp -implicitDefEqProofs only [↓fnVC, initTm]
  simp -implicitDefEqProofs only [go_sem, hg])
def rawE (s : ByteArray) (e : Int) (k : Nat) : Int := if e ≠ 0 then e else if s.size < k then 2 else 0
def rawS (s : ByteArray) (e : Int) (k : Nat) : ByteArray := if e ≠ 0 ∨ s.size < k then s else s.extract k s.size
def rawT (s : ByteArray) (e : Int) (k : Nat) : ByteArray := if e ≠ 0 ∨ s.size < k then ⟨#[]⟩ else s.extract 0 k
theorem rawW {s : ByteArray} {e : Int} {k : Nat} (hk : k ≤ 1048576) : fnVC CT mRRaw [.ptr 1 0, .v (.int .i64 k)] ⟨[(1, some (rdO s e))], x⟩ 2 fun v H' n' => Sub 2 ⟨[(0, .v (.string (rawT s e k)))], ⟨[(1, some (rdO (rawS s e k) (rawE s e k)))], x⟩, 2⟩ ⟨[(0, v)], H', n'⟩ := by
  unfold mRRaw
  have g1 : decide ((k : Int) < 0) = false := decide_eq_false (by omega)
  simp -implicitDefEqProofs only [↓fnVC, initTm]
  simp -implicitDefEqProofs only [go_sem]
  refine at_call tRErr (errS (i := 1) (by rfl)) ?_
  by_cases he : e = 0
  · subst he
    have g0 : decide ((0 : Int) = 0) = true := rfl
    by_cases hs : s.size < k
    · have g2 : decide ((k : Int) > (s.size : Int)) = true := decide_eq_true (by omega)
      have r1 : rawT s 0 k = ⟨#[]⟩ := by unfold rawT; rw [if_pos (.inr hs)]
      have r2 : rawS s 0 k = s := by unfold rawS; rw [if_pos (.inr hs)]
      have r3 : rawE s 0 k = 2 := by unfold rawE; rw [if_neg (by simp), if_pos hs]
      simp -implicitDefEqProofs only [go_sem, g0, g1, g2, rdO]
      rw [r1, r2, r3]
      refine sub_mk [] rfl rfl rfl ?_
      simp only [tmSub, hpSub, objSub, eqTm, eqHp, rn, lk, SV.ren, SV.renC, SV.renB, SV.renA, ren_ints, ren_strs, ren_pl, ren_svs, SV.v.injEq, Value.int.injEq, Body.ints.injEq, SV.ptr.injEq, SV.sl.injEq, Value.string.injEq, Value.bool.injEq, List.map_cons, List.map_nil, forall_const, Nat.reduceLT, Nat.lt_add_one, imp_self, true_and, and_true, and_self, ob_some, get_mk, lk_cons, ↓reduceIte, Nat.reduceEqDiff, ne_eq, not_true_eq_false, not_false_eq_true, Nat.one_ne_zero, Nat.zero_ne_one, Nat.succ_ne_self, Nat.reduceAdd, Bool.false_eq_true, false_implies, implies_true, reduceCtorEq]
    · have g2 : decide ((k : Int) > (s.size : Int)) = false := decide_eq_false (by omega)
      have r1 : rawT s 0 k = s.extract 0 k := by unfold rawT; rw [if_neg (by simp; omega)]
      have r2 : rawS s 0 k = s.extract k s.size := by unfold rawS; rw [if_neg (by simp; omega)]
      have r3 : rawE s 0 k = 0 := by unfold rawE; rw [if_neg (by simp), if_neg hs]
      simp -implicitDefEqProofs only [go_sem, g0, g1, g2, rdO]
      rw [r1, r2, r3]
      refine ⟨⟨by omega, by omega⟩, ⟨by omega, by omega, by omega⟩, ?_⟩
      refine sub_mk [] rfl rfl rfl ?_
      simp only [tmSub, hpSub, objSub, eqTm, eqHp, rn, lk, SV.ren, SV.renC, SV.renB, SV.renA, ren_ints, ren_strs, ren_pl, ren_svs, SV.v.injEq, Value.int.injEq, Body.ints.injEq, SV.ptr.injEq, SV.sl.injEq, Value.string.injEq, Value.bool.injEq, List.map_cons, List.map_nil, forall_const, Nat.reduceLT, Nat.lt_add_one, imp_self, true_and, and_true, and_self, ob_some, get_mk, lk_cons, ↓reduceIte, Nat.reduceEqDiff, ne_eq, not_true_eq_false, not_false_eq_true, Nat.one_ne_zero, Nat.zero_ne_one, Nat.succ_ne_self, Nat.reduceAdd, Bool.false_eq_true, false_implies, implies_true, reduceCtorEq]
  · have g0 : decide (e = 0) = false := decide_eq_false he
    have r1 : rawT s e k = ⟨#[]⟩ := by unfold rawT; rw [if_pos (.inl he)]
    have r2 : rawS s e k = s := by unfold rawS; rw [if_pos (.inl he)]
    have r3 : rawE s e k = e := by unfold rawE; rw [if_pos he]
    simp -implicitDefEqProofs only [go_sem, g0, rdO]
    rw [r1, r2, r3]
    refine sub_mk [] rfl rfl rfl ?_
    simp only [tmSub, hpSub, objSub, eqTm, eqHp, rn, lk, SV.ren, SV.renC, SV.renB, SV.renA, ren_ints, ren_strs, ren_pl, ren_svs, SV.v.injEq, Value.int.injEq, Body.ints.injEq, SV.ptr.injEq, SV.sl.injEq, Value.string.injEq, Value.bool.injEq, List.map_cons, List.map_nil, forall_const, Nat.reduceLT, Nat.lt_add_one, imp_self, true_and, and_true, and_self, ob_some, get_mk, lk_cons, ↓reduceIte, Nat.reduceEqDiff, ne_eq, not_true_eq_false, not_false_eq_true, Nat.one_ne_zero, Nat.zero_ne_one, Nat.succ_ne_self, Nat.reduceAdd, Bool.false_eq_true, false_implies, implies_true, reduceCtorEq]
theorem rawSp {s : ByteArray} {e : Int} {k i : Nat} (hg : H.get i = some (rdO s e)) (hi : 0 < i ∧ i < 1000) (hk : k ≤ 1048576) :
    SpecAt Tryz.prog nRRaw [.ptr i 0, .v (.int .i64 k)] H n (.v (.string (rawT s e k))) ⟨(i, some (rdO (rawS s e k) (rawE s e k))) :: H.l, H.x⟩ n := by
  have := lift (n := n) (okT.spec tRRaw (rawW (x := H.x) (s := s) (e := e) hk)) [(1, i)] rfl rfl rfl (by omega) rfl rfl
    ⟨sub_wr rfl hi.1 hi.2 hg rfl, trivial⟩ (by simp [apartB, apart1, rn, lk]) (by simp [wrNZ, rn, lk]; omega) (by omega)
  exact this
def failE (e f : Int) : Int := if e = 0 then f else e
variable {H : Hp} {n : Nat} {x : Nat → Option SO}
def nbs (t : ByteArray) : List Nat := t.data.toList.map (·.toNat)
def nvl (l : List Nat) : Nat := l.foldl (fun a b => a * 256 + b) 0
def num (t : ByteArray) : Nat := nvl (nbs t)
theorem nbs_len {t : ByteArray} : (nbs t).length = t.size := by unfold nbs; rw [List.length_map]; rfl
theorem nbs_lt {t : ByteArray} : ∀ b ∈ nbs t, b < 256 := by
  intro b hb
  obtain ⟨c, _, rfl⟩ := List.mem_map.1 hb
  exact c.toNat_lt
theorem nvl_snoc {l : List Nat} {b : Nat} : nvl (l ++ [b]) = nvl l * 256 + b := by simp [nvl, List.foldl_append]
theorem bts_nbs {t : ByteArray} : bts t = (nbs t).map (fun b : Nat => (b : Int)) := by unfold bts nbs; rw [List.map_map]; rfl
theorem nvl_bound {l : List Nat} (h : ∀ b ∈ l, b < 256) : ∀ {j}, j ≤ l.length → nvl (l.take j) < 256 ^ j
  | 0, _ => by simp [nvl]
  | j + 1, hj => by
    have ih := nvl_bound h (j := j) (by omega)
    have hb := h (l[j]'(by omega)) (List.getElem_mem _)
    rw [List.take_succ_eq_append_getElem (by omega), nvl_snoc, Nat.pow_succ]; omega
theorem nvl_small {l : List Nat} (h : ∀ b ∈ l, b < 256) (h0 : l.getD 0 0 < 128) : ∀ {j}, j ≤ l.length → 1 ≤ j → nvl (l.take j) < 128 * 256 ^ (j - 1)
  | 1, hj, _ => by
    match l, hj, h0 with
    | b :: r, _, h0 => simpa [nvl] using h0
  | j + 2, hj, _ => by
    have ih := nvl_small h h0 (j := j + 1) (by omega) (by omega)
    have hb := h (l[j + 1]'(by omega)) (List.getElem_mem _)
    rw [List.take_succ_eq_append_getElem (by omega), nvl_snoc, show j + 2 - 1 = (j + 1 - 1) + 1 by omega, Nat.pow_succ]
    have : j + 1 - 1 = j := by omega
    rw [this] at ih ⊢
    omega
theorem ior_byte {a b : Nat} (ha : a < 36028797018963968) (hb : b < 256) : ior .i64 ((a * 256 : Nat) : Int) (b : Int) = ((a * 256 + b : Nat) : Int) := by
  show IntKind.i64.wrap ((BitVec.ofInt 64 ((a * 256 : Nat) : Int) ||| BitVec.ofInt 64 (b : Int)).toNat : Nat) = _
  have e : (BitVec.ofInt 64 ((a * 256 : Nat) : Int) ||| BitVec.ofInt 64 (b : Int)).toNat = a * 256 + b := by
    rw [BitVec.ofInt_natCast, BitVec.ofInt_natCast, BitVec.toNat_or, BitVec.toNat_ofNat, BitVec.toNat_ofNat, Nat.mod_eq_of_lt (by omega), Nat.mod_eq_of_lt (by omega)]
    have := Nat.shiftLeft_add_eq_or_of_lt (i := 8) (b := b) (by omega) a
    rw [Nat.shiftLeft_eq, show 2 ^ 8 = 256 from rfl] at this
    omega
  rw [e, wrap_i64 (by omega) (by omega)]
theorem ishl_8 {a : Nat} (ha : a < 36028797018963968) : ishl .i64 (a : Int) 8 = ((a * 256 : Nat) : Int) := by
  unfold ishl
  have hm : min (8 : Int).toNat IntKind.i64.bits = 8 := by decide
  rw [hm, show (2 : Int) ^ 8 = 256 from rfl, wrap_i64 (by omega) (by omega)]; omega
def numOK (t : ByteArray) : Prop := t.size ≤ 7 ∨ (t.size = 8 ∧ (nbs t).getD 0 0 < 128)
theorem numOK.lt {t : ByteArray} (h : numOK t) {j : Nat} (hj : j < t.size) : nvl ((nbs t).take j) < 36028797018963968 := by
  rcases h with h | ⟨h, h0⟩
  · have := nvl_bound (l := nbs t) nbs_lt (j := j) (by rw [nbs_len]; omega)
    have h6 : 256 ^ j ≤ 256 ^ 6 := Nat.pow_le_pow_right (by decide) (by omega)
    have : (256 : Nat) ^ 6 = 281474976710656 := by decide
    omega
  · by_cases hj0 : j = 0
    · subst hj0; simp [nvl]
    · have := nvl_small (l := nbs t) nbs_lt h0 (j := j) (by rw [nbs_len]; omega) (by omega)
      have h6 : 256 ^ (j - 1) ≤ 256 ^ 6 := Nat.pow_le_pow_right (by decide) (by omega)
      have : (256 : Nat) ^ 6 = 281474976710656 := by decide
      omega
theorem bts_getD {t : ByteArray} {j : Nat} (hj : j < t.size) : (bts t).getD j 0 = (((nbs t).getD j 0 : Nat) : Int) := by
  have hl := nbs_len (t := t)
  rw [bts_nbs, List.getD_eq_getElem?_getD, List.getElem?_map, List.getD_eq_getElem?_getD, List.getElem?_eq_getElem (by omega)]; rfl
theorem num_step {t : ByteArray} {j : Nat} (hj : j < t.size) : nvl ((nbs t).take (j + 1)) = nvl ((nbs t).take j) * 256 + (nbs t).getD j 0 := by
  have hl := nbs_len (t := t)
  rw [List.take_succ_eq_append_getElem (by omega), nvl_snoc, List.getD_eq_getElem?_getD, List.getElem?_eq_getElem (by omega)]; rfl
theorem nbs_get_lt {t : ByteArray} {j : Nat} (hj : j < t.size) : (nbs t).getD j 0 < 256 := by
  have hl := nbs_len (t := t)
  rw [List.getD_eq_getElem?_getD, List.getElem?_eq_getElem (by omega)]; exact nbs_lt _ (List.getElem_mem _)
theorem numW {s : ByteArray} {e : Int} {k : Nat} (hk : k ≤ 8) (hok : numOK (rawT s e k)) : fnVC CT mRNumber [.ptr 1 0, .v (.int .i64 k)] ⟨[(1, some (rdO s e))], x⟩ 2 fun v H' n' => Sub 2 ⟨[(0, .v (.int .i64 (num (rawT s e k) : Nat)))], ⟨[(1, some (rdO (rawS s e k) (rawE s e k)))], x⟩, 2⟩ ⟨[(0, v)], H', n'⟩ := by
  unfold mRNumber
  simp -implicitDefEqProofs only [↓fnVC, initTm]
  simp -implicitDefEqProofs only [go_sem]
  refine at_call tRRaw (rawSp (i := 1) (k := k) (by rfl) (by decide) (by omega)) ?_
  generalize hT : rawT s e k = T at hok ⊢
  have hsz : T.size ≤ 8 := by rcases hok with h | h <;> omega
  simp -implicitDefEqProofs only [go_sem]
  refine ⟨by omega, ?_⟩
  refine loop_fam (fun (j : Nat) => j ≤ T.size) (fun j => ⟨[(5, .v (.int .i64 (nvl ((nbs T).take j) : Nat))), (11, .sl 2 0 T.size 1), (12, .v (.int .i64 (T.size : Nat))), (13, .v (.int .i64 j))], ⟨[(1, some (rdO (rawS s e k) (rawE s e k))), (2, some ⟨true, .ints .u8 (bts T)⟩)], x⟩, 3⟩) (fun j => T.size - j) 0 (Nat.zero_le _) ?_ ?_
  · refine sub_mk [] rfl rfl rfl ?_
    simp only [tmSub, hpSub, objSub, eqTm, eqHp, rn, lk, SV.ren, SV.renC, SV.renB, SV.renA, ren_ints, ren_strs, ren_pl, ren_svs, SV.v.injEq, Value.int.injEq, Body.ints.injEq, SV.ptr.injEq, SV.sl.injEq, Value.string.injEq, Value.bool.injEq, List.map_cons, List.map_nil, forall_const, Nat.reduceLT, Nat.lt_add_one, imp_self, true_and, and_true, and_self, ob_some, get_mk, lk_cons, ↓reduceIte, Nat.reduceEqDiff, ne_eq, not_true_eq_false, not_false_eq_true, Nat.one_ne_zero, Nat.zero_ne_one, Nat.succ_ne_self, Nat.reduceAdd, Bool.false_eq_true, false_implies, implies_true, reduceCtorEq]
    exact ⟨⟨rfl, rfl⟩, rfl⟩
  · intro j hj
    simp -implicitDefEqProofs only [go_sem]
    refine condK_bb (fun c => ?_) (fun c => ?_)
    · have c1 : j < T.size := by have := of_decide_eq_true c; omega
      have hb := bts_getD c1
      have hlt := nbs_get_lt c1
      have hv := hok.lt c1
      have w1 := ishl_8 hv
      have w2 : IntKind.i64.wrap (((nbs T).getD j 0 : Nat) : Int) = (((nbs T).getD j 0 : Nat) : Int) := wrap_i64 (by omega) (by omega)
      have w3 := ior_byte hv hlt
      have w4 : IntKind.i64.wrap ((j : Int) + 1) = ((j + 1 : Nat) : Int) := by rw [wrap_i64 (by omega) (by omega)]; omega
      have hs := num_step c1
      simp -implicitDefEqProofs only [go_sem, c, hb, w1, w2, w3, w4]
      refine ⟨⟨by omega, by omega⟩, by rw [bts_len]; exact c1, ?_⟩
      refine kLoop_mk (j + 1) (by omega) (by omega) ?_
      refine sub_mk [] rfl rfl rfl ?_
      simp only [tmSub, hpSub, objSub, eqTm, eqHp, rn, lk, SV.ren, SV.renC, SV.renB, SV.renA, ren_ints, ren_strs, ren_pl, ren_svs, SV.v.injEq, Value.int.injEq, Body.ints.injEq, SV.ptr.injEq, SV.sl.injEq, Value.string.injEq, Value.bool.injEq, List.map_cons, List.map_nil, forall_const, Nat.reduceLT, Nat.lt_add_one, imp_self, true_and, and_true, and_self, ob_some, get_mk, lk_cons, ↓reduceIte, Nat.reduceEqDiff, ne_eq, not_true_eq_false, not_false_eq_true, Nat.one_ne_zero, Nat.zero_ne_one, Nat.succ_ne_self, Nat.reduceAdd, Bool.false_eq_true, false_implies, implies_true, reduceCtorEq, w4, hs]
      rfl
    · have c1 : j = T.size := by have := of_decide_eq_false c; omega
      subst c1
      have hn : nvl ((nbs T).take T.size) = num T := by unfold num; rw [List.take_of_length_le (by rw [nbs_len]; exact Nat.le_refl _)]
      simp -implicitDefEqProofs only [go_sem, c]
      rw [hn]
      refine sub_mk [] rfl rfl rfl ?_
      simp only [tmSub, hpSub, objSub, eqTm, eqHp, rn, lk, SV.ren, SV.renC, SV.renB, SV.renA, ren_ints, ren_strs, ren_pl, ren_svs, SV.v.injEq, Value.int.injEq, Body.ints.injEq, SV.ptr.injEq, SV.sl.injEq, Value.string.injEq, Value.bool.injEq, List.map_cons, List.map_nil, forall_const, Nat.reduceLT, Nat.lt_add_one, imp_self, true_and, and_true, and_self, ob_some, get_mk, lk_cons, ↓reduceIte, Nat.reduceEqDiff, ne_eq, not_true_eq_false, not_false_eq_true, Nat.one_ne_zero, Nat.zero_ne_one, Nat.succ_ne_self, Nat.reduceAdd, Bool.false_eq_true, false_implies, implies_true, reduceCtorEq]
      rfl
theorem numSp {s : ByteArray} {e : Int} {k i : Nat} (hg : H.get i = some (rdO s e)) (hi : 0 < i ∧ i < 1000) (hk : k ≤ 8) (hok : numOK (rawT s e k)) :
    SpecAt Tryz.prog nRNumber [.ptr i 0, .v (.int .i64 k)] H n (.v (.int .i64 (num (rawT s e k) : Nat))) ⟨(i, some (rdO (rawS s e k) (rawE s e k))) :: H.l, H.x⟩ n := by
  have := lift (n := n) (okT.spec tRNumber (numW (x := H.x) (s := s) (e := e) hk hok)) [(1, i)] rfl rfl rfl (by omega) rfl rfl
    ⟨sub_wr rfl hi.1 hi.2 hg rfl, trivial⟩ (by simp [apartB, apart1, rn, lk]) (by simp [wrNZ, rn, lk]; omega) (by omega)
  exact this
def preE (s : ByteArray) (e : Int) : Int := if e = 0 ∧ 8 ≤ s.size ∧ 128 ≤ (nbs s).getD 0 0 then 3 else e
end
section
/- Trees, at this program. -/
set_option linter.unusedVariables false
set_option linter.unusedSimpArgs false
set_option maxRecDepth 100000
open Go.Proofs
variable {H : Hp} {n : Nat} {x : Nat → Option SO}
theorem seq_ne {a b : ByteArray} (h : a ≠ b) : seq a b = false := by
  unfold seq
  rw [ByteArray.toList_eq, ByteArray.toList_eq, beq_eq_false_iff_ne]
  intro e
  obtain ⟨⟨p⟩⟩ := a
  obtain ⟨⟨q⟩⟩ := b
  simp at e
  subst e
  exact h rfl
variable {H : Hp} {n : Nat} {x : Nat → Option SO}
theorem tx_bts (s : ByteArray) : tx (bts s) = s := by
  obtain ⟨⟨l⟩⟩ := s
  simp [tx, bts, Function.comp_def]
theorem bts_ext (s : ByteArray) (a b : Nat) : bts (s.extract a b) = ((bts s).drop a).take (b - a) := by
  simp [bts, ByteArray.data_extract, List.extract_eq_take_drop, List.map_take, List.map_drop]
variable {H : Hp} {n : Nat} {x : Nat → Option SO}
theorem tx_app (l m : List Int) : tx (l ++ m) = tx l ++ tx m := by
  unfold tx
  rw [List.map_append]
  apply ByteArray.ext
  simp
variable {H : Hp} {n : Nat} {x : Nat → Option SO}
theorem rawT_size {s : ByteArray} {e : Int} {k : Nat} : (rawT s e k).size ≤ k := by
  unfold rawT
  split
  · exact Nat.zero_le _
  · rw [ByteArray.size_extract]; omega
theorem ext_ext {s : ByteArray} {k a b : Nat} (h : k + b ≤ s.size) : (s.extract k s.size).extract a b = s.extract (k + a) (k + b) := by
  have hb : ∀ {p q : ByteArray}, p.data = q.data → p = q := fun h => ByteArray.ext h
  apply hb
  simp only [ByteArray.data_extract, Array.extract_extract]
  congr 1
  omega
theorem rd_at {s : ByteArray} {k w : Nat} (h : k + w ≤ s.size) : rawS (s.extract k s.size) 0 w = s.extract (k + w) s.size ∧ rawE (s.extract k s.size) 0 w = 0 ∧ rawT (s.extract k s.size) 0 w = s.extract k (k + w) := by
  have hz : (s.extract k s.size).size = s.size - k := by rw [ByteArray.size_extract]; omega
  refine ⟨?_, ?_, ?_⟩
  · unfold rawS; rw [if_neg (by omega), hz, ext_ext (by omega)]; congr 1; omega
  · unfold rawE; rw [if_neg (by omega), if_neg (by omega)]
  · unfold rawT; rw [if_neg (by omega), ext_ext h]; rfl
theorem ext_all (s : ByteArray) : s.extract 0 s.size = s := by
  apply ByteArray.ext
  simp
theorem preadS {s : ByteArray} (hn : n + 1 ≤ 1000) : SpecAt Tryz.prog nPRead [.v (.string s)] H n (.ptr n 0) ⟨(n, some (rdO s 0)) :: H.l, H.x⟩ (n + 1) := by
  have := lift (n := n) (okT.spec tPRead (readW (x := H.x) (s := s))) [] rfl rfl rfl (by omega) rfl rfl trivial rfl rfl (by omega)
  exact this
variable {H : Hp} {n : Nat} {x : Nat → Option SO}
theorem bts_inj {s t : ByteArray} (h : bts s = bts t) : s = t := by
  have e : s.data.toList = t.data.toList := by
    unfold bts at h
    refine List.map_inj_right (f := fun b : UInt8 => (b.toNat : Int)) (fun a b hab => ?_) |>.1 h
    have : a.toNat = b.toNat := by exact_mod_cast hab
    exact UInt8.toNat_inj.1 this
  cases s; cases t
  congr 1
  exact Array.toList_inj.1 e
theorem nbs_of_bts {t : ByteArray} {l : List Nat} (h : bts t = l.map (fun b : Nat => (b : Int))) : nbs t = l := by
  have h2 := bts_nbs (t := t)
  rw [h] at h2
  exact (List.map_inj_right (f := fun b : Nat => (b : Int)) (fun a b hab => by exact_mod_cast hab)).1 h2.symm
def beN (y k : Nat) : List Nat := (List.range k).map fun j => y / 256 ^ (k - 1 - j) % 256
theorem be_beN {y k : Nat} : be y k = (beN y k).map fun b : Nat => (b : Int) := by unfold be beN; rw [List.map_map]; rfl
theorem beN_get {y k j : Nat} (h : j < k) : (beN y k)[j]? = some (y / 256 ^ (k - 1 - j) % 256) := by
  unfold beN; rw [List.getElem?_map, List.getElem?_range h]; rfl
theorem beN_len {y k : Nat} : (beN y k).length = k := by simp [beN]
theorem nvl_be {y k : Nat} (hy : y < 256 ^ k) : ∀ {j}, j ≤ k → nvl ((beN y k).take j) = y / 256 ^ (k - j)
  | 0, _ => by simp [nvl, Nat.div_eq_of_lt hy]
  | j + 1, h => by
    have hg := beN_get (y := y) (k := k) (j := j) (by omega)
    rw [List.take_add_one, hg]
    show nvl ((beN y k).take j ++ [_]) = _
    rw [nvl_snoc, nvl_be hy (j := j) (by omega), show k - j = (k - 1 - j) + 1 by omega, Nat.pow_succ, ← Nat.div_div_eq_div_mul, show k - (j + 1) = k - 1 - j by omega]
    omega
theorem num_be {t : ByteArray} {y k : Nat} (h : bts t = be y k) (hy : y < 256 ^ k) : num t = y := by
  have e : nbs t = beN y k := nbs_of_bts (by rw [h, be_beN])
  unfold num
  rw [e]
  have := nvl_be hy (j := k) (Nat.le_refl _)
  rw [List.take_of_length_le (by rw [beN_len]; exact Nat.le_refl _), Nat.sub_self, Nat.pow_zero, Nat.div_one] at this
  exact this
end
end Go.Sx