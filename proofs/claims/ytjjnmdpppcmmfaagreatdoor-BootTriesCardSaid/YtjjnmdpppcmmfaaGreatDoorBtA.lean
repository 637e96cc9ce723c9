/- The functions' code, with its types resolved, as the table of the program has it. -/
import Derived.Test.YtjjnmdpppcmmfaaGreatDoorSxC
import Derived.Test.YtjjnmdpppcmmfaaGreatDoorChecked

set_option maxRecDepth 100000
namespace Go.Sx
def m9 : MFn := .mk 34 (.seq (.reg false [⟨some 2, (.mov (.k (.v (.string ⟨#[]⟩)))), none⟩]) (.seq (.reg false [⟨some 3, (.mov (.k (.v (.int .i64 96)))), none⟩]) (.seq (.seq (.reg false [⟨some 9, .mov (.t 0), none⟩, ⟨some 10, (.lenL (.t 9)), none⟩, ⟨some 11, (.mov (.k (.v (.int .i64 0)))), none⟩]) (.block 0 (.loop (.seq (.reg false [⟨some 12, (.bin .lss (.t 11) (.t 10)), none⟩]) (.seq (.cond (.t 12) .skip (.exit 0)) (.seq (.block 1 (.seq (.reg false [⟨some 13, (.idxA (.t 9) (.t 11) 1), none⟩, ⟨some 14, .ld (.t 13), none⟩, ⟨some 5, .mov (.t 14), none⟩]) (.reg false [⟨some 15, .mov (.t 3), none⟩, ⟨some 16, .mov (.t 5), none⟩, ⟨some 17, (.lenS (.t 16)), none⟩, ⟨some 18, (.bin .add (.t 15) (.t 17)), none⟩, ⟨some 3, .mov (.t 18), none⟩]))) (.reg false [⟨some 19, (.bin .add (.t 11) (.k (.v (.int .i64 1)))), none⟩, ⟨some 11, .mov (.t 19), none⟩]))))))) (.seq (.reg false [⟨some 20, .mov (.t 3), none⟩, ⟨some 21, (.mk (.ints .u8 [0]) (.k (.v (.int .i64 0))) (.t 20) 1 1), none⟩, ⟨some 6, .mov (.t 21), none⟩]) (.seq (.seq (.reg false [⟨some 22, .mov (.t 0), none⟩, ⟨some 23, (.lenL (.t 22)), none⟩, ⟨some 24, (.mov (.k (.v (.int .i64 0)))), none⟩]) (.block 2 (.loop (.seq (.reg false [⟨some 25, (.bin .lss (.t 24) (.t 23)), none⟩]) (.seq (.cond (.t 25) .skip (.exit 2)) (.seq (.block 3 (.seq (.reg false [⟨some 26, (.idxA (.t 22) (.t 24) 1), none⟩, ⟨some 27, .ld (.t 26), none⟩, ⟨some 8, .mov (.t 27), none⟩]) (.reg false [⟨some 28, .mov (.t 6), none⟩, ⟨some 29, .mov (.t 8), none⟩, ⟨some 30, (.appS (.t 28) (.t 29) (.ints .u8 [])), none⟩, ⟨some 6, .mov (.t 30), none⟩]))) (.reg false [⟨some 31, (.bin .add (.t 24) (.k (.v (.int .i64 1)))), none⟩, ⟨some 24, .mov (.t 31), none⟩]))))))) (.seq (.reg false [⟨some 32, .mov (.t 6), none⟩, ⟨some 33, (.call 129 [(.t 32)]), none⟩, ⟨some 2, .mov (.t 33), none⟩]) .ret)))))) [(.t 2)]
def m23 : MFn := .mk 61 (.seq (.reg false [⟨some 2, (.mov (.k (.v (.string ⟨#[]⟩)))), none⟩]) (.seq (.reg false [⟨some 7, .mov (.t 0), none⟩, ⟨some 8, (.lenL (.t 7)), none⟩, ⟨some 9, (.conv .u64 (.t 8)), none⟩, ⟨some 10, (.bin .mul (.t 9) (.k (.v (.int .u64 8)))), none⟩, ⟨some 3, .mov (.t 10), none⟩]) (.seq (.reg false [⟨some 11, .mov (.t 0), none⟩, ⟨some 12, (.lenL (.t 11)), none⟩, ⟨some 13, (.bin .rem (.t 12) (.k (.v (.int .i64 64)))), none⟩, ⟨some 14, (.bin .sub (.k (.v (.int .i64 119))) (.t 13)), none⟩, ⟨some 15, (.bin .rem (.t 14) (.k (.v (.int .i64 64)))), none⟩, ⟨some 4, .mov (.t 15), none⟩]) (.seq (.reg false [⟨some 16, .mov (.t 0), none⟩, ⟨some 17, (.rowI .u8 [(.k (.v (.int .u8 128)))]), none⟩, ⟨some 18, (.app (.t 16) (.t 17) (.ints .u8 []) 1 1), none⟩, ⟨some 0, .mov (.t 18), none⟩]) (.seq (.reg false [⟨some 19, .mov (.t 0), none⟩, ⟨some 20, .mov (.t 4), none⟩, ⟨some 21, (.appZ (.t 19) (.t 20) (.ints .u8 []) (.ints .u8 [0]) 1 1), none⟩, ⟨some 0, .mov (.t 21), none⟩]) (.seq (.reg false [⟨some 22, .mov (.t 0), none⟩, ⟨some 23, .mov (.t 3), none⟩, ⟨some 24, (.bin .shr (.t 23) (.k (.v (.int .u64 56)))), none⟩, ⟨some 25, (.conv .u8 (.t 24)), none⟩, ⟨some 26, .mov (.t 3), none⟩, ⟨some 27, (.bin .shr (.t 26) (.k (.v (.int .u64 48)))), none⟩, ⟨some 28, (.conv .u8 (.t 27)), none⟩, ⟨some 29, .mov (.t 3), none⟩, ⟨some 30, (.bin .shr (.t 29) (.k (.v (.int .u64 40)))), none⟩, ⟨some 31, (.conv .u8 (.t 30)), none⟩, ⟨some 32, .mov (.t 3), none⟩, ⟨some 33, (.bin .shr (.t 32) (.k (.v (.int .u64 32)))), none⟩, ⟨some 34, (.conv .u8 (.t 33)), none⟩, ⟨some 35, .mov (.t 3), none⟩, ⟨some 36, (.bin .shr (.t 35) (.k (.v (.int .u64 24)))), none⟩, ⟨some 37, (.conv .u8 (.t 36)), none⟩, ⟨some 38, .mov (.t 3), none⟩, ⟨some 39, (.bin .shr (.t 38) (.k (.v (.int .u64 16)))), none⟩, ⟨some 40, (.conv .u8 (.t 39)), none⟩, ⟨some 41, .mov (.t 3), none⟩, ⟨some 42, (.bin .shr (.t 41) (.k (.v (.int .u64 8)))), none⟩, ⟨some 43, (.conv .u8 (.t 42)), none⟩, ⟨some 44, .mov (.t 3), none⟩, ⟨some 45, (.conv .u8 (.t 44)), none⟩, ⟨some 46, (.rowI .u8 [(.t 25), (.t 28), (.t 31), (.t 34), (.t 37), (.t 40), (.t 43), (.t 45)]), none⟩, ⟨some 47, (.app (.t 22) (.t 46) (.ints .u8 []) 1 1), none⟩, ⟨some 0, .mov (.t 47), none⟩]) (.seq (.reg false [⟨some 48, (.call 136 []), none⟩, ⟨some 49, (.call 137 []), none⟩, ⟨some 5, (.alloc (.ints .u32 [0, 0, 0, 0, 0, 0, 0, 0])), none⟩, ⟨.none, (.stn (.t 5) (.t 48) 8), none⟩, ⟨some 6, .mov (.t 49), none⟩]) (.seq (.block 0 (.loop (.seq (.seq (.reg false [⟨some 50, .mov (.t 0), none⟩, ⟨some 51, (.lenL (.t 50)), none⟩, ⟨some 52, (.bin .gtr (.t 51) (.k (.v (.int .i64 0)))), none⟩]) (.cond (.t 52) .skip (.exit 0))) (.seq (.block 1 (.reg false [⟨some 55, .mov (.t 6), none⟩, ⟨some 56, .mov (.t 0), none⟩, ⟨some 57, (.slL (.t 56) .none (.some (.k (.v (.int .i64 64)))) 1), none⟩, ⟨some 58, (.call 138 [(.t 5), (.t 55), (.t 57)]), none⟩])) (.reg false [⟨some 53, .mov (.t 0), none⟩, ⟨some 54, (.slL (.t 53) (.some (.k (.v (.int .i64 64)))) .none 1), none⟩, ⟨some 0, .mov (.t 54), none⟩]))))) (.seq (.reg false [⟨some 59, (.ldn (.t 5) 8), none⟩, ⟨some 60, (.call 139 [(.t 59)]), none⟩, ⟨some 2, .mov (.t 60), none⟩]) .ret))))))))) [(.t 2)]
def m24 : MFn := .mk 50 (.seq (.reg false [⟨some 2, (.mov (.k (.v (.string ⟨#[]⟩)))), none⟩]) (.seq (.reg false [⟨some 9, (.bldI .u32 8 [(0, (.k (.v (.int .u32 1779033703)))), (1, (.k (.v (.int .u32 3144134277)))), (2, (.k (.v (.int .u32 1013904242)))), (3, (.k (.v (.int .u32 2773480762)))), (4, (.k (.v (.int .u32 1359893119)))), (5, (.k (.v (.int .u32 2600822924)))), (6, (.k (.v (.int .u32 528734635)))), (7, (.k (.v (.int .u32 1541459225))))]), none⟩, ⟨some 3, (.alloc (.ints .u32 [0, 0, 0, 0, 0, 0, 0, 0])), none⟩, ⟨.none, (.stn (.t 3) (.t 9) 8), none⟩]) (.seq (.reg false [⟨some 10, .mov (.t 0), none⟩, ⟨some 11, (.lenL (.t 10)), none⟩, ⟨some 4, .mov (.t 11), none⟩]) (.seq (.reg false [⟨some 12, .mov (.t 0), none⟩, ⟨some 13, (.rowI .u8 [(.k (.v (.int .u8 128)))]), none⟩, ⟨some 14, (.app (.t 12) (.t 13) (.ints .u8 []) 1 1), none⟩, ⟨some 0, .mov (.t 14), none⟩]) (.seq (.block 0 (.loop (.seq (.seq (.reg false [⟨some 15, .mov (.t 0), none⟩, ⟨some 16, (.lenL (.t 15)), none⟩, ⟨some 17, (.bin .rem (.t 16) (.k (.v (.int .i64 64)))), none⟩, ⟨some 18, (.bin .neq (.t 17) (.k (.v (.int .i64 56)))), none⟩]) (.cond (.t 18) .skip (.exit 0))) (.block 1 (.reg false [⟨some 19, .mov (.t 0), none⟩, ⟨some 20, (.rowI .u8 [(.k (.v (.int .u8 0)))]), none⟩, ⟨some 21, (.app (.t 19) (.t 20) (.ints .u8 []) 1 1), none⟩, ⟨some 0, .mov (.t 21), none⟩]))))) (.seq (.reg false [⟨some 22, .mov (.t 0), none⟩, ⟨some 23, .mov (.t 4), none⟩, ⟨some 24, (.conv .u64 (.t 23)), none⟩, ⟨some 25, (.bin .mul (.t 24) (.k (.v (.int .u64 8)))), none⟩, ⟨some 26, (.call 121 [(.t 22), (.t 25), (.k (.v (.int .i64 8)))]), none⟩, ⟨some 0, .mov (.t 26), none⟩]) (.seq (.reg false [⟨some 27, (.call 143 []), none⟩, ⟨some 5, (.alloc (.ints .u32 [0, 0, 0, 0, 0, 0, 0, 0, 0, 0, 0, 0, 0, 0, 0, 0, 0, 0, 0, 0, 0, 0, 0, 0, 0, 0, 0, 0, 0, 0, 0, 0, 0, 0, 0, 0, 0, 0, 0, 0, 0, 0, 0, 0, 0, 0, 0, 0, 0, 0, 0, 0, 0, 0, 0, 0, 0, 0, 0, 0, 0, 0, 0, 0])), none⟩, ⟨.none, (.stn (.t 5) (.t 27) 64), none⟩]) (.seq (.seq (.reg false [⟨some 6, (.mov (.k (.v (.int .i64 0)))), none⟩]) (.block 2 (.loop (.seq (.seq (.reg false [⟨some 28, .mov (.t 6), none⟩, ⟨some 29, .mov (.t 0), none⟩, ⟨some 30, (.lenL (.t 29)), none⟩, ⟨some 31, (.bin .lss (.t 28) (.t 30)), none⟩]) (.cond (.t 31) .skip (.exit 2))) (.seq (.block 3 (.reg false [⟨some 34, (.ldn (.t 3) 8), none⟩, ⟨some 35, .mov (.t 0), none⟩, ⟨some 36, .mov (.t 6), none⟩, ⟨some 37, (.call 144 [(.t 34), (.t 5), (.t 35), (.t 36)]), none⟩, ⟨.none, (.stn (.t 3) (.t 37) 8), none⟩])) (.reg false [⟨some 32, .mov (.t 6), none⟩, ⟨some 33, (.bin .add (.t 32) (.k (.v (.int .i64 64)))), none⟩, ⟨some 6, .mov (.t 33), none⟩])))))) (.seq (.reg false [⟨some 7, .mov (.k (.sl 0 0 0 1)), none⟩]) (.seq (.seq (.reg false [⟨some 8, (.mov (.k (.v (.int .i64 0)))), none⟩]) (.block 4 (.loop (.seq (.seq (.reg false [⟨some 38, .mov (.t 8), none⟩, ⟨some 39, (.bin .lss (.t 38) (.k (.v (.int .i64 8)))), none⟩]) (.cond (.t 39) .skip (.exit 4))) (.seq (.block 5 (.reg false [⟨some 42, .mov (.t 7), none⟩, ⟨some 43, .mov (.t 8), none⟩, ⟨some 44, (.idxP (.t 3) (.t 43) 8 1), none⟩, ⟨some 45, .ld (.t 44), none⟩, ⟨some 46, (.conv .u64 (.t 45)), none⟩, ⟨some 47, (.call 121 [(.t 42), (.t 46), (.k (.v (.int .i64 4)))]), none⟩, ⟨some 7, .mov (.t 47), none⟩])) (.reg false [⟨some 40, .mov (.t 8), none⟩, ⟨some 41, (.bin .add (.t 40) (.k (.v (.int .i64 1)))), none⟩, ⟨some 8, .mov (.t 41), none⟩])))))) (.seq (.reg false [⟨some 48, .mov (.t 7), none⟩, ⟨some 49, (.b2s (.t 48)), none⟩, ⟨some 2, .mov (.t 49), none⟩]) .ret))))))))))) [(.t 2)]
def m28 : MFn := .mk 2 (.seq (.reg false [⟨some 0, (.alloc (.ints .u32 [0, 0, 0, 0, 0, 0, 0, 0])), none⟩]) (.seq (.reg false [⟨some 1, (.bldI .u32 8 [(0, (.k (.v (.int .u32 1779033703)))), (1, (.k (.v (.int .u32 3144134277)))), (2, (.k (.v (.int .u32 1013904242)))), (3, (.k (.v (.int .u32 2773480762)))), (4, (.k (.v (.int .u32 1359893119)))), (5, (.k (.v (.int .u32 2600822924)))), (6, (.k (.v (.int .u32 528734635)))), (7, (.k (.v (.int .u32 1541459225))))]), none⟩, ⟨.none, (.stn (.t 0) (.t 1) 8), none⟩]) .ret)) [(.cn 0 8)]
def m29 : MFn := .mk 3 (.seq (.reg false [⟨some 0, (.mov (.k (.v (.pointer .none)))), none⟩]) (.seq (.reg false [⟨some 1, (.bldI .u32 64 [(0, (.k (.v (.int .u32 1116352408)))), (1, (.k (.v (.int .u32 1899447441)))), (2, (.k (.v (.int .u32 3049323471)))), (3, (.k (.v (.int .u32 3921009573)))), (4, (.k (.v (.int .u32 961987163)))), (5, (.k (.v (.int .u32 1508970993)))), (6, (.k (.v (.int .u32 2453635748)))), (7, (.k (.v (.int .u32 2870763221)))), (8, (.k (.v (.int .u32 3624381080)))), (9, (.k (.v (.int .u32 310598401)))), (10, (.k (.v (.int .u32 607225278)))), (11, (.k (.v (.int .u32 1426881987)))), (12, (.k (.v (.int .u32 1925078388)))), (13, (.k (.v (.int .u32 2162078206)))), (14, (.k (.v (.int .u32 2614888103)))), (15, (.k (.v (.int .u32 3248222580)))), (16, (.k (.v (.int .u32 3835390401)))), (17, (.k (.v (.int .u32 4022224774)))), (18, (.k (.v (.int .u32 264347078)))), (19, (.k (.v (.int .u32 604807628)))), (20, (.k (.v (.int .u32 770255983)))), (21, (.k (.v (.int .u32 1249150122)))), (22, (.k (.v (.int .u32 1555081692)))), (23, (.k (.v (.int .u32 1996064986)))), (24, (.k (.v (.int .u32 2554220882)))), (25, (.k (.v (.int .u32 2821834349)))), (26, (.k (.v (.int .u32 2952996808)))), (27, (.k (.v (.int .u32 3210313671)))), (28, (.k (.v (.int .u32 3336571891)))), (29, (.k (.v (.int .u32 3584528711)))), (30, (.k (.v (.int .u32 113926993)))), (31, (.k (.v (.int .u32 338241895)))), (32, (.k (.v (.int .u32 666307205)))), (33, (.k (.v (.int .u32 773529912)))), (34, (.k (.v (.int .u32 1294757372)))), (35, (.k (.v (.int .u32 1396182291)))), (36, (.k (.v (.int .u32 1695183700)))), (37, (.k (.v (.int .u32 1986661051)))), (38, (.k (.v (.int .u32 2177026350)))), (39, (.k (.v (.int .u32 2456956037)))), (40, (.k (.v (.int .u32 2730485921)))), (41, (.k (.v (.int .u32 2820302411)))), (42, (.k (.v (.int .u32 3259730800)))), (43, (.k (.v (.int .u32 3345764771)))), (44, (.k (.v (.int .u32 3516065817)))), (45, (.k (.v (.int .u32 3600352804)))), (46, (.k (.v (.int .u32 4094571909)))), (47, (.k (.v (.int .u32 275423344)))), (48, (.k (.v (.int .u32 430227734)))), (49, (.k (.v (.int .u32 506948616)))), (50, (.k (.v (.int .u32 659060556)))), (51, (.k (.v (.int .u32 883997877)))), (52, (.k (.v (.int .u32 958139571)))), (53, (.k (.v (.int .u32 1322822218)))), (54, (.k (.v (.int .u32 1537002063)))), (55, (.k (.v (.int .u32 1747873779)))), (56, (.k (.v (.int .u32 1955562222)))), (57, (.k (.v (.int .u32 2024104815)))), (58, (.k (.v (.int .u32 2227730452)))), (59, (.k (.v (.int .u32 2361852424)))), (60, (.k (.v (.int .u32 2428436474)))), (61, (.k (.v (.int .u32 2756734187)))), (62, (.k (.v (.int .u32 3204031479)))), (63, (.k (.v (.int .u32 3329325298))))]), none⟩, ⟨some 2, (.box (.t 1)), none⟩, ⟨some 0, .mov (.t 2), none⟩]) .ret)) [(.t 0)]
def m30 : MFn := .mk 224 (.seq (.reg false [⟨some 6, (.alloc (.ints .u32 [0, 0, 0, 0, 0, 0, 0, 0, 0, 0, 0, 0, 0, 0, 0, 0, 0, 0, 0, 0, 0, 0, 0, 0, 0, 0, 0, 0, 0, 0, 0, 0, 0, 0, 0, 0, 0, 0, 0, 0, 0, 0, 0, 0, 0, 0, 0, 0, 0, 0, 0, 0, 0, 0, 0, 0, 0, 0, 0, 0, 0, 0, 0, 0])), none⟩]) (.seq (.seq (.reg false [⟨some 24, (.mov (.k (.v (.int .i64 0)))), none⟩]) (.block 0 (.loop (.seq (.reg false [⟨some 25, (.bin .lss (.t 24) (.k (.v (.int .i64 16)))), none⟩]) (.seq (.cond (.t 25) .skip (.exit 0)) (.seq (.block 1 (.seq (.reg false [⟨some 26, .mov (.t 24), none⟩, ⟨some 7, .mov (.t 26), none⟩]) (.regD (.pure ⟨some 27, .mov (.t 7), none⟩ (.pure ⟨some 28, .mov (.t 2), none⟩ (.pure ⟨some 29, .mov (.t 7), none⟩ (.pure ⟨some 30, (.bin .mul (.k (.v (.int .i64 4))) (.t 29)), none⟩ (.pure ⟨some 31, (.idxA (.t 28) (.t 30) 1), none⟩ (.pure ⟨some 32, .ld (.t 31), none⟩ (.pure ⟨some 33, (.conv .u32 (.t 32)), none⟩ (.pure ⟨some 34, (.bin .shl (.t 33) (.k (.v (.int .u64 24)))), none⟩ (.pure ⟨some 35, .mov (.t 2), none⟩ (.pure ⟨some 36, .mov (.t 7), none⟩ (.pure ⟨some 37, (.bin .mul (.k (.v (.int .i64 4))) (.t 36)), none⟩ (.pure ⟨some 38, (.bin .add (.t 37) (.k (.v (.int .i64 1)))), none⟩ (.pure ⟨some 39, (.idxA (.t 35) (.t 38) 1), none⟩ (.pure ⟨some 40, .ld (.t 39), none⟩ (.pure ⟨some 41, (.conv .u32 (.t 40)), none⟩ (.pure ⟨some 42, (.bin .shl (.t 41) (.k (.v (.int .u64 16)))), none⟩ (.pure ⟨some 43, (.bin .or (.t 34) (.t 42)), none⟩ (.pure ⟨some 44, .mov (.t 2), none⟩ (.pure ⟨some 45, .mov (.t 7), none⟩ (.pure ⟨some 46, (.bin .mul (.k (.v (.int .i64 4))) (.t 45)), none⟩ (.pure ⟨some 47, (.bin .add (.t 46) (.k (.v (.int .i64 2)))), none⟩ (.pure ⟨some 48, (.idxA (.t 44) (.t 47) 1), none⟩ (.pure ⟨some 49, .ld (.t 48), none⟩ (.pure ⟨some 50, (.conv .u32 (.t 49)), none⟩ (.pure ⟨some 51, (.bin .shl (.t 50) (.k (.v (.int .u64 8)))), none⟩ (.pure ⟨some 52, (.bin .or (.t 43) (.t 51)), none⟩ (.pure ⟨some 53, .mov (.t 2), none⟩ (.pure ⟨some 54, .mov (.t 7), none⟩ (.pure ⟨some 55, (.bin .mul (.k (.v (.int .i64 4))) (.t 54)), none⟩ (.pure ⟨some 56, (.bin .add (.t 55) (.k (.v (.int .i64 3)))), none⟩ (.pure ⟨some 57, (.idxA (.t 53) (.t 56) 1), none⟩ (.pure ⟨some 58, .ld (.t 57), none⟩ (.pure ⟨some 59, (.conv .u32 (.t 58)), none⟩ (.pure ⟨some 60, (.bin .or (.t 52) (.t 59)), none⟩ (.pure ⟨some 61, (.idxP (.t 6) (.t 27) 64 1), none⟩ (.act ⟨.none, (.st (.t 61) (.t 60)), none⟩ [] .fin .stop))))))))))))))))))))))))))))))))))))))) (.reg false [⟨some 62, (.bin .add (.t 24) (.k (.v (.int .i64 1)))), none⟩, ⟨some 24, .mov (.t 62), none⟩]))))))) (.seq (.seq (.reg false [⟨some 8, (.mov (.k (.v (.int .i64 16)))), none⟩]) (.block 2 (.loop (.seq (.seq (.reg false [⟨some 63, .mov (.t 8), none⟩, ⟨some 64, (.bin .lss (.t 63) (.k (.v (.int .i64 64)))), none⟩]) (.cond (.t 64) .skip (.exit 2))) (.seq (.block 3 (.seq (.regD (.pure ⟨some 67, .mov (.t 8), none⟩ (.pure ⟨some 68, (.bin .sub (.t 67) (.k (.v (.int .i64 15)))), none⟩ (.pure ⟨some 69, (.idxP (.t 6) (.t 68) 64 1), none⟩ (.pure ⟨some 70, .ld (.t 69), none⟩ (.pure ⟨some 71, .mov (.t 8), none⟩ (.pure ⟨some 72, (.bin .sub (.t 71) (.k (.v (.int .i64 2)))), none⟩ (.pure ⟨some 73, (.idxP (.t 6) (.t 72) 64 1), none⟩ (.pure ⟨some 74, .ld (.t 73), none⟩ (.pure ⟨some 9, .mov (.t 70), none⟩ (.pure ⟨some 10, .mov (.t 74), none⟩ .fin))))))))))) (.regD (.pure ⟨some 75, .mov (.t 8), none⟩ (.pure ⟨some 76, .mov (.t 8), none⟩ (.pure ⟨some 77, (.bin .sub (.t 76) (.k (.v (.int .i64 16)))), none⟩ (.pure ⟨some 78, (.idxP (.t 6) (.t 77) 64 1), none⟩ (.pure ⟨some 79, .ld (.t 78), none⟩ (.pure ⟨some 80, .mov (.t 9), none⟩ (.pure ⟨some 82, .mov (.t 9), none⟩ (.pure ⟨some 85, .mov (.t 9), none⟩ (.pure ⟨some 86, (.bin .shr (.t 85) (.k (.v (.int .u64 3)))), none⟩ (.pure ⟨some 89, .mov (.t 8), none⟩ (.pure ⟨some 90, (.bin .sub (.t 89) (.k (.v (.int .i64 7)))), none⟩ (.pure ⟨some 91, (.idxP (.t 6) (.t 90) 64 1), none⟩ (.pure ⟨some 92, .ld (.t 91), none⟩ (.pure ⟨some 94, .mov (.t 10), none⟩ (.pure ⟨some 96, .mov (.t 10), none⟩ (.pure ⟨some 99, .mov (.t 10), none⟩ (.pure ⟨some 100, (.bin .shr (.t 99) (.k (.v (.int .u64 10)))), none⟩ (.act ⟨some 81, (.call 145 [(.t 80), (.k (.v (.int .i64 7)))]), none⟩ [⟨some 92, .ld (.t 91), none⟩, ⟨some 79, .ld (.t 78), none⟩] (.act ⟨some 83, (.call 145 [(.t 82), (.k (.v (.int .i64 18)))]), none⟩ [⟨some 92, .ld (.t 91), none⟩, ⟨some 79, .ld (.t 78), none⟩] (.pure ⟨some 84, (.bin .xor (.t 81) (.t 83)), none⟩ (.pure ⟨some 87, (.bin .xor (.t 84) (.t 86)), none⟩ (.pure ⟨some 88, (.bin .add (.t 79) (.t 87)), none⟩ (.pure ⟨some 93, (.bin .add (.t 88) (.t 92)), none⟩ (.act ⟨some 95, (.call 145 [(.t 94), (.k (.v (.int .i64 17)))]), none⟩ [⟨some 92, .ld (.t 91), none⟩, ⟨some 79, .ld (.t 78), none⟩] (.act ⟨some 97, (.call 145 [(.t 96), (.k (.v (.int .i64 19)))]), none⟩ [⟨some 92, .ld (.t 91), none⟩, ⟨some 79, .ld (.t 78), none⟩] (.pure ⟨some 98, (.bin .xor (.t 95) (.t 97)), none⟩ (.pure ⟨some 101, (.bin .xor (.t 98) (.t 100)), none⟩ (.pure ⟨some 102, (.bin .add (.t 93) (.t 101)), none⟩ (.pure ⟨some 103, (.idxP (.t 6) (.t 75) 64 1), none⟩ (.act ⟨.none, (.st (.t 103) (.t 102)), none⟩ [] .fin .stop))))) .stop) .stop))))) .stop) .stop))))))))))))))))))))) (.reg false [⟨some 65, .mov (.t 8), none⟩, ⟨some 66, (.bin .add (.t 65) (.k (.v (.int .i64 1)))), none⟩, ⟨some 8, .mov (.t 66), none⟩])))))) (.seq (.regD (.pure ⟨some 104, .mov (.t 0), none⟩ (.pure ⟨some 105, .nilck (.t 104), none⟩ (.pure ⟨some 106, (.idxP (.t 105) (.k (.v (.int .i64 0))) 8 1), none⟩ (.pure ⟨some 107, .ld (.t 106), none⟩ (.pure ⟨some 108, .mov (.t 0), none⟩ (.pure ⟨some 109, .nilck (.t 108), none⟩ (.pure ⟨some 110, (.idxP (.t 109) (.k (.v (.int .i64 1))) 8 1), none⟩ (.pure ⟨some 111, .ld (.t 110), none⟩ (.pure ⟨some 112, .mov (.t 0), none⟩ (.pure ⟨some 113, .nilck (.t 112), none⟩ (.pure ⟨some 114, (.idxP (.t 113) (.k (.v (.int .i64 2))) 8 1), none⟩ (.pure ⟨some 115, .ld (.t 114), none⟩ (.pure ⟨some 116, .mov (.t 0), none⟩ (.pure ⟨some 117, .nilck (.t 116), none⟩ (.pure ⟨some 118, (.idxP (.t 117) (.k (.v (.int .i64 3))) 8 1), none⟩ (.pure ⟨some 119, .ld (.t 118), none⟩ (.pure ⟨some 120, .mov (.t 0), none⟩ (.pure ⟨some 121, .nilck (.t 120), none⟩ (.pure ⟨some 122, (.idxP (.t 121) (.k (.v (.int .i64 4))) 8 1), none⟩ (.pure ⟨some 123, .ld (.t 122), none⟩ (.pure ⟨some 124, .mov (.t 0), none⟩ (.pure ⟨some 125, .nilck (.t 124), none⟩ (.pure ⟨some 126, (.idxP (.t 125) (.k (.v (.int .i64 5))) 8 1), none⟩ (.pure ⟨some 127, .ld (.t 126), none⟩ (.pure ⟨some 128, .mov (.t 0), none⟩ (.pure ⟨some 129, .nilck (.t 128), none⟩ (.pure ⟨some 130, (.idxP (.t 129) (.k (.v (.int .i64 6))) 8 1), none⟩ (.pure ⟨some 131, .ld (.t 130), none⟩ (.pure ⟨some 132, .mov (.t 0), none⟩ (.pure ⟨some 133, .nilck (.t 132), none⟩ (.pure ⟨some 134, (.idxP (.t 133) (.k (.v (.int .i64 7))) 8 1), none⟩ (.pure ⟨some 135, .ld (.t 134), none⟩ (.pure ⟨some 11, .mov (.t 107), none⟩ (.pure ⟨some 12, .mov (.t 111), none⟩ (.pure ⟨some 13, .mov (.t 115), none⟩ (.pure ⟨some 14, .mov (.t 119), none⟩ (.pure ⟨some 15, .mov (.t 123), none⟩ (.pure ⟨some 16, .mov (.t 127), none⟩ (.pure ⟨some 17, .mov (.t 131), none⟩ (.pure ⟨some 18, .mov (.t 135), none⟩ .fin))))))))))))))))))))))))))))))))))))))))) (.seq (.seq (.reg false [⟨some 136, (.mov (.k (.v (.int .i64 0)))), none⟩]) (.block 4 (.loop (.seq (.reg false [⟨some 137, (.bin .lss (.t 136) (.k (.v (.int .i64 64)))), none⟩]) (.seq (.cond (.t 137) .skip (.exit 4)) (.seq (.block 5 (.seq (.reg false [⟨some 138, .mov (.t 136), none⟩, ⟨some 19, .mov (.t 138), none⟩]) (.seq (.regD (.pure ⟨some 139, .mov (.t 18), none⟩ (.pure ⟨some 140, .mov (.t 15), none⟩ (.pure ⟨some 142, .mov (.t 15), none⟩ (.pure ⟨some 145, .mov (.t 15), none⟩ (.pure ⟨some 149, .mov (.t 15), none⟩ (.pure ⟨some 150, .mov (.t 16), none⟩ (.pure ⟨some 151, (.bin .and (.t 149) (.t 150)), none⟩ (.pure ⟨some 152, .mov (.t 15), none⟩ (.pure ⟨some 153, (.un .xor (.t 152)), none⟩ (.pure ⟨some 154, .mov (.t 17), none⟩ (.pure ⟨some 155, (.bin .and (.t 153) (.t 154)), none⟩ (.pure ⟨some 156, (.bin .xor (.t 151) (.t 155)), none⟩ (.pure ⟨some 158, .mov (.t 1), none⟩ (.pure ⟨some 159, .mov (.t 19), none⟩ (.pure ⟨some 160, .nilck (.t 158), none⟩ (.pure ⟨some 161, (.idxP (.t 160) (.t 159) 64 1), none⟩ (.pure ⟨some 162, .ld (.t 161), none⟩ (.pure ⟨some 164, .mov (.t 19), none⟩ (.pure ⟨some 165, (.idxP (.t 6) (.t 164) 64 1), none⟩ (.pure ⟨some 166, .ld (.t 165), none⟩ (.act ⟨some 141, (.call 145 [(.t 140), (.k (.v (.int .i64 6)))]), none⟩ [⟨some 166, .ld (.t 165), none⟩, ⟨some 162, .ld (.t 161), none⟩] (.act ⟨some 143, (.call 145 [(.t 142), (.k (.v (.int .i64 11)))]), none⟩ [⟨some 166, .ld (.t 165), none⟩, ⟨some 162, .ld (.t 161), none⟩] (.pure ⟨some 144, (.bin .xor (.t 141) (.t 143)), none⟩ (.act ⟨some 146, (.call 145 [(.t 145), (.k (.v (.int .i64 25)))]), none⟩ [⟨some 166, .ld (.t 165), none⟩, ⟨some 162, .ld (.t 161), none⟩] (.pure ⟨some 147, (.bin .xor (.t 144) (.t 146)), none⟩ (.pure ⟨some 148, (.bin .add (.t 139) (.t 147)), none⟩ (.pure ⟨some 157, (.bin .add (.t 148) (.t 156)), none⟩ (.pure ⟨some 163, (.bin .add (.t 157) (.t 162)), none⟩ (.pure ⟨some 167, (.bin .add (.t 163) (.t 166)), none⟩ (.pure ⟨some 20, .mov (.t 167), none⟩ .fin)))))) .stop)) .stop) .stop)))))))))))))))))))))) (.seq (.reg false [⟨some 168, .mov (.t 11), none⟩, ⟨some 169, (.call 145 [(.t 168), (.k (.v (.int .i64 2)))]), none⟩, ⟨some 170, .mov (.t 11), none⟩, ⟨some 171, (.call 145 [(.t 170), (.k (.v (.int .i64 13)))]), none⟩, ⟨some 172, (.bin .xor (.t 169) (.t 171)), none⟩, ⟨some 173, .mov (.t 11), none⟩, ⟨some 174, (.call 145 [(.t 173), (.k (.v (.int .i64 22)))]), none⟩, ⟨some 175, (.bin .xor (.t 172) (.t 174)), none⟩, ⟨some 176, .mov (.t 11), none⟩, ⟨some 177, .mov (.t 12), none⟩, ⟨some 178, (.bin .and (.t 176) (.t 177)), none⟩, ⟨some 179, .mov (.t 11), none⟩, ⟨some 180, .mov (.t 13), none⟩, ⟨some 181, (.bin .and (.t 179) (.t 180)), none⟩, ⟨some 182, (.bin .xor (.t 178) (.t 181)), none⟩, ⟨some 183, .mov (.t 12), none⟩, ⟨some 184, .mov (.t 13), none⟩, ⟨some 185, (.bin .and (.t 183) (.t 184)), none⟩, ⟨some 186, (.bin .xor (.t 182) (.t 185)), none⟩, ⟨some 187, (.bin .add (.t 175) (.t 186)), none⟩, ⟨some 21, .mov (.t 187), none⟩]) (.reg false [⟨some 188, .mov (.t 20), none⟩, ⟨some 189, .mov (.t 21), none⟩, ⟨some 190, (.bin .add (.t 188) (.t 189)), none⟩, ⟨some 191, .mov (.t 11), none⟩, ⟨some 192, .mov (.t 12), none⟩, ⟨some 193, .mov (.t 13), none⟩, ⟨some 194, .mov (.t 14), none⟩, ⟨some 195, .mov (.t 20), none⟩, ⟨some 196, (.bin .add (.t 194) (.t 195)), none⟩, ⟨some 197, .mov (.t 15), none⟩, ⟨some 198, .mov (.t 16), none⟩, ⟨some 199, .mov (.t 17), none⟩, ⟨some 11, .mov (.t 190), none⟩, ⟨some 12, .mov (.t 191), none⟩, ⟨some 13, .mov (.t 192), none⟩, ⟨some 14, .mov (.t 193), none⟩, ⟨some 15, .mov (.t 196), none⟩, ⟨some 16, .mov (.t 197), none⟩, ⟨some 17, .mov (.t 198), none⟩, ⟨some 18, .mov (.t 199), none⟩]))))) (.reg false [⟨some 200, (.bin .add (.t 136) (.k (.v (.int .i64 1)))), none⟩, ⟨some 136, .mov (.t 200), none⟩]))))))) (.seq (.reg false [⟨some 201, .mov (.t 11), none⟩, ⟨some 202, .mov (.t 12), none⟩, ⟨some 203, .mov (.t 13), none⟩, ⟨some 204, .mov (.t 14), none⟩, ⟨some 205, .mov (.t 15), none⟩, ⟨some 206, .mov (.t 16), none⟩, ⟨some 207, .mov (.t 17), none⟩, ⟨some 208, .mov (.t 18), none⟩, ⟨some 209, (.bldI .u32 8 [(0, (.t 201)), (1, (.t 202)), (2, (.t 203)), (3, (.t 204)), (4, (.t 205)), (5, (.t 206)), (6, (.t 207)), (7, (.t 208))]), none⟩, ⟨some 210, (.mov (.k (.v (.int .i64 0)))), none⟩]) (.block 6 (.loop (.seq (.reg false [⟨some 211, (.bin .lss (.t 210) (.k (.v (.int .i64 8)))), none⟩]) (.seq (.cond (.t 211) .skip (.exit 6)) (.seq (.block 7 (.seq (.reg false [⟨some 212, .mov (.t 210), none⟩, ⟨some 213, (.idxV (.t 209) (.t 210) 8), none⟩, ⟨some 22, .mov (.t 212), none⟩, ⟨some 23, .mov (.t 213), none⟩]) (.regD (.pure ⟨some 214, .mov (.t 0), none⟩ (.pure ⟨some 215, .mov (.t 22), none⟩ (.pure ⟨some 216, .nilck (.t 214), none⟩ (.pure ⟨some 217, (.idxP (.t 216) (.t 215) 8 1), none⟩ (.pure ⟨some 218, .ld (.t 217), none⟩ (.pure ⟨some 219, .mov (.t 23), none⟩ (.pure ⟨some 220, (.bin .add (.t 218) (.t 219)), none⟩ (.pure ⟨some 221, .nilck (.t 214), none⟩ (.pure ⟨some 222, (.idxP (.t 221) (.t 215) 8 1), none⟩ (.act ⟨.none, (.st (.t 222) (.t 220)), none⟩ [] .fin .stop))))))))))))) (.reg false [⟨some 223, (.bin .add (.t 210) (.k (.v (.int .i64 1)))), none⟩, ⟨some 210, .mov (.t 223), none⟩])))))))))))) []
def m32 : MFn := .mk 27 (.seq (.reg false [⟨some 1, (.box (.t 0)), none⟩, ⟨some 2, (.mov (.k (.v (.string ⟨#[]⟩)))), none⟩]) (.seq (.reg false [⟨some 3, .mov (.k (.sl 0 0 0 1)), none⟩]) (.seq (.seq (.reg false [⟨some 6, (.ldn (.t 1) 8), none⟩, ⟨some 7, (.mov (.k (.v (.int .i64 0)))), none⟩]) (.block 0 (.loop (.seq (.reg false [⟨some 8, (.bin .lss (.t 7) (.k (.v (.int .i64 8)))), none⟩]) (.seq (.cond (.t 8) .skip (.exit 0)) (.seq (.block 1 (.seq (.reg false [⟨some 9, (.idxV (.t 6) (.t 7) 8), none⟩, ⟨some 5, .mov (.t 9), none⟩]) (.reg false [⟨some 10, .mov (.t 3), none⟩, ⟨some 11, .mov (.t 5), none⟩, ⟨some 12, (.bin .shr (.t 11) (.k (.v (.int .u64 24)))), none⟩, ⟨some 13, (.conv .u8 (.t 12)), none⟩, ⟨some 14, .mov (.t 5), none⟩, ⟨some 15, (.bin .shr (.t 14) (.k (.v (.int .u64 16)))), none⟩, ⟨some 16, (.conv .u8 (.t 15)), none⟩, ⟨some 17, .mov (.t 5), none⟩, ⟨some 18, (.bin .shr (.t 17) (.k (.v (.int .u64 8)))), none⟩, ⟨some 19, (.conv .u8 (.t 18)), none⟩, ⟨some 20, .mov (.t 5), none⟩, ⟨some 21, (.conv .u8 (.t 20)), none⟩, ⟨some 22, (.rowI .u8 [(.t 13), (.t 16), (.t 19), (.t 21)]), none⟩, ⟨some 23, (.app (.t 10) (.t 22) (.ints .u8 []) 1 1), none⟩, ⟨some 3, .mov (.t 23), none⟩]))) (.reg false [⟨some 24, (.bin .add (.t 7) (.k (.v (.int .i64 1)))), none⟩, ⟨some 7, .mov (.t 24), none⟩]))))))) (.seq (.reg false [⟨some 25, .mov (.t 3), none⟩, ⟨some 26, (.b2s (.t 25)), none⟩, ⟨some 2, .mov (.t 26), none⟩]) .ret)))) [(.t 2)]
def m33 : MFn := .mk 2 (.seq (.reg false [⟨some 0, (.alloc (.ints .u32 [0, 0, 0, 0, 0, 0, 0, 0, 0, 0, 0, 0, 0, 0, 0, 0, 0, 0, 0, 0, 0, 0, 0, 0, 0, 0, 0, 0, 0, 0, 0, 0, 0, 0, 0, 0, 0, 0, 0, 0, 0, 0, 0, 0, 0, 0, 0, 0, 0, 0, 0, 0, 0, 0, 0, 0, 0, 0, 0, 0, 0, 0, 0, 0])), none⟩]) (.seq (.reg false [⟨some 1, (.bldI .u32 64 [(0, (.k (.v (.int .u32 1116352408)))), (1, (.k (.v (.int .u32 1899447441)))), (2, (.k (.v (.int .u32 3049323471)))), (3, (.k (.v (.int .u32 3921009573)))), (4, (.k (.v (.int .u32 961987163)))), (5, (.k (.v (.int .u32 1508970993)))), (6, (.k (.v (.int .u32 2453635748)))), (7, (.k (.v (.int .u32 2870763221)))), (8, (.k (.v (.int .u32 3624381080)))), (9, (.k (.v (.int .u32 310598401)))), (10, (.k (.v (.int .u32 607225278)))), (11, (.k (.v (.int .u32 1426881987)))), (12, (.k (.v (.int .u32 1925078388)))), (13, (.k (.v (.int .u32 2162078206)))), (14, (.k (.v (.int .u32 2614888103)))), (15, (.k (.v (.int .u32 3248222580)))), (16, (.k (.v (.int .u32 3835390401)))), (17, (.k (.v (.int .u32 4022224774)))), (18, (.k (.v (.int .u32 264347078)))), (19, (.k (.v (.int .u32 604807628)))), (20, (.k (.v (.int .u32 770255983)))), (21, (.k (.v (.int .u32 1249150122)))), (22, (.k (.v (.int .u32 1555081692)))), (23, (.k (.v (.int .u32 1996064986)))), (24, (.k (.v (.int .u32 2554220882)))), (25, (.k (.v (.int .u32 2821834349)))), (26, (.k (.v (.int .u32 2952996808)))), (27, (.k (.v (.int .u32 3210313671)))), (28, (.k (.v (.int .u32 3336571891)))), (29, (.k (.v (.int .u32 3584528711)))), (30, (.k (.v (.int .u32 113926993)))), (31, (.k (.v (.int .u32 338241895)))), (32, (.k (.v (.int .u32 666307205)))), (33, (.k (.v (.int .u32 773529912)))), (34, (.k (.v (.int .u32 1294757372)))), (35, (.k (.v (.int .u32 1396182291)))), (36, (.k (.v (.int .u32 1695183700)))), (37, (.k (.v (.int .u32 1986661051)))), (38, (.k (.v (.int .u32 2177026350)))), (39, (.k (.v (.int .u32 2456956037)))), (40, (.k (.v (.int .u32 2730485921)))), (41, (.k (.v (.int .u32 2820302411)))), (42, (.k (.v (.int .u32 3259730800)))), (43, (.k (.v (.int .u32 3345764771)))), (44, (.k (.v (.int .u32 3516065817)))), (45, (.k (.v (.int .u32 3600352804)))), (46, (.k (.v (.int .u32 4094571909)))), (47, (.k (.v (.int .u32 275423344)))), (48, (.k (.v (.int .u32 430227734)))), (49, (.k (.v (.int .u32 506948616)))), (50, (.k (.v (.int .u32 659060556)))), (51, (.k (.v (.int .u32 883997877)))), (52, (.k (.v (.int .u32 958139571)))), (53, (.k (.v (.int .u32 1322822218)))), (54, (.k (.v (.int .u32 1537002063)))), (55, (.k (.v (.int .u32 1747873779)))), (56, (.k (.v (.int .u32 1955562222)))), (57, (.k (.v (.int .u32 2024104815)))), (58, (.k (.v (.int .u32 2227730452)))), (59, (.k (.v (.int .u32 2361852424)))), (60, (.k (.v (.int .u32 2428436474)))), (61, (.k (.v (.int .u32 2756734187)))), (62, (.k (.v (.int .u32 3204031479)))), (63, (.k (.v (.int .u32 3329325298))))]), none⟩, ⟨.none, (.stn (.t 0) (.t 1) 64), none⟩]) .ret)) [(.cn 0 64)]
def m36 : MFn := .mk 9 (.seq (.reg false [⟨some 4, (.mov (.k (.v (.int .u32 0)))), none⟩]) (.seq (.reg false [⟨some 5, .mov (.t 0), none⟩, ⟨some 6, .mov (.t 1), none⟩, ⟨some 7, (.un .neg (.t 6)), none⟩, ⟨some 8, (.call 158 [(.t 5), (.t 7)]), none⟩, ⟨some 4, .mov (.t 8), none⟩]) .ret)) [(.t 4)]
def m45 : MFn := .mk 17 (.seq (.reg false [⟨some 4, (.mov (.k (.v (.int .u32 0)))), none⟩]) (.seq (.reg false [⟨some 6, .mov (.t 1), none⟩, ⟨some 7, (.conv .u64 (.t 6)), none⟩, ⟨some 8, (.bin .and (.t 7) (.k (.v (.int .u64 31)))), none⟩, ⟨some 5, .mov (.t 8), none⟩]) (.seq (.reg false [⟨some 9, .mov (.t 0), none⟩, ⟨some 10, .mov (.t 5), none⟩, ⟨some 11, (.bin .shl (.t 9) (.t 10)), none⟩, ⟨some 12, .mov (.t 0), none⟩, ⟨some 13, .mov (.t 5), none⟩, ⟨some 14, (.bin .sub (.k (.v (.int .u64 32))) (.t 13)), none⟩, ⟨some 15, (.bin .shr (.t 12) (.t 14)), none⟩, ⟨some 16, (.bin .or (.t 11) (.t 15)), none⟩, ⟨some 4, .mov (.t 16), none⟩]) .ret))) [(.t 4)]
theorem t9 : trFn Go.Proofs.Tryz.prog 102 = some m9 := by kernel_rfl
theorem t23 : trFn Go.Proofs.Tryz.prog 129 = some m23 := by kernel_rfl
theorem t24 : trFn Go.Proofs.Tryz.prog 135 = some m24 := by kernel_rfl
theorem t28 : trFn Go.Proofs.Tryz.prog 136 = some m28 := by kernel_rfl
theorem t29 : trFn Go.Proofs.Tryz.prog 137 = some m29 := by kernel_rfl
theorem t30 : trFn Go.Proofs.Tryz.prog 138 = some m30 := by kernel_rfl
theorem t32 : trFn Go.Proofs.Tryz.prog 139 = some m32 := by kernel_rfl
theorem t33 : trFn Go.Proofs.Tryz.prog 143 = some m33 := by kernel_rfl
theorem t36 : trFn Go.Proofs.Tryz.prog 145 = some m36 := by kernel_rfl
theorem t45 : trFn Go.Proofs.Tryz.prog 158 = some m45 := by kernel_rfl
end Go.Sx

/- Layer 1's functions, at this program. -/
set_option linter.unusedVariables false
set_option linter.unusedSimpArgs false
set_option maxRecDepth 100000
namespace Go.Sx
attribute [local go_sem ↓] det_call bind_mk intsB_mk strsB_mk svB_mk fnVC ob_some vc_skip vc_exit vc_ret vc_seq vc_block kSeq_normal kSeq_exit kSeq_ret kBlock_normal kBlock_exit kBlock_ret vc_reg vc_regD vc_cond condK_true condK_false vc_loop kLoop_exit kLoop_ret kRoll_normal kRoll_exit kRoll_ret vcOps_nil vcOps_cons V_none V_some gd_bool gd_undef put_some put_none vcT_fin vcT_pure vcT_act vcT_acts vcT_stop stab_none stab_some stabM_nil stabM_cons stabO_ld stabO_ldn stabO_slP stabO_b2s fldOf_ai fldOf_agg fldOf_ait fldOf_aggt intsOf_nil intsOf_cons strsOf_nil strsOf_cons c_omap ob_if lk_nil lk_cons ev_t ev_k z_mov z_pick z_bin z_binA z_binB z_binP z_un z_r2s z_conv z_s2b z_b2s z_mkM z_luM z_upM z_lenM lenMk_mp lenMk_nil plsOf_v z_delM asM_so plV_v plV_agg mpOf_mp mpOf_nil mpUp_mp asM_mp luV_ok luV_v z_allocT aggOf_mk z_boxT z_alloc z_bld z_bldI z_rowI z_rowS z_ld z_ldn z_st z_stn asN_ptr asN_fn z_nilck z_fld z_fadr z_idxA z_idxP z_idxS z_idxV z_slS z_slL z_slP z_mk z_lenS z_lenL z_app appC_ints appC_pl appC_sv appC_strs isS_strs loose_ints loose_pl loose_sv z_slM z_callv callvK_fn callvK_f callvK_yl vc_rangeF rfEnd_eq rfGo_none rfGo_ret rfGo_exit yGo_mk yEnd_n yEnd_r yEnd_e yRdy_mk yMid_n putPs_nil putPs_cons leaf_v leaf_ptr leaf_sl leaf_yl leaf_mp z_appS z_appST z_appZ z_cpyS z_mkfn reps_int reps_str z_rowV z_slnil nilK_zero z_cpy z_call asT_tup z_extT z_box boxOf_ai boxOf_agg boxOf_int boxOf_str boxOf_bool boxOf_ptr boxOf_sl sbin_int sbin_str sbinA_mk ae_nil ae_int ae_str sbinB_mk sbinP_nn sbinP_pn sbinP_np i_add i_sub i_mul i_quo i_rem i_and i_or i_xor i_andNot i_shl i_shr i_eql i_neq i_lss i_leq i_gtr i_geq st_add st_eql st_neq st_lss st_leq st_gtr st_geq bo_eql bo_neq pt_eql pt_neq un_neg un_xor un_not asI_mk asB_mk asS_mk asP_mk asSl_mk asBy_mk fresh_eq bnd_none bnd_some get_mk hput_mk hdel_mk kill_eq wrOf_eq rowOf_eq rsvs_0 rsvs_1 rsvs_2 rsvs_3 rsv_t rsv_c1 rsv_cn nt_v nt_ptr nt_sl nt_agg nt_ai get_ints get_strs get_pl get_sv getN_ints getN_sv set_ints set_strs set_sv setN_ints setN_sv part_ints part_strs part_sv cat_ints cat_strs cat_sv over_ints over_strs over_sv ones_ints ones_strs evs_nil evs_cons condK_eqt condK_eqf
attribute [local go_sem] initTm ne_eq not_true_eq_false not_false_eq_true true_and and_true List.length_cons List.length_nil Int.toNat_natCast Nat.add_zero Nat.zero_add Nat.mul_one List.getElem?_cons_zero List.drop_zero List.take_length List.take_succ_cons List.take_zero List.take_nil List.drop_succ_cons Option.map_some Nat.le_refl implies_true List.getElem?_cons_succ decide_true decide_false Bool.not_true Bool.not_false beq_self_eq_true Nat.succ_ne_self Nat.one_ne_zero Nat.zero_ne_one
section
open Go.Proofs
variable {C : Tab} {H : Hp} {n : Nat}
def rr (x n : Int) : Int := ior .u32 (ishr .u32 x n) (ishl .u32 x (32 - n))
def c45 : Ctr := fun args H n => match args with
  | [.v (.int .u32 x), .v (.int .i64 k)] => some (.v (.int .u32 (ior .u32 (ishl .u32 x (iand .u64 (IntKind.u64.wrap k) 31)) (ishr .u32 x (IntKind.u64.wrap (32 - iand .u64 (IntKind.u64.wrap k) 31))))), H, n)
  | _ => none
theorem w45 (x k : Int) : fnVC C m45 [.v (.int .u32 x), .v (.int .i64 k)] H n fun v H' n' => v = .v (.int .u32 (ior .u32 (ishl .u32 x (iand .u64 (IntKind.u64.wrap k) 31)) (ishr .u32 x (IntKind.u64.wrap (32 - iand .u64 (IntKind.u64.wrap k) 31))))) ∧ H' = H ∧ n' = n := by
  unfold m45
  simp -implicitDefEqProofs only [go_sem, ↓reduceIte, Nat.reduceEqDiff, Nat.reduceAdd, Nat.reduceMul, Nat.reduceLT, Nat.reduceLeDiff, Nat.reduceSub, Int.reduceToNat, Int.reduceLE, Int.reduceLT, reduceCtorEq]
  exact ⟨iand_nn rfl _ _, wrap_nn rfl _⟩
def c36 : Ctr := fun args H n => match args with
  | [.v (.int .u32 x), .v (.int .i64 k)] => if 0 < k ∧ k < 32 then some (.v (.int .u32 (rr x k)), H, n) else none
  | _ => none
theorem rot_eq {x k : Int} (h : 0 < k ∧ k < 32) : ior .u32 (ishl .u32 x (iand .u64 (IntKind.u64.wrap (IntKind.i64.wrap (0 - k))) 31)) (ishr .u32 x (IntKind.u64.wrap (32 - iand .u64 (IntKind.u64.wrap (IntKind.i64.wrap (0 - k))) 31))) = rr x k := by
  have e1 : iand .u64 (IntKind.u64.wrap (IntKind.i64.wrap (0 - k))) 31 = 32 - k := by
    have : k = 1 ∨ k = 2 ∨ k = 3 ∨ k = 4 ∨ k = 5 ∨ k = 6 ∨ k = 7 ∨ k = 8 ∨ k = 9 ∨ k = 10 ∨ k = 11 ∨ k = 12 ∨ k = 13 ∨ k = 14 ∨ k = 15 ∨ k = 16 ∨ k = 17 ∨ k = 18 ∨ k = 19 ∨ k = 20 ∨ k = 21 ∨ k = 22 ∨ k = 23 ∨ k = 24 ∨ k = 25 ∨ k = 26 ∨ k = 27 ∨ k = 28 ∨ k = 29 ∨ k = 30 ∨ k = 31 := by omega
    rcases this with h | h | h | h | h | h | h | h | h | h | h | h | h | h | h | h | h | h | h | h | h | h | h | h | h | h | h | h | h | h | h <;> subst h <;> decide
  rw [e1, wrap_u64r (by omega) (by omega), ior_comm, show 32 - (32 - k) = k by omega]
  rfl
theorem w36 (h45 : C 158 = det c45) (x k : Int) (hk : 0 < k ∧ k < 32) : fnVC C m36 [.v (.int .u32 x), .v (.int .i64 k)] H n fun v H' n' => v = .v (.int .u32 (rr x k)) ∧ H' = H ∧ n' = n := by
  unfold m36
  simp -implicitDefEqProofs only [go_sem, ↓reduceIte, Nat.reduceEqDiff, Nat.reduceAdd, Nat.reduceMul, Nat.reduceLT, Nat.reduceLeDiff, Nat.reduceSub, Int.reduceToNat, Int.reduceLE, Int.reduceLT, reduceCtorEq, h45, c45]
  rw [rot_eq hk]
def iv : List Int := [1779033703, 3144134277, 1013904242, 2773480762, 1359893119, 2600822924, 528734635, 1541459225]
variable {x : Nat → Option SO}
theorem w28 : fnVC C m28 [] ⟨[], x⟩ 1 fun v H' n' => Sub 1 ⟨[(0, .ai .u32 iv)], ⟨[], x⟩, 1⟩ ⟨[(0, v)], H', n'⟩ := by
  unfold m28
  simp -implicitDefEqProofs only [go_sem, ↓reduceIte, Nat.reduceEqDiff, Nat.reduceAdd, Nat.reduceMul, Nat.reduceLT, Nat.reduceLeDiff, Nat.reduceSub, Int.reduceToNat, Int.reduceLE, Int.reduceLT, reduceCtorEq]
  refine ob_of rfl (ob_of rfl ?_)
  exact ⟨by decide, by decide, sub_val rfl (by decide) (by decide) rfl⟩
def kk : List Int := [1116352408, 1899447441, 3049323471, 3921009573, 961987163, 1508970993, 2453635748, 2870763221, 3624381080, 310598401, 607225278, 1426881987, 1925078388, 2162078206, 2614888103, 3248222580, 3835390401, 4022224774, 264347078, 604807628, 770255983, 1249150122, 1555081692, 1996064986, 2554220882, 2821834349, 2952996808, 3210313671, 3336571891, 3584528711, 113926993, 338241895, 666307205, 773529912, 1294757372, 1396182291, 1695183700, 1986661051, 2177026350, 2456956037, 2730485921, 2820302411, 3259730800, 3345764771, 3516065817, 3600352804, 4094571909, 275423344, 430227734, 506948616, 659060556, 883997877, 958139571, 1322822218, 1537002063, 1747873779, 1955562222, 2024104815, 2227730452, 2361852424, 2428436474, 2756734187, 3204031479, 3329325298]
theorem w29 : fnVC C m29 [] ⟨[], x⟩ 1 fun v H' n' => Sub 1 ⟨[(0, .ptr 1 0)], ⟨[(1, some ⟨true, .ints .u32 kk⟩)], x⟩, 2⟩ ⟨[(0, v)], H', n'⟩ := by
  unfold m29
  simp -implicitDefEqProofs only [go_sem, ↓reduceIte, Nat.reduceEqDiff, Nat.reduceAdd, Nat.reduceMul, Nat.reduceLT, Nat.reduceLeDiff, Nat.reduceSub, Int.reduceToNat, Int.reduceLE, Int.reduceLT, reduceCtorEq]
  refine ob_of rfl (ob_of rfl ?_)
  exact sub_mk [] rfl rfl rfl (by simp only [tmSub, hpSub, objSub, eqTm, eqHp, rn, lk, SV.ren, SV.renC, SV.renB, SV.renA, ren_ints, ren_strs, ren_pl, ren_svs, SV.v.injEq, Value.int.injEq, Body.ints.injEq, SV.ptr.injEq, SV.sl.injEq, Value.string.injEq, Value.bool.injEq, List.map_cons, List.map_nil, forall_const, Nat.reduceLT, Nat.lt_add_one, imp_self, true_and, and_true, and_self, ob_some, get_mk, lk_cons, ↓reduceIte, Nat.reduceEqDiff, ne_eq, not_true_eq_false, not_false_eq_true, Nat.one_ne_zero, Nat.zero_ne_one, Nat.succ_ne_self, Nat.reduceAdd, Bool.false_eq_true, false_implies, implies_true, reduceCtorEq]; rfl)
variable {C : Tab} {H : Hp} {n : Nat} {x : Nat → Option SO}
def add32 (a b : Int) : Int := IntKind.u32.wrap (a + b)
def word (ys : List Int) (o : Nat) : Int := ior .u32 (ior .u32 (ior .u32 (ishl .u32 (IntKind.u32.wrap (ys.getD o 0)) 24) (ishl .u32 (IntKind.u32.wrap (ys.getD (o + 1) 0)) 16)) (ishl .u32 (IntKind.u32.wrap (ys.getD (o + 2) 0)) 8)) (IntKind.u32.wrap (ys.getD (o + 3) 0))
def sg0 (x : Int) : Int := ixor .u32 (ixor .u32 (rr x 7) (rr x 18)) (ishr .u32 x 3)
def sg1 (x : Int) : Int := ixor .u32 (ixor .u32 (rr x 17) (rr x 19)) (ishr .u32 x 10)
def nxt (w : List Int) (t : Nat) : Int := add32 (add32 (add32 (w.getD (t - 16) 0) (sg0 (w.getD (t - 15) 0))) (w.getD (t - 7) 0)) (sg1 (w.getD (t - 2) 0))
def Ws (ys : List Int) (o : Nat) : Nat → List Int
  | 0 => []
  | t + 1 => Ws ys o t ++ [if t < 16 then word ys (o + 4 * t) else nxt (Ws ys o t) t]
theorem Ws_len (ys : List Int) (o : Nat) : ∀ t, (Ws ys o t).length = t
  | 0 => rfl
  | t + 1 => by simp [Ws, Ws_len ys o t]
def Wa (ys : List Int) (o t : Nat) : List Int := Ws ys o t ++ List.replicate (64 - t) 0
theorem Wa_len (ys : List Int) (o : Nat) {t : Nat} (h : t ≤ 64) : (Wa ys o t).length = 64 := by simp [Wa, Ws_len]; omega
theorem Wa_get (ys : List Int) (o : Nat) {t i : Nat} (h : i < t) : (Wa ys o t).getD i 0 = (Ws ys o t).getD i 0 := by
  simp only [Wa, List.getD_eq_getElem?_getD]
  rw [List.getElem?_append_left (by rw [Ws_len]; exact h)]
theorem Wa_set (ys : List Int) (o : Nat) {t : Nat} (h : t < 64) : (Wa ys o t).set t (if t < 16 then word ys (o + 4 * t) else nxt (Ws ys o t) t) = Wa ys o (t + 1) := by
  have e : List.replicate (64 - t) (0 : Int) = 0 :: List.replicate (64 - (t + 1)) 0 := by
    rw [show 64 - t = (64 - (t + 1)) + 1 by omega, List.replicate_succ]
  have := set_mid (Ws ys o t) (List.replicate (64 - (t + 1)) 0) 0 (if t < 16 then word ys (o + 4 * t) else nxt (Ws ys o t) t)
  rw [Ws_len] at this
  unfold Wa
  rw [e, this]
  simp [Ws]
def sG1 (e : Int) : Int := ixor .u32 (ixor .u32 (rr e 6) (rr e 11)) (rr e 25)
def sG0 (a : Int) : Int := ixor .u32 (ixor .u32 (rr a 2) (rr a 13)) (rr a 22)
def not32 (e : Int) : Int := ixor .u32 (if IntKind.u32.signed = true then -1 else IntKind.u32.max) e
def chf (e f g : Int) : Int := ixor .u32 (iand .u32 e f) (iand .u32 (not32 e) g)
def mjf (a b c : Int) : Int := ixor .u32 (ixor .u32 (iand .u32 a b) (iand .u32 a c)) (iand .u32 b c)
def pf (u : List Int) (k w : Int) : Int := add32 (add32 (add32 (add32 (u.getD 7 0) (sG1 (u.getD 4 0))) (chf (u.getD 4 0) (u.getD 5 0) (u.getD 6 0))) k) w
def qf (u : List Int) : Int := add32 (sG0 (u.getD 0 0)) (mjf (u.getD 0 0) (u.getD 1 0) (u.getD 2 0))
def stp (u : List Int) (k w : Int) : List Int := [add32 (pf u k w) (qf u), u.getD 0 0, u.getD 1 0, u.getD 2 0, add32 (u.getD 3 0) (pf u k w), u.getD 4 0, u.getD 5 0, u.getD 6 0]
def Rd (vs ks W : List Int) : Nat → List Int
  | 0 => vs
  | t + 1 => stp (Rd vs ks W t) (ks.getD t 0) (W.getD t 0)
def Va (vs u : List Int) (i : Nat) : List Int := (List.range 8).map fun j => if j < i then add32 (vs.getD j 0) (u.getD j 0) else vs.getD j 0
theorem Va_len (vs u : List Int) (i : Nat) : (Va vs u i).length = 8 := by simp [Va]
theorem Va_0 (vs u : List Int) (h : vs.length = 8) : Va vs u 0 = vs := by
  refine List.ext_getElem (by simp [Va, h]) fun j h1 h2 => ?_
  simp [Va, List.getD_eq_getElem?_getD, h2]
theorem Va_get (vs u : List Int) {i : Nat} (h : i < 8) : (Va vs u i).getD i 0 = vs.getD i 0 := by
  simp [Va, List.getD_eq_getElem?_getD, h]
theorem Va_set (vs u : List Int) {i : Nat} (h : i < 8) : (Va vs u i).set i (add32 (vs.getD i 0) (u.getD i 0)) = Va vs u (i + 1) := by
  refine List.ext_getElem (by simp [Va]) fun j h1 h2 => ?_
  simp only [Va, List.getElem_set, List.getElem_map, List.getElem_range]
  by_cases e : i = j
  · subst e; simp
  · simp only [e, if_false]
    by_cases e2 : j < i
    · rw [if_pos e2, if_pos (by omega)]
    · rw [if_neg e2, if_neg (by omega)]
def U8 (u : List Int) : List Int := [u.getD 0 0, u.getD 1 0, u.getD 2 0, u.getD 3 0, u.getD 4 0, u.getD 5 0, u.getD 6 0, u.getD 7 0]
theorem U8_get (u : List Int) {i : Nat} (h : i < 8) : (U8 u).getD i 0 = u.getD i 0 := by
  have : i = 0 ∨ i = 1 ∨ i = 2 ∨ i = 3 ∨ i = 4 ∨ i = 5 ∨ i = 6 ∨ i = 7 := by omega
  rcases this with h | h | h | h | h | h | h | h <;> subst h <;> rfl
def blk (vs ks ys : List Int) (o : Nat) : List Int := Va vs (Rd vs ks (Wa ys o 64) 64) 8
theorem w30 {mk : List Int → Body} {vs ks ys : List Int} {o : Nat} (hC : C 145 = det c36)
    (hg : ∀ vs i K, vs.length = 8 → i < 8 → K (.v (.int .u32 (vs.getD i 0))) → (mk vs).get i K)
    (hs : ∀ vs i y K, vs.length = 8 → i < 8 → K (mk (vs.set i y)) → (mk vs).set i (.v (.int .u32 y)) K)
    (hlt : ∀ vs n, (mk vs).lt (n + 1) = true) (hren : ∀ vs, (mk vs).ren [] = mk vs) (hv : vs.length = 8) (hk : ks.length = 64) (ho : o + 64 ≤ ys.length) :
    fnVC C m30 [.ptr 1 0, .ptr 2 0, .sl 3 o 64 1] ⟨[(1, some ⟨true, mk vs⟩), (2, some ⟨false, .ints .u32 ks⟩), (3, some ⟨false, .ints .u8 ys⟩)], x⟩ 4 fun v H' n' => Sub 4 ⟨[(0, .tup [])], ⟨[(1, some ⟨true, mk (blk vs ks ys o)⟩)], x⟩, 4⟩ ⟨[(0, v)], H', n'⟩ := by
  have hlt1 : ∀ n, (mk vs).lt (n + 1) = true := hlt vs
  unfold m30
  simp -implicitDefEqProofs only [go_sem, ↓reduceIte, Nat.reduceEqDiff, Nat.reduceAdd, Nat.reduceMul, Nat.reduceLT, Nat.reduceLeDiff, Nat.reduceSub, Int.reduceToNat, Int.reduceLE, Int.reduceLT, reduceCtorEq]
  refine loop_fam (fun t : Nat => t ≤ 16) (fun t => ⟨[(0, .ptr 1 0), (1, .ptr 2 0), (2, .sl 3 o 64 1), (6, .ptr 4 0), (24, .v (.int .i64 t))], ⟨[(1, some ⟨true, mk vs⟩), (2, some ⟨false, .ints .u32 ks⟩), (3, some ⟨false, .ints .u8 ys⟩), (4, some ⟨true, .ints .u32 (Wa ys o t)⟩)], x⟩, 5⟩) (fun t => 16 - t) 0 (by omega) ?_ ?_
  · exact sub0 rfl (by simp only [wfHp, hlt]; rfl) (by simp only [tmSub, hpSub, objSub, eqTm, eqHp, rn, lk, SV.ren, SV.renC, SV.renB, SV.renA, ren_ints, ren_strs, ren_pl, ren_svs, SV.v.injEq, Value.int.injEq, Body.ints.injEq, SV.ptr.injEq, SV.sl.injEq, Value.string.injEq, Value.bool.injEq, List.map_cons, List.map_nil, forall_const, Nat.reduceLT, Nat.lt_add_one, imp_self, true_and, and_true, and_self, ob_some, get_mk, lk_cons, ↓reduceIte, Nat.reduceEqDiff, ne_eq, not_true_eq_false, not_false_eq_true, Nat.one_ne_zero, Nat.zero_ne_one, Nat.succ_ne_self, Nat.reduceAdd, Bool.false_eq_true, false_implies, implies_true, reduceCtorEq]; exact ⟨rfl, rfl⟩)
  · intro t ht
    simp -implicitDefEqProofs only [go_sem, ↓reduceIte, Nat.reduceEqDiff, Nat.reduceAdd, Nat.reduceMul, Nat.reduceLT, Nat.reduceLeDiff, Nat.reduceSub, Int.reduceToNat, Int.reduceLE, Int.reduceLT, reduceCtorEq]
    refine condK_of (fun h => ?_) (fun h => ?_)
    · simp (disch := omega) only [wrap_i64]
      and_intros
      all_goals try omega
      · simp only [Wa_len _ _ (show t ≤ 64 by omega)]; omega
      · refine kLoop_mk (t + 1) (by omega) (by omega) (sub0 rfl (by simp only [wfHp, hlt]; rfl) ?_)
        simp only [tmSub, hpSub, objSub, eqTm, eqHp, rn, lk, SV.ren, SV.renC, SV.renB, SV.renA, ren_ints, ren_strs, ren_pl, ren_svs, SV.v.injEq, Value.int.injEq, Body.ints.injEq, SV.ptr.injEq, SV.sl.injEq, Value.string.injEq, Value.bool.injEq, List.map_cons, List.map_nil, forall_const, Nat.reduceLT, Nat.lt_add_one, imp_self, true_and, and_true, and_self, ob_some, get_mk, lk_cons, ↓reduceIte, Nat.reduceEqDiff, ne_eq, not_true_eq_false, not_false_eq_true, Nat.one_ne_zero, Nat.zero_ne_one, Nat.succ_ne_self, Nat.reduceAdd, Bool.false_eq_true, false_implies, implies_true, reduceCtorEq]
        refine ⟨by omega, ?_⟩
        rw [← Wa_set ys o (by omega), if_pos (by omega)]
        simp only [word, show (4 * (t : Int)).toNat = 4 * t by omega, show (4 * (t : Int) + 1).toNat = 4 * t + 1 by omega, show (4 * (t : Int) + 2).toNat = 4 * t + 2 by omega, show (4 * (t : Int) + 3).toNat = 4 * t + 3 by omega, Nat.add_assoc]
    · have e : t = 16 := by omega
      subst e
      refine loop_fam (fun t : Nat => 16 ≤ t ∧ t ≤ 64) (fun t => ⟨[(0, .ptr 1 0), (1, .ptr 2 0), (2, .sl 3 o 64 1), (6, .ptr 4 0), (8, .v (.int .i64 t))], ⟨[(1, some ⟨true, mk vs⟩), (2, some ⟨false, .ints .u32 ks⟩), (3, some ⟨false, .ints .u8 ys⟩), (4, some ⟨true, .ints .u32 (Wa ys o t)⟩)], x⟩, 5⟩) (fun t => 64 - t) 16 (by omega) ?_ ?_
      · exact sub0 rfl (by simp only [wfHp, hlt]; rfl) (by simp only [tmSub, hpSub, objSub, eqTm, eqHp, rn, lk, SV.ren, SV.renC, SV.renB, SV.renA, ren_ints, ren_strs, ren_pl, ren_svs, SV.v.injEq, Value.int.injEq, Body.ints.injEq, SV.ptr.injEq, SV.sl.injEq, Value.string.injEq, Value.bool.injEq, List.map_cons, List.map_nil, forall_const, Nat.reduceLT, Nat.lt_add_one, imp_self, true_and, and_true, and_self, ob_some, get_mk, lk_cons, ↓reduceIte, Nat.reduceEqDiff, ne_eq, not_true_eq_false, not_false_eq_true, Nat.one_ne_zero, Nat.zero_ne_one, Nat.succ_ne_self, Nat.reduceAdd, Bool.false_eq_true, false_implies, implies_true, reduceCtorEq]; rfl)
      · rintro t ⟨ht0, ht⟩
        simp -implicitDefEqProofs only [go_sem, ↓reduceIte, Nat.reduceEqDiff, Nat.reduceAdd, Nat.reduceMul, Nat.reduceLT, Nat.reduceLeDiff, Nat.reduceSub, Int.reduceToNat, Int.reduceLE, Int.reduceLT, reduceCtorEq, hC, c36]
        refine condK_of (fun h => ?_) (fun h => ?_)
        · simp (disch := omega) only [wrap_i64]
          and_intros
          all_goals try omega
          all_goals try (rw [Wa_len _ _ ht]; omega)
          refine kLoop_mk (t + 1) (by omega) (by omega) (sub0 rfl (by simp only [wfHp, hlt]; rfl) ?_)
          simp only [tmSub, hpSub, objSub, eqTm, eqHp, rn, lk, SV.ren, SV.renC, SV.renB, SV.renA, ren_ints, ren_strs, ren_pl, ren_svs, SV.v.injEq, Value.int.injEq, Body.ints.injEq, SV.ptr.injEq, SV.sl.injEq, Value.string.injEq, Value.bool.injEq, List.map_cons, List.map_nil, forall_const, Nat.reduceLT, Nat.lt_add_one, imp_self, true_and, and_true, and_self, ob_some, get_mk, lk_cons, ↓reduceIte, Nat.reduceEqDiff, ne_eq, not_true_eq_false, not_false_eq_true, Nat.one_ne_zero, Nat.zero_ne_one, Nat.succ_ne_self, Nat.reduceAdd, Bool.false_eq_true, false_implies, implies_true, reduceCtorEq]
          refine ⟨by omega, ?_⟩
          rw [← Wa_set ys o (by omega), if_neg (by omega)]
          simp only [show ((t : Int) - 15).toNat = t - 15 by omega, show ((t : Int) - 2).toNat = t - 2 by omega, show ((t : Int) - 16).toNat = t - 16 by omega, show ((t : Int) - 7).toNat = t - 7 by omega, Wa_get ys o (show t - 15 < t by omega), Wa_get ys o (show t - 2 < t by omega), Wa_get ys o (show t - 16 < t by omega), Wa_get ys o (show t - 7 < t by omega)]
          rfl
        · have e : t = 64 := by omega
          subst e
          have hW : (Wa ys o 64).length = 64 := Wa_len _ _ (Nat.le_refl _)
          unfold blk
          generalize Wa ys o 64 = W at hW ⊢
          refine ⟨by omega, hg _ _ _ hv (by omega) ⟨by omega, hg _ _ _ hv (by omega) ⟨by omega, hg _ _ _ hv (by omega) ⟨by omega, hg _ _ _ hv (by omega) ⟨by omega, hg _ _ _ hv (by omega) ⟨by omega, hg _ _ _ hv (by omega) ⟨by omega, hg _ _ _ hv (by omega) ⟨by omega, hg _ _ _ hv (by omega) ?_⟩⟩⟩⟩⟩⟩⟩⟩
          refine loop_fam (fun t : Nat => t ≤ 64) (fun t => ⟨[(0, .ptr 1 0), (1, .ptr 2 0), (6, .ptr 4 0), (136, .v (.int .i64 t)), (11, .v (.int .u32 ((Rd vs ks W t).getD 0 0))), (12, .v (.int .u32 ((Rd vs ks W t).getD 1 0))), (13, .v (.int .u32 ((Rd vs ks W t).getD 2 0))), (14, .v (.int .u32 ((Rd vs ks W t).getD 3 0))), (15, .v (.int .u32 ((Rd vs ks W t).getD 4 0))), (16, .v (.int .u32 ((Rd vs ks W t).getD 5 0))), (17, .v (.int .u32 ((Rd vs ks W t).getD 6 0))), (18, .v (.int .u32 ((Rd vs ks W t).getD 7 0)))], ⟨[(1, some ⟨true, mk vs⟩), (2, some ⟨false, .ints .u32 ks⟩), (4, some ⟨true, .ints .u32 W⟩)], x⟩, 5⟩) (fun t => 64 - t) 0 (by omega) ?_ ?_
          · exact sub0 rfl (by simp only [wfHp, hlt]; rfl) (by simp only [tmSub, hpSub, objSub, eqTm, eqHp, rn, lk, SV.ren, SV.renC, SV.renB, SV.renA, ren_ints, ren_strs, ren_pl, ren_svs, SV.v.injEq, Value.int.injEq, Body.ints.injEq, SV.ptr.injEq, SV.sl.injEq, Value.string.injEq, Value.bool.injEq, List.map_cons, List.map_nil, forall_const, Nat.reduceLT, Nat.lt_add_one, imp_self, true_and, and_true, and_self, ob_some, get_mk, lk_cons, ↓reduceIte, Nat.reduceEqDiff, ne_eq, not_true_eq_false, not_false_eq_true, Nat.one_ne_zero, Nat.zero_ne_one, Nat.succ_ne_self, Nat.reduceAdd, Bool.false_eq_true, false_implies, implies_true, reduceCtorEq]; exact ⟨rfl, rfl, rfl, rfl, rfl, rfl, rfl, rfl, rfl⟩)
          · intro t ht
            generalize hu : Rd vs ks W t = u
            simp -implicitDefEqProofs only [go_sem, ↓reduceIte, Nat.reduceEqDiff, Nat.reduceAdd, Nat.reduceMul, Nat.reduceLT, Nat.reduceLeDiff, Nat.reduceSub, Int.reduceToNat, Int.reduceLE, Int.reduceLT, reduceCtorEq, hC, c36]
            refine condK_of (fun h => ?_) (fun h => ?_)
            · simp (disch := omega) only [wrap_i64]
              and_intros
              all_goals try omega
              refine kLoop_mk (t + 1) (by omega) (by omega) (sub0 rfl (by simp only [wfHp, hlt]; rfl) ?_)
              simp only [tmSub, hpSub, objSub, eqTm, eqHp, rn, lk, SV.ren, SV.renC, SV.renB, SV.renA, ren_ints, ren_strs, ren_pl, ren_svs, SV.v.injEq, Value.int.injEq, Body.ints.injEq, SV.ptr.injEq, SV.sl.injEq, Value.string.injEq, Value.bool.injEq, List.map_cons, List.map_nil, forall_const, Nat.reduceLT, Nat.lt_add_one, imp_self, true_and, and_true, and_self, ob_some, get_mk, lk_cons, ↓reduceIte, Nat.reduceEqDiff, ne_eq, not_true_eq_false, not_false_eq_true, Nat.one_ne_zero, Nat.zero_ne_one, Nat.succ_ne_self, Nat.reduceAdd, Bool.false_eq_true, false_implies, implies_true, reduceCtorEq, Rd, hu, stp]
              exact ⟨by omega, rfl, rfl, rfl, rfl, rfl, rfl, rfl, rfl⟩
            · have e : t = 64 := by omega
              subst e
              rw [hu]
              refine ob_of rfl (ob_of (a := U8 u) rfl ?_)
              refine loop_fam (fun i : Nat => i ≤ 8) (fun i => ⟨[(0, .ptr 1 0), (209, .ai .u32 (U8 u)), (210, .v (.int .i64 i))], ⟨[(1, some ⟨true, mk (Va vs u i)⟩)], x⟩, 5⟩) (fun i => 8 - i) 0 (by omega) ?_ ?_
              · exact sub0 rfl (by simp only [wfHp, hlt]; rfl) (by simp only [tmSub, hpSub, objSub, eqTm, eqHp, rn, lk, SV.ren, SV.renC, SV.renB, SV.renA, ren_ints, ren_strs, ren_pl, ren_svs, SV.v.injEq, Value.int.injEq, Body.ints.injEq, SV.ptr.injEq, SV.sl.injEq, Value.string.injEq, Value.bool.injEq, List.map_cons, List.map_nil, forall_const, Nat.reduceLT, Nat.lt_add_one, imp_self, true_and, and_true, and_self, ob_some, get_mk, lk_cons, ↓reduceIte, Nat.reduceEqDiff, ne_eq, not_true_eq_false, not_false_eq_true, Nat.one_ne_zero, Nat.zero_ne_one, Nat.succ_ne_self, Nat.reduceAdd, Bool.false_eq_true, false_implies, implies_true, reduceCtorEq, Va_0 vs u hv]; rfl)
              · intro i hi
                simp -implicitDefEqProofs only [go_sem, ↓reduceIte, Nat.reduceEqDiff, Nat.reduceAdd, Nat.reduceMul, Nat.reduceLT, Nat.reduceLeDiff, Nat.reduceSub, Int.reduceToNat, Int.reduceLE, Int.reduceLT, reduceCtorEq]
                refine condK_of (fun h => ?_) (fun h => ?_)
                · simp (disch := omega) only [wrap_i64]
                  refine ⟨by omega, by simp [U8]; omega, by omega, hg _ _ _ (Va_len _ _ _) (by omega) ?_⟩
                  simp -implicitDefEqProofs only [go_sem, ↓reduceIte, Nat.reduceEqDiff, Nat.reduceAdd, Nat.reduceMul, Nat.reduceLT, Nat.reduceLeDiff, Nat.reduceSub, Int.reduceToNat, Int.reduceLE, Int.reduceLT, reduceCtorEq]
                  refine ⟨by omega, hs _ _ _ _ (Va_len vs u i) (by omega) ?_⟩
                  refine kLoop_mk (i + 1) (by omega) (by omega) (sub0 rfl (by simp only [wfHp, hlt]; rfl) ?_)
                  simp only [tmSub, hpSub, objSub, eqTm, eqHp, rn, lk, SV.ren, SV.renC, SV.renB, SV.renA, ren_ints, ren_strs, ren_pl, ren_svs, SV.v.injEq, Value.int.injEq, Body.ints.injEq, SV.ptr.injEq, SV.sl.injEq, Value.string.injEq, Value.bool.injEq, List.map_cons, List.map_nil, forall_const, Nat.reduceLT, Nat.lt_add_one, imp_self, true_and, and_true, and_self, ob_some, get_mk, lk_cons, ↓reduceIte, Nat.reduceEqDiff, ne_eq, not_true_eq_false, not_false_eq_true, Nat.one_ne_zero, Nat.zero_ne_one, Nat.succ_ne_self, Nat.reduceAdd, Bool.false_eq_true, false_implies, implies_true, reduceCtorEq]
                  refine ⟨by omega, ?_⟩
                  rw [Va_get _ _ (by omega), U8_get _ (by omega)]
                  exact congrArg mk (Va_set vs u (by omega))
                · have e : i = 8 := by omega
                  subst e
                  exact sub0 rfl (by simp only [wfHp, hlt]; rfl) (by simp only [tmSub, hpSub, objSub, eqTm, eqHp, rn, lk, SV.ren, SV.renC, SV.renB, SV.renA, ren_ints, ren_strs, ren_pl, ren_svs, SV.v.injEq, Value.int.injEq, Body.ints.injEq, SV.ptr.injEq, SV.sl.injEq, Value.string.injEq, Value.bool.injEq, List.map_cons, List.map_nil, forall_const, Nat.reduceLT, Nat.lt_add_one, imp_self, true_and, and_true, and_self, ob_some, get_mk, lk_cons, ↓reduceIte, Nat.reduceEqDiff, ne_eq, not_true_eq_false, not_false_eq_true, Nat.one_ne_zero, Nat.zero_ne_one, Nat.succ_ne_self, Nat.reduceAdd, Bool.false_eq_true, false_implies, implies_true, reduceCtorEq])
theorem w30d {mk : List Int → Body} {vs ks ys : List Int} {o : Nat} (hC : C 145 = det c36)
    (hg : ∀ vs i K, vs.length = 8 → i < 8 → K (.v (.int .u32 (vs.getD i 0))) → (mk vs).get i K)
    (hs : ∀ vs i y K, vs.length = 8 → i < 8 → K (mk (vs.set i y)) → (mk vs).set i (.v (.int .u32 y)) K)
    (hlt : ∀ vs n, (mk vs).lt (n + 5) = true) (hren : ∀ vs, (mk vs).ren [] = mk vs) (hv : vs.length = 8) (hk : ks.length = 64) (ho : o + 64 ≤ ys.length) :
    fnVC C m30 [.ptr 1 0, .ptr 2 0, .sl 3 o 64 1] ⟨[(1, some ⟨true, mk vs⟩), (2, some ⟨false, .ints .u32 ks⟩), (3, some ⟨false, .ints .u8 ys⟩)], x⟩ 5 fun v H' n' => Sub 5 ⟨[(0, .tup [])], ⟨[(1, some ⟨true, mk (blk vs ks ys o)⟩)], x⟩, 5⟩ ⟨[(0, v)], H', n'⟩ := by
  have hlt1 : ∀ n, (mk vs).lt (n + 5) = true := hlt vs
  unfold m30
  simp -implicitDefEqProofs only [go_sem, ↓reduceIte, Nat.reduceEqDiff, Nat.reduceAdd, Nat.reduceMul, Nat.reduceLT, Nat.reduceLeDiff, Nat.reduceSub, Int.reduceToNat, Int.reduceLE, Int.reduceLT, reduceCtorEq]
  refine loop_fam (fun t : Nat => t ≤ 16) (fun t => ⟨[(0, .ptr 1 0), (1, .ptr 2 0), (2, .sl 3 o 64 1), (6, .ptr 5 0), (24, .v (.int .i64 t))], ⟨[(1, some ⟨true, mk vs⟩), (2, some ⟨false, .ints .u32 ks⟩), (3, some ⟨false, .ints .u8 ys⟩), (5, some ⟨true, .ints .u32 (Wa ys o t)⟩)], x⟩, 6⟩) (fun t => 16 - t) 0 (by omega) ?_ ?_
  · exact sub0 rfl (by simp only [wfHp, hlt]; rfl) (by simp only [tmSub, hpSub, objSub, eqTm, eqHp, rn, lk, SV.ren, SV.renC, SV.renB, SV.renA, ren_ints, ren_strs, ren_pl, ren_svs, SV.v.injEq, Value.int.injEq, Body.ints.injEq, SV.ptr.injEq, SV.sl.injEq, Value.string.injEq, Value.bool.injEq, List.map_cons, List.map_nil, forall_const, Nat.reduceLT, Nat.lt_add_one, imp_self, true_and, and_true, and_self, ob_some, get_mk, lk_cons, ↓reduceIte, Nat.reduceEqDiff, ne_eq, not_true_eq_false, not_false_eq_true, Nat.one_ne_zero, Nat.zero_ne_one, Nat.succ_ne_self, Nat.reduceAdd, Bool.false_eq_true, false_implies, implies_true, reduceCtorEq]; exact ⟨rfl, rfl⟩)
  · intro t ht
    simp -implicitDefEqProofs only [go_sem, ↓reduceIte, Nat.reduceEqDiff, Nat.reduceAdd, Nat.reduceMul, Nat.reduceLT, Nat.reduceLeDiff, Nat.reduceSub, Int.reduceToNat, Int.reduceLE, Int.reduceLT, reduceCtorEq]
    refine condK_of (fun h => ?_) (fun h => ?_)
    · simp (disch := omega) only [wrap_i64]
      and_intros
      all_goals try omega
      · simp only [Wa_len _ _ (show t ≤ 64 by omega)]; omega
      · refine kLoop_mk (t + 1) (by omega) (by omega) (sub0 rfl (by simp only [wfHp, hlt]; rfl) ?_)
        simp only [tmSub, hpSub, objSub, eqTm, eqHp, rn, lk, SV.ren, SV.renC, SV.renB, SV.renA, ren_ints, ren_strs, ren_pl, ren_svs, SV.v.injEq, Value.int.injEq, Body.ints.injEq, SV.ptr.injEq, SV.sl.injEq, Value.string.injEq, Value.bool.injEq, List.map_cons, List.map_nil, forall_const, Nat.reduceLT, Nat.lt_add_one, imp_self, true_and, and_true, and_self, ob_some, get_mk, lk_cons, ↓reduceIte, Nat.reduceEqDiff, ne_eq, not_true_eq_false, not_false_eq_true, Nat.one_ne_zero, Nat.zero_ne_one, Nat.succ_ne_self, Nat.reduceAdd, Bool.false_eq_true, false_implies, implies_true, reduceCtorEq]
        refine ⟨by omega, ?_⟩
        rw [← Wa_set ys o (by omega), if_pos (by omega)]
        simp only [word, show (4 * (t : Int)).toNat = 4 * t by omega, show (4 * (t : Int) + 1).toNat = 4 * t + 1 by omega, show (4 * (t : Int) + 2).toNat = 4 * t + 2 by omega, show (4 * (t : Int) + 3).toNat = 4 * t + 3 by omega, Nat.add_assoc]
    · have e : t = 16 := by omega
      subst e
      refine loop_fam (fun t : Nat => 16 ≤ t ∧ t ≤ 64) (fun t => ⟨[(0, .ptr 1 0), (1, .ptr 2 0), (2, .sl 3 o 64 1), (6, .ptr 5 0), (8, .v (.int .i64 t))], ⟨[(1, some ⟨true, mk vs⟩), (2, some ⟨false, .ints .u32 ks⟩), (3, some ⟨false, .ints .u8 ys⟩), (5, some ⟨true, .ints .u32 (Wa ys o t)⟩)], x⟩, 6⟩) (fun t => 64 - t) 16 (by omega) ?_ ?_
      · exact sub0 rfl (by simp only [wfHp, hlt]; rfl) (by simp only [tmSub, hpSub, objSub, eqTm, eqHp, rn, lk, SV.ren, SV.renC, SV.renB, SV.renA, ren_ints, ren_strs, ren_pl, ren_svs, SV.v.injEq, Value.int.injEq, Body.ints.injEq, SV.ptr.injEq, SV.sl.injEq, Value.string.injEq, Value.bool.injEq, List.map_cons, List.map_nil, forall_const, Nat.reduceLT, Nat.lt_add_one, imp_self, true_and, and_true, and_self, ob_some, get_mk, lk_cons, ↓reduceIte, Nat.reduceEqDiff, ne_eq, not_true_eq_false, not_false_eq_true, Nat.one_ne_zero, Nat.zero_ne_one, Nat.succ_ne_self, Nat.reduceAdd, Bool.false_eq_true, false_implies, implies_true, reduceCtorEq]; rfl)
      · rintro t ⟨ht0, ht⟩
        simp -implicitDefEqProofs only [go_sem, ↓reduceIte, Nat.reduceEqDiff, Nat.reduceAdd, Nat.reduceMul, Nat.reduceLT, Nat.reduceLeDiff, Nat.reduceSub, Int.reduceToNat, Int.reduceLE, Int.reduceLT, reduceCtorEq, hC, c36]
        refine condK_of (fun h => ?_) (fun h => ?_)
        · simp (disch := omega) only [wrap_i64]
          and_intros
          all_goals try omega
          all_goals try (rw [Wa_len _ _ ht]; omega)
          refine kLoop_mk (t + 1) (by omega) (by omega) (sub0 rfl (by simp only [wfHp, hlt]; rfl) ?_)
          simp only [tmSub, hpSub, objSub, eqTm, eqHp, rn, lk, SV.ren, SV.renC, SV.renB, SV.renA, ren_ints, ren_strs, ren_pl, ren_svs, SV.v.injEq, Value.int.injEq, Body.ints.injEq, SV.ptr.injEq, SV.sl.injEq, Value.string.injEq, Value.bool.injEq, List.map_cons, List.map_nil, forall_const, Nat.reduceLT, Nat.lt_add_one, imp_self, true_and, and_true, and_self, ob_some, get_mk, lk_cons, ↓reduceIte, Nat.reduceEqDiff, ne_eq, not_true_eq_false, not_false_eq_true, Nat.one_ne_zero, Nat.zero_ne_one, Nat.succ_ne_self, Nat.reduceAdd, Bool.false_eq_true, false_implies, implies_true, reduceCtorEq]
          refine ⟨by omega, ?_⟩
          rw [← Wa_set ys o (by omega), if_neg (by omega)]
          simp only [show ((t : Int) - 15).toNat = t - 15 by omega, show ((t : Int) - 2).toNat = t - 2 by omega, show ((t : Int) - 16).toNat = t - 16 by omega, show ((t : Int) - 7).toNat = t - 7 by omega, Wa_get ys o (show t - 15 < t by omega), Wa_get ys o (show t - 2 < t by omega), Wa_get ys o (show t - 16 < t by omega), Wa_get ys o (show t - 7 < t by omega)]
          rfl
        · have e : t = 64 := by omega
          subst e
          have hW : (Wa ys o 64).length = 64 := Wa_len _ _ (Nat.le_refl _)
          unfold blk
          generalize Wa ys o 64 = W at hW ⊢
          refine ⟨by omega, hg _ _ _ hv (by omega) ⟨by omega, hg _ _ _ hv (by omega) ⟨by omega, hg _ _ _ hv (by omega) ⟨by omega, hg _ _ _ hv (by omega) ⟨by omega, hg _ _ _ hv (by omega) ⟨by omega, hg _ _ _ hv (by omega) ⟨by omega, hg _ _ _ hv (by omega) ⟨by omega, hg _ _ _ hv (by omega) ?_⟩⟩⟩⟩⟩⟩⟩⟩
          refine loop_fam (fun t : Nat => t ≤ 64) (fun t => ⟨[(0, .ptr 1 0), (1, .ptr 2 0), (6, .ptr 5 0), (136, .v (.int .i64 t)), (11, .v (.int .u32 ((Rd vs ks W t).getD 0 0))), (12, .v (.int .u32 ((Rd vs ks W t).getD 1 0))), (13, .v (.int .u32 ((Rd vs ks W t).getD 2 0))), (14, .v (.int .u32 ((Rd vs ks W t).getD 3 0))), (15, .v (.int .u32 ((Rd vs ks W t).getD 4 0))), (16, .v (.int .u32 ((Rd vs ks W t).getD 5 0))), (17, .v (.int .u32 ((Rd vs ks W t).getD 6 0))), (18, .v (.int .u32 ((Rd vs ks W t).getD 7 0)))], ⟨[(1, some ⟨true, mk vs⟩), (2, some ⟨false, .ints .u32 ks⟩), (5, some ⟨true, .ints .u32 W⟩)], x⟩, 6⟩) (fun t => 64 - t) 0 (by omega) ?_ ?_
          · exact sub0 rfl (by simp only [wfHp, hlt]; rfl) (by simp only [tmSub, hpSub, objSub, eqTm, eqHp, rn, lk, SV.ren, SV.renC, SV.renB, SV.renA, ren_ints, ren_strs, ren_pl, ren_svs, SV.v.injEq, Value.int.injEq, Body.ints.injEq, SV.ptr.injEq, SV.sl.injEq, Value.string.injEq, Value.bool.injEq, List.map_cons, List.map_nil, forall_const, Nat.reduceLT, Nat.lt_add_one, imp_self, true_and, and_true, and_self, ob_some, get_mk, lk_cons, ↓reduceIte, Nat.reduceEqDiff, ne_eq, not_true_eq_false, not_false_eq_true, Nat.one_ne_zero, Nat.zero_ne_one, Nat.succ_ne_self, Nat.reduceAdd, Bool.false_eq_true, false_implies, implies_true, reduceCtorEq]; exact ⟨rfl, rfl, rfl, rfl, rfl, rfl, rfl, rfl, rfl⟩)
          · intro t ht
            generalize hu : Rd vs ks W t = u
            simp -implicitDefEqProofs only [go_sem, ↓reduceIte, Nat.reduceEqDiff, Nat.reduceAdd, Nat.reduceMul, Nat.reduceLT, Nat.reduceLeDiff, Nat.reduceSub, Int.reduceToNat, Int.reduceLE, Int.reduceLT, reduceCtorEq, hC, c36]
            refine condK_of (fun h => ?_) (fun h => ?_)
            · simp (disch := omega) only [wrap_i64]
              and_intros
              all_goals try omega
              refine kLoop_mk (t + 1) (by omega) (by omega) (sub0 rfl (by simp only [wfHp, hlt]; rfl) ?_)
              simp only [tmSub, hpSub, objSub, eqTm, eqHp, rn, lk, SV.ren, SV.renC, SV.renB, SV.renA, ren_ints, ren_strs, ren_pl, ren_svs, SV.v.injEq, Value.int.injEq, Body.ints.injEq, SV.ptr.injEq, SV.sl.injEq, Value.string.injEq, Value.bool.injEq, List.map_cons, List.map_nil, forall_const, Nat.reduceLT, Nat.lt_add_one, imp_self, true_and, and_true, and_self, ob_some, get_mk, lk_cons, ↓reduceIte, Nat.reduceEqDiff, ne_eq, not_true_eq_false, not_false_eq_true, Nat.one_ne_zero, Nat.zero_ne_one, Nat.succ_ne_self, Nat.reduceAdd, Bool.false_eq_true, false_implies, implies_true, reduceCtorEq, Rd, hu, stp]
              exact ⟨by omega, rfl, rfl, rfl, rfl, rfl, rfl, rfl, rfl⟩
            · have e : t = 64 := by omega
              subst e
              rw [hu]
              refine ob_of rfl (ob_of (a := U8 u) rfl ?_)
              refine loop_fam (fun i : Nat => i ≤ 8) (fun i => ⟨[(0, .ptr 1 0), (209, .ai .u32 (U8 u)), (210, .v (.int .i64 i))], ⟨[(1, some ⟨true, mk (Va vs u i)⟩)], x⟩, 6⟩) (fun i => 8 - i) 0 (by omega) ?_ ?_
              · exact sub0 rfl (by simp only [wfHp, hlt]; rfl) (by simp only [tmSub, hpSub, objSub, eqTm, eqHp, rn, lk, SV.ren, SV.renC, SV.renB, SV.renA, ren_ints, ren_strs, ren_pl, ren_svs, SV.v.injEq, Value.int.injEq, Body.ints.injEq, SV.ptr.injEq, SV.sl.injEq, Value.string.injEq, Value.bool.injEq, List.map_cons, List.map_nil, forall_const, Nat.reduceLT, Nat.lt_add_one, imp_self, true_and, and_true, and_self, ob_some, get_mk, lk_cons, ↓reduceIte, Nat.reduceEqDiff, ne_eq, not_true_eq_false, not_false_eq_true, Nat.one_ne_zero, Nat.zero_ne_one, Nat.succ_ne_self, Nat.reduceAdd, Bool.false_eq_true, false_implies, implies_true, reduceCtorEq, Va_0 vs u hv]; rfl)
              · intro i hi
                simp -implicitDefEqProofs only [go_sem, ↓reduceIte, Nat.reduceEqDiff, Nat.reduceAdd, Nat.reduceMul, Nat.reduceLT, Nat.reduceLeDiff, Nat.reduceSub, Int.reduceToNat, Int.reduceLE, Int.reduceLT, reduceCtorEq]
                refine condK_of (fun h => ?_) (fun h => ?_)
                · simp (disch := omega) only [wrap_i64]
                  refine ⟨by omega, by simp [U8]; omega, by omega, hg _ _ _ (Va_len _ _ _) (by omega) ?_⟩
                  simp -implicitDefEqProofs only [go_sem, ↓reduceIte, Nat.reduceEqDiff, Nat.reduceAdd, Nat.reduceMul, Nat.reduceLT, Nat.reduceLeDiff, Nat.reduceSub, Int.reduceToNat, Int.reduceLE, Int.reduceLT, reduceCtorEq]
                  refine ⟨by omega, hs _ _ _ _ (Va_len vs u i) (by omega) ?_⟩
                  refine kLoop_mk (i + 1) (by omega) (by omega) (sub0 rfl (by simp only [wfHp, hlt]; rfl) ?_)
                  simp only [tmSub, hpSub, objSub, eqTm, eqHp, rn, lk, SV.ren, SV.renC, SV.renB, SV.renA, ren_ints, ren_strs, ren_pl, ren_svs, SV.v.injEq, Value.int.injEq, Body.ints.injEq, SV.ptr.injEq, SV.sl.injEq, Value.string.injEq, Value.bool.injEq, List.map_cons, List.map_nil, forall_const, Nat.reduceLT, Nat.lt_add_one, imp_self, true_and, and_true, and_self, ob_some, get_mk, lk_cons, ↓reduceIte, Nat.reduceEqDiff, ne_eq, not_true_eq_false, not_false_eq_true, Nat.one_ne_zero, Nat.zero_ne_one, Nat.succ_ne_self, Nat.reduceAdd, Bool.false_eq_true, false_implies, implies_true, reduceCtorEq]
                  refine ⟨by omega, ?_⟩
                  rw [Va_get _ _ (by omega), U8_get _ (by omega)]
                  exact congrArg mk (Va_set vs u (by omega))
                · have e : i = 8 := by omega
                  subst e
                  exact sub0 rfl (by simp only [wfHp, hlt]; rfl) (by simp only [tmSub, hpSub, objSub, eqTm, eqHp, rn, lk, SV.ren, SV.renC, SV.renB, SV.renA, ren_ints, ren_strs, ren_pl, ren_svs, SV.v.injEq, Value.int.injEq, Body.ints.injEq, SV.ptr.injEq, SV.sl.injEq, Value.string.injEq, Value.bool.injEq, List.map_cons, List.map_nil, forall_const, Nat.reduceLT, Nat.lt_add_one, imp_self, true_and, and_true, and_self, ob_some, get_mk, lk_cons, ↓reduceIte, Nat.reduceEqDiff, ne_eq, not_true_eq_false, not_false_eq_true, Nat.one_ne_zero, Nat.zero_ne_one, Nat.succ_ne_self, Nat.reduceAdd, Bool.false_eq_true, false_implies, implies_true, reduceCtorEq])
variable {C : Tab} {H : Hp} {n : Nat} {x : Nat → Option SO}
def be4 (x : Int) : List Int := [IntKind.u8.wrap (ishr .u32 x 24), IntKind.u8.wrap (ishr .u32 x 16), IntKind.u8.wrap (ishr .u32 x 8), IntKind.u8.wrap x]
def be8 (x : Int) : List Int := [IntKind.u8.wrap (ishr .u64 x 56), IntKind.u8.wrap (ishr .u64 x 48), IntKind.u8.wrap (ishr .u64 x 40), IntKind.u8.wrap (ishr .u64 x 32), IntKind.u8.wrap (ishr .u64 x 24), IntKind.u8.wrap (ishr .u64 x 16), IntKind.u8.wrap (ishr .u64 x 8), IntKind.u8.wrap x]
def outb (ws : List Int) : List Int := ws.flatMap be4
theorem outb_len (ws : List Int) : (outb ws).length = 4 * ws.length := by
  induction ws with
  | nil => rfl
  | cons a l ih => simp only [outb, List.flatMap_cons, List.length_append, List.length_cons] at ih ⊢; rw [ih]; simp [be4]; omega
theorem take_succ_getD {l : List Int} {t : Nat} (h : t < l.length) : l.take (t + 1) = l.take t ++ [l.getD t 0] := by
  rw [List.take_add_one, List.getD_eq_getElem?_getD, List.getElem?_eq_getElem h]; rfl
theorem w32 {xs : List Int} (hx : xs.length = 8) : fnVC C m32 [.ai .u32 xs] ⟨[], x⟩ 1 fun v H' n' => Sub 1 ⟨[(0, .v (.string (tx (outb xs))))], ⟨[], x⟩, 1⟩ ⟨[(0, v)], H', n'⟩ := by
  unfold m32
  simp -implicitDefEqProofs only [go_sem, ↓reduceIte, Nat.reduceEqDiff, Nat.reduceAdd, Nat.reduceMul, Nat.reduceLT, Nat.reduceLeDiff, Nat.reduceSub, Int.reduceToNat, Int.reduceLE, Int.reduceLT, reduceCtorEq]
  and_intros
  all_goals try omega
  have e8 : xs.take 8 = xs := List.take_of_length_le (by omega)
  rw [e8]
  refine loop_fam (fun t : Nat => t ≤ 8) (fun t => ⟨[(3, .sl 2 0 (outb (xs.take t)).length 1), (6, .ai .u32 xs), (7, .v (.int .i64 t))], ⟨[(2, some ⟨true, .ints .u8 (outb (xs.take t))⟩)], x⟩, 3⟩) (fun t => 8 - t) 0 (by omega) ?_ ?_
  · exact sub_mk [(2, 0)] rfl rfl rfl (by simp only [tmSub, hpSub, objSub, eqTm, eqHp, rn, lk, SV.ren, SV.renC, SV.renB, SV.renA, ren_ints, ren_strs, ren_pl, ren_svs, SV.v.injEq, Value.int.injEq, Body.ints.injEq, SV.ptr.injEq, SV.sl.injEq, Value.string.injEq, Value.bool.injEq, List.map_cons, List.map_nil, forall_const, Nat.reduceLT, Nat.lt_add_one, imp_self, true_and, and_true, and_self, ob_some, get_mk, lk_cons, ↓reduceIte, Nat.reduceEqDiff, ne_eq, not_true_eq_false, not_false_eq_true, Nat.one_ne_zero, Nat.zero_ne_one, Nat.succ_ne_self, Nat.reduceAdd, Bool.false_eq_true, false_implies, implies_true, reduceCtorEq]; exact ⟨⟨rfl, rfl⟩, rfl⟩)
  · intro t ht
    simp -implicitDefEqProofs only [go_sem, ↓reduceIte, Nat.reduceEqDiff, Nat.reduceAdd, Nat.reduceMul, Nat.reduceLT, Nat.reduceLeDiff, Nat.reduceSub, Int.reduceToNat, Int.reduceLE, Int.reduceLT, reduceCtorEq]
    refine condK_of (fun h => ?_) (fun h => ?_)
    · simp (disch := omega) only [wrap_i64]
      have hl := outb_len (xs.take t)
      rw [List.length_take] at hl
      and_intros
      all_goals try omega
      refine kLoop_mk (t + 1) (by omega) (by omega) (sub_mk [(2, 4)] rfl rfl rfl ?_)
      simp only [tmSub, hpSub, objSub, eqTm, eqHp, rn, lk, SV.ren, SV.renC, SV.renB, SV.renA, ren_ints, ren_strs, ren_pl, ren_svs, SV.v.injEq, Value.int.injEq, Body.ints.injEq, SV.ptr.injEq, SV.sl.injEq, Value.string.injEq, Value.bool.injEq, List.map_cons, List.map_nil, forall_const, Nat.reduceLT, Nat.lt_add_one, imp_self, true_and, and_true, and_self, ob_some, get_mk, lk_cons, ↓reduceIte, Nat.reduceEqDiff, ne_eq, not_true_eq_false, not_false_eq_true, Nat.one_ne_zero, Nat.zero_ne_one, Nat.succ_ne_self, Nat.reduceAdd, Bool.false_eq_true, false_implies, implies_true, reduceCtorEq]
      have e : outb (xs.take (t + 1)) = outb (xs.take t) ++ be4 (xs.getD t 0) := by
        rw [take_succ_getD (by omega)]; simp [outb]
      rw [e]
      refine ⟨⟨by simp [be4], by omega⟩, rfl⟩
    · have e : t = 8 := by omega
      subst e
      simp only [e8]
      exact sub_val rfl (by decide) (by decide) rfl
def c28 : Ctr := fun args H n => match args with
  | [] => some (.ai .u32 iv, H, n)
  | _ => none
def c29 : Ctr := fun args H n => match args with
  | [] => if n < 1000 then some (.ptr n 0, H.put n ⟨true, .ints .u32 kk⟩, n + 1) else none
  | _ => none
def c32 : Ctr := fun args H n => match args with
  | [.ai .u32 xs] => if xs.length = 8 then some (.v (.string (tx (outb xs))), H, n) else none
  | _ => none
def restOf (l : List SV) : Option (Value × Nat × Nat × Nat × Nat × Value) := match l with
  | [.v b, .sl r q m z, .v l] => some (b, r, q, m, z, l)
  | _ => none
def svm (vs : List Int) (r : List SV) : Body := .sv (vs.map (fun y => .v (.int .u32 y)) ++ r)
def wordsOf (b : Body) : Option (List Int × (List Int → Body)) := match b with
  | .ints .u32 vs => some (vs, fun vs => .ints .u32 vs)
  | .sv cs => (intsOf .u32 (cs.take 8)).bind fun vs => (restOf (cs.drop 8)).map fun _ => (vs, fun vs => svm vs (cs.drop 8))
  | _ => none
theorem wordsOf_ints {vs : List Int} : wordsOf (.ints .u32 vs) = some (vs, fun vs => .ints .u32 vs) := rfl
def f30 (i j p o : Nat) (H : Hp) (n : Nat) : Option (SV × Hp × Nat) :=
  (H.get i).bind fun s => (H.get j).bind fun t => (H.get p).bind fun u => (wordsOf s.b).bind fun vm => (intsB .u32 t.b).bind fun ks => (intsB .u8 u.b).bind fun ys =>
    if s.wr = true ∧ vm.1.length = 8 ∧ ks.length = 64 ∧ o + 64 ≤ ys.length ∧ 0 < i ∧ i < 1000 ∧ i ≠ j ∧ i ≠ p ∧ j ≠ 0 ∧ p ≠ 0 then some (.tup [], H.put i ⟨true, vm.2 (blk vm.1 ks ys o)⟩, n) else none
def c30 : Ctr := fun args H n => match args with
  | [.ptr i 0, .ptr j 0, .sl p o 64 1] => f30 i j p o H n
  | _ => none
def pad (ys : List Int) : List Int := ((ys ++ [128]) ++ List.replicate (Int.toNat ((119 - (ys.length : Int).tmod 64).tmod 64)) 0) ++ be8 (IntKind.u64.wrap (IntKind.u64.wrap ys.length * 8))
def Hs (B : List Int) : Nat → List Int
  | 0 => iv
  | j + 1 => blk (Hs B j) kk B (64 * j)
def sha (ys : List Int) : ByteArray := tx (outb (Hs (pad ys) ((pad ys).length / 64)))
theorem blk_len (vs ks ys : List Int) (o : Nat) : (blk vs ks ys o).length = 8 := Va_len _ _ _
theorem Hs_len (B : List Int) (j : Nat) : (Hs B j).length = 8 := by
  cases j with
  | zero => rfl
  | succ j => exact blk_len _ _ _ _
theorem pad_len (ys : List Int) : (pad ys).length % 64 = 0 ∧ 64 ≤ (pad ys).length ∧ (pad ys).length ≤ ys.length + 73 := by
  have e : Int.toNat ((119 - (ys.length : Int).tmod 64).tmod 64) = (119 - ys.length % 64) % 64 := by
    have e1 : (ys.length : Int).tmod 64 = (ys.length : Int) % 64 := Int.tmod_eq_emod_of_nonneg (by omega)
    rw [e1, Int.tmod_eq_emod_of_nonneg (by omega)]; omega
  simp only [pad, List.length_append, List.length_replicate, List.length_cons, List.length_nil, e, be8]
  omega
theorem w23 {zs : List Int} {o m : Nat} (hom : o + m ≤ zs.length) (hm : m ≤ 1099511627776) (h28 : C 136 = det c28) (h29 : C 137 = det c29) (h30 : C 138 = det c30) (h32 : C 139 = det c32) :
    fnVC C m23 [.sl 1 o m 1] ⟨[(1, some ⟨true, .ints .u8 zs⟩)], x⟩ 2 fun v H' n' => Sub 2 ⟨[(0, .v (.string (sha ((zs.drop o).take m))))], ⟨[(1, none)], x⟩, 2⟩ ⟨[(0, v)], H', n'⟩ := by
  unfold m23
  simp -implicitDefEqProofs only [go_sem, ↓reduceIte, Nat.reduceEqDiff, Nat.reduceAdd, Nat.reduceMul, Nat.reduceLT, Nat.reduceLeDiff, Nat.reduceSub, Int.reduceToNat, Int.reduceLE, Int.reduceLT, reduceCtorEq, h28, h29, c28, c29]
  have hz : ((zs.drop o).take m).length = m := by simp; omega
  refine ⟨by decide, by decide, by omega, by omega, by omega, ?_⟩
  generalize (zs.drop o).take m = ys at hz ⊢
  subst hz
  have hl := hm
  have ez : (IntKind.i64.wrap (119 - (ys.length : Int).tmod 64)).tmod 64 = ((Int.toNat ((119 - (ys.length : Int).tmod 64).tmod 64) : Nat) : Int) := by
    have e1 : (ys.length : Int).tmod 64 = (ys.length : Int) % 64 := Int.tmod_eq_emod_of_nonneg (by omega)
    rw [e1, wrap_i64 (by omega) (by omega), Int.tmod_eq_emod_of_nonneg (by omega)]; omega
  have hp := pad_len ys
  have e1 : List.take (ys.length + 1) (ys ++ [128]) = ys ++ [128] := List.take_of_length_le (by simp)
  simp only [ez, e1, Int.toNat_natCast]
  have hB : pad ys = ((ys ++ [128]) ++ List.replicate (Int.toNat ((119 - (ys.length : Int).tmod 64).tmod 64)) 0) ++ be8 (IntKind.u64.wrap (IntKind.u64.wrap ys.length * 8)) := rfl
  have hL : (pad ys).length = ys.length + 1 + Int.toNat ((119 - (ys.length : Int).tmod 64).tmod 64) + 8 := by
    rw [hB]; simp [be8]; omega
  generalize Int.toNat ((119 - (ys.length : Int).tmod 64).tmod 64) = Z at hB hL ⊢
  have e2 : List.take (ys.length + 1 + Z) (ys ++ [128] ++ List.replicate Z 0) = ys ++ [128] ++ List.replicate Z 0 := List.take_of_length_le (by simp; omega)
  simp only [e2]
  refine ⟨by omega, by omega, by omega, by simp, by omega, by omega, by simp; omega, rfl, ?_⟩
  refine loop_fam (fun j : Nat => 64 * j ≤ (pad ys).length) (fun j => ⟨[(0, .sl 6 (64 * j) ((pad ys).length - 64 * j) 1), (5, .ptr 8 0), (6, .ptr 7 0)], ⟨[(6, some ⟨true, .ints .u8 (pad ys)⟩), (7, some ⟨true, .ints .u32 kk⟩), (8, some ⟨true, .ints .u32 (Hs (pad ys) j)⟩), (1, none)], x⟩, 9⟩) (fun j => (pad ys).length - 64 * j) 0 (by omega) ?_ ?_
  · refine sub0 rfl rfl ?_
    simp only [tmSub, hpSub, objSub, eqTm, eqHp, rn, lk, SV.ren, SV.renC, SV.renB, SV.renA, ren_ints, ren_strs, ren_pl, ren_svs, SV.v.injEq, Value.int.injEq, Body.ints.injEq, SV.ptr.injEq, SV.sl.injEq, Value.string.injEq, Value.bool.injEq, List.map_cons, List.map_nil, forall_const, Nat.reduceLT, Nat.lt_add_one, imp_self, true_and, and_true, and_self, ob_some, get_mk, lk_cons, ↓reduceIte, Nat.reduceEqDiff, ne_eq, not_true_eq_false, not_false_eq_true, Nat.one_ne_zero, Nat.zero_ne_one, Nat.succ_ne_self, Nat.reduceAdd, Bool.false_eq_true, false_implies, implies_true, reduceCtorEq]
    exact ⟨by omega, hB.symm, rfl⟩
  · intro j hj
    simp -implicitDefEqProofs only [go_sem, ↓reduceIte, Nat.reduceEqDiff, Nat.reduceAdd, Nat.reduceMul, Nat.reduceLT, Nat.reduceLeDiff, Nat.reduceSub, Int.reduceToNat, Int.reduceLE, Int.reduceLT, reduceCtorEq, h30, c30, f30, wordsOf_ints, h32, c32]
    refine condK_of (fun h => ?_) (fun h => ?_)
    · refine ⟨by omega, ⟨Hs_len _ _, rfl, by omega⟩, by omega, kLoop_mk (j + 1) (by omega) (by omega) (sub0 rfl rfl ?_)⟩
      simp only [tmSub, hpSub, objSub, eqTm, eqHp, rn, lk, SV.ren, SV.renC, SV.renB, SV.renA, ren_ints, ren_strs, ren_pl, ren_svs, SV.v.injEq, Value.int.injEq, Body.ints.injEq, SV.ptr.injEq, SV.sl.injEq, Value.string.injEq, Value.bool.injEq, List.map_cons, List.map_nil, forall_const, Nat.reduceLT, Nat.lt_add_one, imp_self, true_and, and_true, and_self, ob_some, get_mk, lk_cons, ↓reduceIte, Nat.reduceEqDiff, ne_eq, not_true_eq_false, not_false_eq_true, Nat.one_ne_zero, Nat.zero_ne_one, Nat.succ_ne_self, Nat.reduceAdd, Bool.false_eq_true, false_implies, implies_true, reduceCtorEq]
      exact ⟨⟨by omega, by omega⟩, rfl⟩
    · have e : j = (pad ys).length / 64 := by omega
      have e8 : List.take 8 (Hs (pad ys) j) = Hs (pad ys) j := List.take_of_length_le (by rw [Hs_len]; omega)
      rw [e8]
      refine ⟨by rw [Hs_len]; omega, Hs_len _ _, sub_mk [] rfl rfl rfl ?_⟩
      subst e
      simp only [tmSub, hpSub, objSub, eqTm, eqHp, rn, lk, SV.ren, SV.renC, SV.renB, SV.renA, ren_ints, ren_strs, ren_pl, ren_svs, SV.v.injEq, Value.int.injEq, Body.ints.injEq, SV.ptr.injEq, SV.sl.injEq, Value.string.injEq, Value.bool.injEq, List.map_cons, List.map_nil, forall_const, Nat.reduceLT, Nat.lt_add_one, imp_self, true_and, and_true, and_self, ob_some, get_mk, lk_cons, ↓reduceIte, Nat.reduceEqDiff, ne_eq, not_true_eq_false, not_false_eq_true, Nat.one_ne_zero, Nat.zero_ne_one, Nat.succ_ne_self, Nat.reduceAdd, Bool.false_eq_true, false_implies, implies_true, reduceCtorEq]
      rfl
variable {P : Program} {C : Tab} {H : Hp} {n : Nat} {x : Nat → Option SO}
theorem lift_w1 {f i : Nat} {argsc : List SV} {b : Body} {v : SV} {r : Option SO} (hg : H.get i = some ⟨true, b⟩) (hb : ∀ π, b.ren π = b) (hlt : b.lt 2 = true) (h0 : 0 < i) (h1 : i < 1000) (hr : (match r with
    | some o => o.wr
    | none => true) = true) (hargs : argsc.all (ltT 2) = true)
    (hs : SpecAt P f argsc ⟨[(1, some ⟨true, b⟩)], H.x⟩ 2 v ⟨[(1, r)], H.x⟩ 2) : SpecAt P f (argsc.map (SV.ren [(1, i)])) H n (v.ren [(1, i)]) ⟨(i, r.map (SO.ren [(1, i)])) :: H.l, H.x⟩ n := by
  have := lift hs [(1, i)] (n := n) (by cases r <;> simp_all [canon, wrAt, lk]) (by simp [dense, lk, List.range, List.range.loop]) hargs (by omega) (by simp [wfHp, hlt]) (by simp [okπ]) ⟨by
    unfold objSub
    rw [if_neg (by simp [rn, lk]; omega)]
    refine ⟨fun _ => by simpa [rn, lk] using h1, ?_⟩
    rw [show rn [(1, i)] 1 = i by simp [rn, lk], hg]
    exact ⟨fun _ => rfl, (hb _).symm⟩, trivial⟩ (by simp [apartB, apart1]) (by simp [wrNZ, rn, lk]; omega) (by omega)
  simpa [newIds, updOf, wrAt, lk, rn] using this
def f23 (i o m : Nat) (H : Hp) (n : Nat) : Option (SV × Hp × Nat) :=
  (H.get i).bind fun s => (intsB .u8 s.b).bind fun zs => if s.wr = true ∧ o + m ≤ zs.length ∧ m ≤ 1099511627776 ∧ 0 < i ∧ i < 1000 then some (.v (.string (sha ((zs.drop o).take m))), H.del i, n) else none
def c23 : Ctr := fun args H n => match args with
  | [.sl i o m 1] => f23 i o m H n
  | _ => none
theorem k45 (h : OKT P C) (t : trFn P 158 = some m45) : OKT P (C.add 158 (det c45)) := h.add t fun args H n v H' n' hc => by
  unfold c45 at hc
  split at hc
  · cases hc; exact h.pure t (w45 _ _)
  · cases hc
theorem k36 (h : OKT P C) (t : trFn P 145 = some m36) (h45 : C 158 = det c45) : OKT P (C.add 145 (det c36)) := h.add t fun args H n v H' n' hc => by
  unfold c36 at hc
  split at hc
  · split at hc
    · rename_i hk; cases hc; exact h.pure t (w36 h45 _ _ hk)
    · cases hc
  · cases hc
theorem k28 (h : OKT P C) (t : trFn P 136 = some m28) : OKT P (C.add 136 (det c28)) := h.add t fun args H n v H' n' hc => by
  unfold c28 at hc
  split at hc
  · cases hc; exact lift_pure (h.spec t w28) rfl
  · cases hc
theorem k29 (h : OKT P C) (t : trFn P 137 = some m29) : OKT P (C.add 137 (det c29)) := h.add t fun args H n v H' n' hc => by
  unfold c29 at hc
  split at hc
  · split at hc
    · rename_i hn; cases hc
      exact lift (n := n) (h.spec t (w29 (x := H.x))) [] rfl rfl rfl (by omega) rfl rfl trivial rfl rfl (by omega)
    · cases hc
  · cases hc
theorem k32 (h : OKT P C) (t : trFn P 139 = some m32) : OKT P (C.add 139 (det c32)) := h.add t fun args H n v H' n' hc => by
  unfold c32 at hc
  split at hc
  · split at hc
    · rename_i hx; cases hc; exact lift_pure (h.spec t (w32 hx)) rfl
    · cases hc
  · cases hc
theorem k23 (h : OKT P C) (t : trFn P 129 = some m23) (h28 : C 136 = det c28) (h29 : C 137 = det c29) (h30 : C 138 = det c30) (h32 : C 139 = det c32) : OKT P (C.add 129 (det c23)) := h.add t fun args H n v H' n' hc => by
  unfold c23 at hc
  split at hc
  · rename_i i o m
    unfold f23 at hc
    simp only [Option.bind_eq_some_iff] at hc
    obtain ⟨⟨wr, b⟩, hg, zs, hz, hc⟩ := hc
    have := intsB_some hz; subst this
    split at hc
    · rename_i hcond
      obtain ⟨q1, q2, q3, q4, q5⟩ := hcond
      simp only at q1; subst q1
      cases hc
      have := lift_w1 (n := n) (r := none) hg (fun _ => rfl) rfl q4 q5 rfl rfl (h.spec t (w23 q2 q3 h28 h29 h30 h32))
      rw [show H.del i = ⟨(i, none) :: H.l, H.x⟩ from rfl]
      simpa [SV.ren, SV.renC, SV.renB, SV.renA, rn, lk] using this
    · cases hc
  · cases hc
theorem intsOf_spec {k : IntKind} : ∀ {l : List SV} {ys : List Int}, intsOf k l = some ys → l = ys.map fun y => .v (.int k y)
  | [], ys, h => by cases h; rfl
  | c :: l, ys, h => by
    cases c with
    | v x =>
      cases x with
      | int k' x =>
        simp only [intsOf] at h
        split at h
        · rename_i e2; subst e2
          rw [Option.map_eq_some_iff] at h
          obtain ⟨zs, hz, rfl⟩ := h
          rw [intsOf_spec hz]; rfl
        · cases h
      | _ => simp [intsOf] at h
    | _ => simp [intsOf] at h
theorem restOf_spec {l : List SV} {t : Value × Nat × Nat × Nat × Nat × Value} (h : restOf l = some t) : l = [.v t.1, .sl t.2.1 t.2.2.1 t.2.2.2.1 t.2.2.2.2.1, .v t.2.2.2.2.2] := by
  unfold restOf at h
  split at h
  · cases h; rfl
  · cases h
theorem svm_get {vs : List Int} {r : List SV} {i : Nat} {K : SV → Prop} (hv : vs.length = 8) (hi : i < 8) (hk : K (.v (.int .u32 (vs.getD i 0)))) : (svm vs r).get i K := by
  unfold svm
  rw [get_sv, List.getElem?_append_left (by simp; omega), List.getElem?_map, List.getElem?_eq_getElem (by omega)]
  rw [List.getD_eq_getElem?_getD, List.getElem?_eq_getElem (by omega)] at hk
  exact hk
theorem svm_set {vs : List Int} {r : List SV} {i : Nat} {y : Int} {K : Body → Prop} (hv : vs.length = 8) (hi : i < 8) (hk : K (svm (vs.set i y) r)) : (svm vs r).set i (.v (.int .u32 y)) K := by
  unfold svm at hk ⊢
  rw [set_sv]
  refine ⟨rfl, by simp; omega, ?_⟩
  rw [List.set_append_left _ _ (by simp; omega), ← List.map_set]
  exact hk
theorem k30 (h : OKT P C) (t : trFn P 138 = some m30) (h36 : C 145 = det c36) : OKT P (C.add 138 (det c30)) := h.add t fun args H n v H' n' hc => by
  unfold c30 at hc
  split at hc
  case h_2 => cases hc
  rename_i i j p o
  unfold f30 at hc
  simp only [Option.bind_eq_some_iff] at hc
  obtain ⟨⟨wr, b⟩, hg1, ⟨wr2, b2⟩, hg2, ⟨wr3, b3⟩, hg3, ⟨vs, mk⟩, hw, ks, hks, ys, hys, hc⟩ := hc
  split at hc
  case isFalse => cases hc
  rename_i hcond
  obtain ⟨q1, q2, q3, q4, q5, q6, q7, q8, q9, q10⟩ := hcond
  simp only at q1 q2 hw hks hys; subst q1
  have e2 := intsB_some hks; subst e2
  have e3 := intsB_some hys; subst e3
  cases hc
  cases b with
  | ints k vs' =>
    have hk : k = .u32 ∧ vs' = vs ∧ mk = fun vs => .ints .u32 vs := by
      unfold wordsOf at hw
      split at hw
      · rename_i heq; cases heq; cases hw; exact ⟨rfl, rfl, rfl⟩
      · rename_i heq; cases heq
      · cases hw
    obtain ⟨rfl, rfl, rfl⟩ := hk
    have S := h.spec t (w30 (mk := fun vs => .ints .u32 vs) (x := H.x) h36 (fun vs i K hv hi hk => ⟨by omega, hk⟩) (fun vs i y K hv hi hk => ⟨rfl, by omega, hk⟩) (fun _ _ => rfl) (fun _ => rfl) q2 q3 q4)
    have := lift (n := n) S [(1, i), (2, j), (3, p)] rfl rfl rfl (by omega) rfl rfl ⟨?_, ?_, ?_, trivial⟩ (by simp [apartB, apart1, rn, lk]; omega) (by simp [wrNZ, rn, lk]; omega) (by omega)
    · exact this
    · unfold objSub
      rw [show rn [(1, i), (2, j), (3, p)] 1 = i from rfl, if_neg (by omega), hg1]
      exact ⟨fun _ => q6, fun _ => rfl, rfl⟩
    · unfold objSub
      rw [show rn [(1, i), (2, j), (3, p)] 2 = j from rfl, if_neg (by omega), hg2]
      exact ⟨fun h => (by cases h), fun h => (by cases h), rfl⟩
    · unfold objSub
      rw [show rn [(1, i), (2, j), (3, p)] 3 = p from rfl, if_neg (by omega), hg3]
      exact ⟨fun h => (by cases h), fun h => (by cases h), rfl⟩
  | sv cs =>
    unfold wordsOf at hw
    simp only [Option.bind_eq_some_iff, Option.map_eq_some_iff] at hw
    obtain ⟨vs', hvs, tt, htt, hw⟩ := hw
    cases hw
    have e1 := intsOf_spec hvs
    have e4 := restOf_spec htt
    obtain ⟨bb, r, q, m, z, l⟩ := tt
    simp only at e4
    have hcs : cs = vs.map (fun y => .v (.int .u32 y)) ++ [.v bb, .sl r q m z, .v l] := by
      rw [← e1, ← e4, List.take_append_drop]
    have S := h.spec t (w30d (mk := fun vs => svm vs [.v bb, .sl 4 q m z, .v l]) (x := H.x) h36 (fun vs i K hv hi hk => svm_get hv hi hk) (fun vs i y K hv hi hk => svm_set hv hi hk) (fun vs n => by simp [svm, Body.lt, ltB, ltA, idOK, Function.comp_def]) (fun _ => Body.ren_nil _) q2 q3 q4)
    intro F w0 w ρ xs hH hz hl
    have hren : ∀ us : List Int, (svm us [.v bb, .sl 4 q m z, .v l]).ren [(1, i), (2, j), (3, p), (4, r)] = svm us (cs.drop 8) := fun us => by
      rw [e4]; simp [svm, Body.ren, SV.renB, SV.renA, rn, lk, Function.comp_def]
    have hr : idOK n r = true := by
      have := (hH.lt i _ hg1).2
      rw [hcs] at this
      simp [Body.lt, ltB, ltA] at this
      exact this
    have := liftD (n := n) S [(1, i), (2, j), (3, p), (4, r)] (by simp [canon, wrAt, lk]) (fun k hk0 hk => ?_) rfl (by omega) (by simp [wfHp, svm, Body.lt, ltB, ltA, idOK, Function.comp_def]) rfl ⟨?_, ?_, ?_, trivial⟩ (by simp [apartB, apart1, rn, lk]; omega) (by simp [wrNZ, rn, lk]; omega) (by omega)
    · have := this F w0 w ρ xs hH hz hl
      simp only [Nat.sub_self, newIds, updOf, wrAt, lk, Option.map, SO.ren, hren] at this
      exact this
    · have : k = 1 ∨ k = 2 ∨ k = 3 ∨ k = 4 := by omega
      rcases this with e | e | e | e <;> subst e
      · exact .inl rfl
      · exact .inl rfl
      · exact .inl rfl
      · exact .inr hr
    · unfold objSub
      rw [show rn [(1, i), (2, j), (3, p), (4, r)] 1 = i from rfl, if_neg (by omega), hg1]
      refine ⟨fun _ => q6, fun _ => rfl, ?_⟩
      rw [hren]; unfold svm; rw [e4]; exact congrArg Body.sv hcs
    · unfold objSub
      rw [show rn [(1, i), (2, j), (3, p), (4, r)] 2 = j from rfl, if_neg (by omega), hg2]
      exact ⟨fun h => (by cases h), fun h => (by cases h), rfl⟩
    · unfold objSub
      rw [show rn [(1, i), (2, j), (3, p), (4, r)] 3 = p from rfl, if_neg (by omega), hg3]
      exact ⟨fun h => (by cases h), fun h => (by cases h), rfl⟩
  | strs => cases hw
  | pl => cases hw
  | mp => cases hw
variable {P : Program} {C : Tab} {H : Hp} {n : Nat} {x : Nat → Option SO}
def catb (ss : List ByteArray) : List Int := ss.flatMap bts
theorem bts_len (s : ByteArray) : (bts s).length = s.size := by simp [bts]
theorem catb_app (l m : List ByteArray) : catb (l ++ m) = catb l ++ catb m := by simp [catb]
theorem catb_succ {l : List ByteArray} {t : Nat} (h : t < l.length) : catb (l.take (t + 1)) = catb (l.take t) ++ bts (l.getD t .empty) := by
  rw [List.take_add_one, catb_app, List.getD_eq_getElem?_getD, List.getElem?_eq_getElem h]
  simp [catb]
theorem catb_le {l : List ByteArray} (t : Nat) : (catb (l.take t)).length ≤ (catb l).length := by
  have := congrArg List.length (catb_app (l.take t) (l.drop t))
  rw [List.take_append_drop, List.length_append] at this
  omega
theorem drop_getD {α : Type} {l : List α} {o t : Nat} {d : α} : (l.drop o).getD t d = l.getD (o + t) d := by
  simp [List.getD_eq_getElem?_getD]
theorem take_getD {α : Type} {l : List α} {m t : Nat} {d : α} (h : t < m) : (l.take m).getD t d = l.getD t d := by
  simp [List.getD_eq_getElem?_getD, List.getElem?_take, h]
theorem w9 {ss : List ByteArray} {o m : Nat} (hom : o + m ≤ ss.length) (hb : m ≤ 1099511627776) (hl : (catb ((ss.drop o).take m)).length ≤ 1073741824) (h23 : C 129 = det c23) :
    fnVC C m9 [.sl 1 o m 1] ⟨[(1, some ⟨false, .strs ss⟩)], x⟩ 2 fun v H' n' => Sub 2 ⟨[(0, .v (.string (sha (catb ((ss.drop o).take m)))))], ⟨[], x⟩, 2⟩ ⟨[(0, v)], H', n'⟩ := by
  have hps : ((ss.drop o).take m).length = m := by simp; omega
  have hget : ∀ t, t < m → ((ss.drop o).take m).getD t .empty = ss.getD (o + t) .empty := fun t ht => by rw [take_getD ht, drop_getD]
  generalize (ss.drop o).take m = ps at hl hps hget ⊢
  unfold m9
  simp -implicitDefEqProofs only [go_sem, ↓reduceIte, Nat.reduceEqDiff, Nat.reduceAdd, Nat.reduceMul, Nat.reduceLT, Nat.reduceLeDiff, Nat.reduceSub, Int.reduceToNat, Int.reduceLE, Int.reduceLT, reduceCtorEq]
  refine loop_fam (fun t : Nat => t ≤ m) (fun t => ⟨[(0, .sl 1 o m 1), (3, .v (.int .i64 (96 + (catb (ps.take t)).length : Nat))), (9, .sl 1 o m 1), (10, .v (.int .i64 m)), (11, .v (.int .i64 t))], ⟨[(1, some ⟨false, .strs ss⟩)], x⟩, 2⟩) (fun t => m - t) 0 (by omega) ?_ ?_
  · refine sub0 rfl rfl ?_
    simp only [tmSub, hpSub, objSub, eqTm, eqHp, rn, lk, SV.ren, SV.renC, SV.renB, SV.renA, ren_ints, ren_strs, ren_pl, ren_svs, SV.v.injEq, Value.int.injEq, Body.ints.injEq, SV.ptr.injEq, SV.sl.injEq, Value.string.injEq, Value.bool.injEq, List.map_cons, List.map_nil, forall_const, Nat.reduceLT, Nat.lt_add_one, imp_self, true_and, and_true, and_self, ob_some, get_mk, lk_cons, ↓reduceIte, Nat.reduceEqDiff, ne_eq, not_true_eq_false, not_false_eq_true, Nat.one_ne_zero, Nat.zero_ne_one, Nat.succ_ne_self, Nat.reduceAdd, Bool.false_eq_true, false_implies, implies_true, reduceCtorEq]
    exact ⟨rfl, rfl⟩
  · intro t ht
    have h1 := catb_le (l := ps) t
    simp -implicitDefEqProofs only [go_sem, ↓reduceIte, Nat.reduceEqDiff, Nat.reduceAdd, Nat.reduceMul, Nat.reduceLT, Nat.reduceLeDiff, Nat.reduceSub, Int.reduceToNat, Int.reduceLE, Int.reduceLT, reduceCtorEq]
    refine condK_of (fun h => ?_) (fun h => ?_)
    · have h2 := catb_le (l := ps) (t + 1)
      rw [catb_succ (by omega)] at h2
      rw [List.length_append, bts_len, hget t (by omega)] at h2
      refine ⟨by omega, by omega, kLoop_mk (t + 1) (by omega) (by omega) (sub0 rfl rfl ?_)⟩
      rw [wrap_i64 (by omega) (by omega), wrap_i64 (by omega) (by omega)]
      simp only [tmSub, hpSub, objSub, eqTm, eqHp, rn, lk, SV.ren, SV.renC, SV.renB, SV.renA, ren_ints, ren_strs, ren_pl, ren_svs, SV.v.injEq, Value.int.injEq, Body.ints.injEq, SV.ptr.injEq, SV.sl.injEq, Value.string.injEq, Value.bool.injEq, List.map_cons, List.map_nil, forall_const, Nat.reduceLT, Nat.lt_add_one, imp_self, true_and, and_true, and_self, ob_some, get_mk, lk_cons, ↓reduceIte, Nat.reduceEqDiff, ne_eq, not_true_eq_false, not_false_eq_true, Nat.one_ne_zero, Nat.zero_ne_one, Nat.succ_ne_self, Nat.reduceAdd, Bool.false_eq_true, false_implies, implies_true, reduceCtorEq]
      rw [catb_succ (by omega), List.length_append, bts_len, hget t (by omega)]
      exact ⟨by omega, by omega⟩
    · have e : t = m := by omega
      have e9 : ps.take t = ps := List.take_of_length_le (by omega)
      simp only [e9]
      refine ⟨by omega, ?_⟩
      have hc : ps.take 0 = [] := rfl
      refine loop_fam (fun t : Nat => t ≤ m) (fun t => ⟨[(6, .sl 4 0 (catb (ps.take t)).length 1), (22, .sl 1 o m 1), (23, .v (.int .i64 m)), (24, .v (.int .i64 t))], ⟨[(1, some ⟨false, .strs ss⟩), (4, some ⟨true, .ints .u8 (catb (ps.take t) ++ if t = 0 then List.replicate (96 + (catb ps).length) 0 else [])⟩)], x⟩, 5⟩) (fun t => m - t) 0 (by omega) ?_ ?_
      · refine sub_mk [(4, 2)] rfl rfl rfl ?_
        simp only [tmSub, hpSub, objSub, eqTm, eqHp, rn, lk, SV.ren, SV.renC, SV.renB, SV.renA, ren_ints, ren_strs, ren_pl, ren_svs, SV.v.injEq, Value.int.injEq, Body.ints.injEq, SV.ptr.injEq, SV.sl.injEq, Value.string.injEq, Value.bool.injEq, List.map_cons, List.map_nil, forall_const, Nat.reduceLT, Nat.lt_add_one, imp_self, true_and, and_true, and_self, ob_some, get_mk, lk_cons, ↓reduceIte, Nat.reduceEqDiff, ne_eq, not_true_eq_false, not_false_eq_true, Nat.one_ne_zero, Nat.zero_ne_one, Nat.succ_ne_self, Nat.reduceAdd, Bool.false_eq_true, false_implies, implies_true, reduceCtorEq]
        exact ⟨⟨rfl, rfl⟩, rfl⟩
      · intro t ht
        have h1 := catb_le (l := ps) t
        simp -implicitDefEqProofs only [go_sem, ↓reduceIte, Nat.reduceEqDiff, Nat.reduceAdd, Nat.reduceMul, Nat.reduceLT, Nat.reduceLeDiff, Nat.reduceSub, Int.reduceToNat, Int.reduceLE, Int.reduceLT, reduceCtorEq]
        refine condK_of (fun h => ?_) (fun h => ?_)
        · have h2 := catb_le (l := ps) (t + 1)
          rw [catb_succ (by omega), List.length_append, bts_len, hget t (by omega)] at h2
          refine ⟨by omega, by omega, by omega, by simp, ?_⟩
          rw [List.take_left' rfl, wrap_i64 (by omega) (by omega)]
          refine kLoop_mk (t + 1) (by omega) (by omega) (sub_mk [(4, 5)] rfl rfl rfl ?_)
          simp only [tmSub, hpSub, objSub, eqTm, eqHp, rn, lk, SV.ren, SV.renC, SV.renB, SV.renA, ren_ints, ren_strs, ren_pl, ren_svs, SV.v.injEq, Value.int.injEq, Body.ints.injEq, SV.ptr.injEq, SV.sl.injEq, Value.string.injEq, Value.bool.injEq, List.map_cons, List.map_nil, forall_const, Nat.reduceLT, Nat.lt_add_one, imp_self, true_and, and_true, and_self, ob_some, get_mk, lk_cons, ↓reduceIte, Nat.reduceEqDiff, ne_eq, not_true_eq_false, not_false_eq_true, Nat.one_ne_zero, Nat.zero_ne_one, Nat.succ_ne_self, Nat.reduceAdd, Bool.false_eq_true, false_implies, implies_true, reduceCtorEq]
          rw [catb_succ (by omega), hget t (by omega), List.length_append, bts_len, List.append_nil]
          exact ⟨⟨rfl, by omega⟩, rfl⟩
        · have e : t = m := by omega
          have e9' : ps.take t = ps := List.take_of_length_le (by omega)
          rw [h23, e9']
          simp -implicitDefEqProofs only [go_sem, ↓reduceIte, Nat.reduceEqDiff, Nat.reduceAdd, Nat.reduceMul, Nat.reduceLT, Nat.reduceLeDiff, Nat.reduceSub, Int.reduceToNat, Int.reduceLE, Int.reduceLT, reduceCtorEq, c23, f23]
          refine ⟨⟨by simp, by omega⟩, sub_mk [] rfl rfl rfl ?_⟩
          rw [List.take_left' rfl]
          simp only [tmSub, hpSub, objSub, eqTm, eqHp, rn, lk, SV.ren, SV.renC, SV.renB, SV.renA, ren_ints, ren_strs, ren_pl, ren_svs, SV.v.injEq, Value.int.injEq, Body.ints.injEq, SV.ptr.injEq, SV.sl.injEq, Value.string.injEq, Value.bool.injEq, List.map_cons, List.map_nil, forall_const, Nat.reduceLT, Nat.lt_add_one, imp_self, true_and, and_true, and_self, ob_some, get_mk, lk_cons, ↓reduceIte, Nat.reduceEqDiff, ne_eq, not_true_eq_false, not_false_eq_true, Nat.one_ne_zero, Nat.zero_ne_one, Nat.succ_ne_self, Nat.reduceAdd, Bool.false_eq_true, false_implies, implies_true, reduceCtorEq]
def f9 (i o m : Nat) (H : Hp) (n : Nat) : Option (SV × Hp × Nat) :=
  (rowAt H i (.strs [])).bind fun b => (strsB b).bind fun ss => if o + m ≤ ss.length ∧ m ≤ 1099511627776 ∧ (catb ((ss.drop o).take m)).length ≤ 1073741824 then some (.v (.string (sha (catb ((ss.drop o).take m)))), H, n) else none
def c9 : Ctr := fun args H n => match args with
  | [.sl i o m 1] => f9 i o m H n
  | _ => none
theorem k9 (h : OKT P C) (t : trFn P 102 = some m9) (h23 : C 129 = det c23) : OKT P (C.add 102 (det c9)) := h.add t fun args H n v H' n' hc => by
  unfold c9 at hc
  split at hc
  · unfold f9 at hc
    simp only [Option.bind_eq_some_iff] at hc
    obtain ⟨b, hb, ss, hs, hc⟩ := hc
    have := strsB_some hs; subst this
    split at hc
    · rename_i hcond
      cases hc
      exact lift_read (pre := []) hb ⟨rfl, fun _ h => by cases h⟩ (fun _ => rfl) rfl (h.spec t (w9 hcond.1 hcond.2.1 hcond.2.2 h23))
    · cases hc
  · cases hc
end
section
/- Layer 1's functions, at this program. -/
set_option linter.unusedVariables false
set_option linter.unusedSimpArgs false
set_option maxRecDepth 100000
open Go.Proofs
variable {P : Program} {C : Tab} {H : Hp} {n : Nat} {x : Nat → Option SO}
def numb (X : Int) (k : Nat) : Nat → List Int
  | 0 => []
  | c + 1 => numb X k c ++ [IntKind.u8.wrap (ishr .u64 X (8 * ((k : Int) - 1 - c)))]
def f25 (i o m : Nat) (X K : Int) (H : Hp) (n : Nat) : Option (SV × Hp × Nat) :=
  if i = 0 then (if o = 0 ∧ m = 0 ∧ 0 < K ∧ K ≤ 8 ∧ n < 1000 then some (.sl n 0 K.toNat 1, H.put n ⟨true, .ints .u8 (numb X K.toNat K.toNat)⟩, n + 1) else none) else
    (H.get i).bind fun s => (intsB .u8 s.b).bind fun ys => if s.wr = true ∧ i < 1000 ∧ o + m ≤ ys.length ∧ m ≤ 1099511627776 ∧ 0 < K ∧ K ≤ 8 ∧ n < 1000 then
      some (.sl n 0 (m + K.toNat) 1, ⟨(n, some ⟨true, .ints .u8 ((ys.drop o).take m ++ numb X K.toNat K.toNat)⟩) :: (i, none) :: H.l, H.x⟩, n + 1) else none
variable {P : Program} {C : Tab} {H : Hp} {n : Nat} {x : Nat → Option SO}
variable {P : Program} {C : Tab} {H : Hp} {n : Nat} {x : Nat → Option SO}
variable {P : Program} {C : Tab} {H : Hp} {n : Nat} {x : Nat → Option SO}
def f24 (i o m : Nat) (H : Hp) (n : Nat) : Option (SV × Hp × Nat) :=
  (H.get i).bind fun s => (intsB .u8 s.b).bind fun zs => if s.wr = true ∧ o + m ≤ zs.length ∧ m ≤ 1073741824 ∧ 0 < i ∧ i < 1000 then some (.v (.string (sha ((zs.drop o).take m))), H.del i, n) else none
end
section
/- The table of the hash's contracts at this program. -/
set_option linter.unusedVariables false
set_option maxRecDepth 100000
open Go.Proofs
variable {H : Hp} {n : Nat} {x : Nat → Option SO}
theorem mixT : Tryz.prog.follows .mixedOrders = true := Checked.mixed Tryz.checked
abbrev CT : Tab := CS Tryz.prog
theorem okT : OKT Tryz.prog CT := okCS mixT
def C1p : Tab := ((((((((Tab.none Tryz.prog).add 158 (det c45)).add 145 (det c36)).add 136 (det c28)).add 137 (det c29)).add 138 (det c30)).add 139 (det c32)).add 129 (det c23)).add 102 (det c9)
theorem ok1p : OKT Tryz.prog C1p :=
  k9 (k23 (k32 (k30 (k29 (k28 (k36 (k45 (OKT.none mixT) t45) t36 rfl) t28) t29) t30 rfl) t32) t23 rfl rfl rfl rfl) t9 rfl
theorem sumS {i o m : Nat} {ss : List ByteArray} (hr : rowAt H i (.strs []) = some (.strs ss)) (hom : o + m ≤ ss.length) (hb : m ≤ 1099511627776) (hl : (catb ((ss.drop o).take m)).length ≤ 1073741824) :
    SpecAt Tryz.prog 102 [.sl i o m 1] H n (.v (.string (sha (catb ((ss.drop o).take m))))) H n := by
  refine spec_of_ctr (ok1p.tab.f 102) ?_
  show f9 i o m H n = _
  unfold f9; rw [hr]; simp only [Option.bind_some, strsB_mk, if_pos (And.intro hom (And.intro hb hl))]
theorem sha_size (ys : List Int) : (sha ys).size = 32 := by
  unfold sha; rw [tx_sz, outb_len, Hs_len]
end
end Go.Sx