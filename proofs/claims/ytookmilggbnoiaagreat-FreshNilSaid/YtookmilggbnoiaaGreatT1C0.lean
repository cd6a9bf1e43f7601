/- The code of some functions of the program, resolved, each checked against the program. -/
import Derived.Test.YtookmilggbnoiaaGreatT1F
import Derived.Test.YtookmilggbnoiaaGreatProg
import Derived.KernelRfl
import Derived.Test.YtookmilggbnoiaaGreatAbExec7
set_option linter.unusedSimpArgs false
set_option linter.unusedVariables false
open Go.Proofs
namespace Go.Ab
/- gosem.cut.init -/
def x_gosem_cut_init : XFn := ⟨
    .ops [.op ⟨(some 0), .die, none⟩],
    [], 1⟩
theorem c_gosem_cut_init : compFn Tryz.prog f_gosem_cut_init = some x_gosem_cut_init := by kernel_rfl

/- vigil/vigillaw17.FreshNil -/
def x_vigillaw17_FreshNil : XFn := ⟨
    .seq
    (.ops [.op ⟨(some 6), (.mv (.k (.raw (.bool false)))), none⟩])
    (.seq
    (.ops [.op ⟨(some 7), (.mv (.k (.raw (.pointer none)))), none⟩])
    (.seq
    (.ops [.op ⟨(some 17), (.mv (.t 7)), none⟩,
      .op ⟨(some 18), (.mv (.t 0)), none⟩,
      .op ⟨(some 19), (.mv (.t 1)), none⟩,
      .op ⟨(some 20), (.build [(.int .u8 0), (.int .u8 0), (.int .u8 0), (.int .u8 0), (.int .u8 0), (.int .u8 0), (.int .u8 0), (.int .u8 0)] []), none⟩,
      .op ⟨(some 21), (.call f___vigil_fresh_Fresh__Ask [(.t 17), (.t 18), (.t 19), (.t 20)]), none⟩,
      .op ⟨(some 16), (.mv (.t 21)), none⟩,
      .op ⟨(some 22), (.extract (.t 16) 0), none⟩,
      .op ⟨(some 23), (.extract (.t 16) 1), none⟩,
      .op ⟨(some 8), (.mv (.t 22)), none⟩,
      .op ⟨(some 9), (.mv (.t 23)), none⟩])
    (.seq
    (.ops [.op ⟨(some 25), (.mv (.t 7)), none⟩,
      .op ⟨(some 26), (.mv (.t 0)), none⟩,
      .op ⟨(some 27), (.mv (.t 1)), none⟩,
      .op ⟨(some 28), (.mv (.t 2)), none⟩,
      .op ⟨(some 29), (.call f___vigil_fresh_Fresh__Take [(.t 25), (.t 26), (.t 27), (.t 28)]), none⟩,
      .op ⟨(some 24), (.mv (.t 29)), none⟩,
      .op ⟨(some 30), (.extract (.t 24) 0), none⟩,
      .op ⟨(some 31), (.extract (.t 24) 1), none⟩,
      .op ⟨(some 10), (.mv (.t 30)), none⟩,
      .op ⟨(some 11), (.mv (.t 31)), none⟩])
    (.seq
    (.ops [.op ⟨(some 33), (.mv (.t 7)), none⟩,
      .op ⟨(some 34), (.call f___vigil_fresh_Fresh__Since [(.t 33)]), none⟩,
      .op ⟨(some 32), (.mv (.t 34)), none⟩,
      .op ⟨(some 35), (.extract (.t 32) 0), none⟩,
      .op ⟨(some 36), (.extract (.t 32) 1), none⟩,
      .op ⟨(some 12), (.mv (.t 35)), none⟩,
      .op ⟨(some 13), (.mv (.t 36)), none⟩])
    (.seq
    (.ops [.op ⟨(some 38), (.mv (.t 2)), none⟩,
      .op ⟨(some 39), (.mv (.t 1)), none⟩,
      .op ⟨(some 40), (.call f_vigil_fresh_Attest [(.k (.raw (.pointer none))), (.t 38), (.t 39)]), none⟩,
      .op ⟨(some 37), (.mv (.t 40)), none⟩,
      .op ⟨(some 41), (.extract (.t 37) 0), none⟩,
      .op ⟨(some 42), (.extract (.t 37) 1), none⟩,
      .op ⟨(some 14), (.mv (.t 41)), none⟩,
      .op ⟨(some 15), (.mv (.t 42)), none⟩])
    (.seq
    (.ops [.op ⟨(some 43), (.call f_vigillaw17_known []), none⟩,
      .op ⟨(some 44), (.mv (.t 43)), none⟩,
      .split 44,
      .op ⟨(some 45), (.mv (.t 9)), (some (44, true))⟩,
      .op ⟨(some 46), (.bin .eql (.t 45) (.k (.raw (.int .i64 11)))), (some (44, true))⟩,
      .op ⟨(some 47), (.pick (.t 44) (.t 46) (.k (.raw (.bool false)))), none⟩,
      .op ⟨(some 48), (.mv (.t 47)), none⟩,
      .split 48,
      .op ⟨(some 49), (.mv (.t 11)), (some (48, true))⟩,
      .op ⟨(some 50), (.bin .eql (.t 49) (.k (.raw (.int .i64 11)))), (some (48, true))⟩,
      .op ⟨(some 51), (.pick (.t 48) (.t 50) (.k (.raw (.bool false)))), none⟩,
      .op ⟨(some 52), (.mv (.t 51)), none⟩,
      .split 52,
      .op ⟨(some 53), (.mv (.t 15)), (some (52, true))⟩,
      .op ⟨(some 54), (.bin .eql (.t 53) (.k (.raw (.int .i64 11)))), (some (52, true))⟩,
      .op ⟨(some 55), (.pick (.t 52) (.t 54) (.k (.raw (.bool false)))), none⟩,
      .op ⟨(some 56), (.mv (.t 55)), none⟩,
      .split 56,
      .op ⟨(some 57), (.mv (.t 12)), (some (56, true))⟩,
      .op ⟨(some 58), (.bin .eql (.t 57) (.k (.raw (.int .i64 0)))), (some (56, true))⟩,
      .op ⟨(some 59), (.pick (.t 56) (.t 58) (.k (.raw (.bool false)))), none⟩,
      .op ⟨(some 60), (.mv (.t 59)), none⟩,
      .split 60,
      .op ⟨(some 61), (.mv (.t 13)), (some (60, true))⟩,
      .op ⟨(some 62), (.un .not (.t 61)), (some (60, true))⟩,
      .op ⟨(some 63), (.pick (.t 60) (.t 62) (.k (.raw (.bool false)))), none⟩,
      .op ⟨(some 64), (.mv (.t 63)), none⟩,
      .split 64,
      .op ⟨(some 65), (.mv (.t 7)), (some (64, true))⟩,
      .op ⟨(some 66), (.mv (.t 1)), (some (64, true))⟩,
      .op ⟨(some 67), (.mv (.t 1)), (some (64, true))⟩,
      .op ⟨(some 68), (.call f___vigil_fresh_Fresh__Is [(.t 65), (.t 66), (.t 67)]), (some (64, true))⟩,
      .op ⟨(some 69), (.un .not (.t 68)), (some (64, true))⟩,
      .op ⟨(some 70), (.pick (.t 64) (.t 69) (.k (.raw (.bool false)))), none⟩,
      .op ⟨(some 71), (.mv (.t 70)), none⟩,
      .split 71,
      .op ⟨(some 72), (.mv (.t 7)), (some (71, true))⟩,
      .op ⟨(some 73), (.call f___vigil_fresh_Fresh__Set [(.t 72)]), (some (71, true))⟩,
      .op ⟨(some 74), (.eq .ptr false (.t 73) (.k (.raw (.pointer none)))), (some (71, true))⟩,
      .op ⟨(some 75), (.pick (.t 71) (.t 74) (.k (.raw (.bool false)))), none⟩,
      .op ⟨(some 76), (.mv (.t 75)), none⟩,
      .split 76,
      .op ⟨(some 77), (.mv (.t 7)), (some (76, true))⟩,
      .op ⟨(some 78), (.mv (.t 1)), (some (76, true))⟩,
      .op ⟨(some 79), (.call f___vigil_fresh_Fresh__Open [(.t 77), (.t 78)]), (some (76, true))⟩,
      .op ⟨(some 80), (.bin .eql (.t 79) (.k (.raw (.int .i64 0)))), (some (76, true))⟩,
      .op ⟨(some 81), (.pick (.t 76) (.t 80) (.k (.raw (.bool false)))), none⟩,
      .op ⟨(some 6), (.mv (.t 81)), none⟩])
    (.ret))))))),
    [.tmp 6], 82⟩
theorem c_vigillaw17_FreshNil : compFn Tryz.prog f_vigillaw17_FreshNil = some x_vigillaw17_FreshNil := by kernel_rfl

/- vigil/vigillaw17.FreshPlays -/
def x_vigillaw17_FreshPlays : XFn := ⟨
    .seq
    (.ops [.op ⟨(some 4), (.box (.t 0)), none⟩,
      .op ⟨(some 8), (.mv (.k (.raw (.bool false)))), none⟩])
    (.seq
    (.ops [.op ⟨(some 37), (.load (some 4) (.t 4)), none⟩,
      .op ⟨(some 38), (.call f_vigillaw09_Make [(.t 37)]), none⟩,
      .op ⟨(some 36), (.mv (.t 38)), none⟩,
      .op ⟨(some 39), (.extract (.t 36) 0), none⟩,
      .op ⟨(some 40), (.extract (.t 36) 1), none⟩,
      .op ⟨(some 9), (.mv (.t 39)), none⟩,
      .op ⟨(some 10), (.mv (.t 40)), none⟩])
    (.seq
    (.ops [.op ⟨(some 41), (.call f_vigil_fresh_New [(.k (.raw (.pointer none)))]), none⟩,
      .op ⟨(some 11), (.mv (.t 41)), none⟩])
    (.seq
    (.ops [.op ⟨(some 42), (.build [(.slice none 0 0), (.slice none 0 0), (.slice none 0 0), (.slice none 0 0), (.slice none 0 0), (.int .i64 0), (.bool false)] []), none⟩,
      .op ⟨(some 43), (.box (.t 42)), none⟩,
      .op ⟨(some 12), (.mv (.t 43)), none⟩])
    (.seq
    (.seq
    (.ops [.op ⟨(some 44), (.mv (.t 9)), none⟩,
      .op ⟨(some 45), (.eq .ptr false (.t 44) (.k (.raw (.pointer none)))), none⟩,
      .op ⟨(some 46), (.mv (.t 45)), none⟩,
      .split 46,
      .op ⟨(some 47), (.mv (.t 11)), (some (46, false))⟩,
      .op ⟨(some 48), (.eq .ptr false (.t 47) (.k (.raw (.pointer none)))), (some (46, false))⟩,
      .op ⟨(some 49), (.pick (.t 46) (.k (.raw (.bool true))) (.t 48)), none⟩])
    (.cond (.t 49)
     (.seq
     (.ops [.op ⟨(some 8), (.mv (.k (.raw (.bool false)))), none⟩])
     (.ret))
     (.skip)))
    (.seq
    (.ops [.op ⟨(some 50), (.call f_vigilref01_Make []), none⟩,
      .op ⟨(some 13), (.alloc [(.int .u32 0), (.int .u32 0), (.int .u32 0), (.int .u32 0), (.int .u32 0), (.int .u32 0), (.int .u32 0), (.int .u32 0), (.int .u32 0), (.int .u32 0), (.int .u32 0), (.int .u32 0), (.int .u32 0), (.int .u32 0), (.int .u32 0), (.int .u32 0), (.int .u32 0), (.int .u32 0), (.int .u32 0), (.int .u32 0), (.int .u32 0), (.int .u32 0), (.int .u32 0), (.int .u32 0), (.int .u32 0), (.int .u32 0), (.int .u32 0), (.int .u32 0), (.int .u32 0), (.int .u32 0), (.int .u32 0), (.int .u32 0), (.int .u32 0), (.int .u32 0), (.int .u32 0), (.int .u32 0), (.int .u32 0), (.int .u32 0), (.int .u32 0), (.int .u32 0), (.int .u32 0), (.int .u32 0), (.int .u32 0), (.int .u32 0), (.int .u32 0), (.int .u32 0), (.int .u32 0), (.int .u32 0), (.int .u32 0), (.int .u32 0), (.int .u32 0), (.int .u32 0), (.int .u32 0), (.int .u32 0), (.int .u32 0), (.int .u32 0), (.int .u32 0), (.int .u32 0), (.int .u32 0), (.int .u32 0), (.int .u32 0), (.int .u32 0), (.int .u32 0), (.int .u32 0), (.int .u32 0), (.int .u32 0), (.int .u32 0), (.int .u32 0), (.int .u32 0), (.int .u32 0), (.int .u32 0), (.int .u32 0)]), none⟩,
      .op ⟨none, (.store 72 (.t 13) (.t 50)), none⟩])
    (.seq
    (.ops [.op ⟨(some 14), (.mv (.k (.raw (.slice none 0 0)))), none⟩])
    (.seq
    (.ops [.op ⟨(some 51), (.mv (.t 2)), none⟩,
      .op ⟨(some 52), (.conv .u64 (.t 51)), none⟩,
      .op ⟨(some 53), (.bin .rem (.t 52) (.k (.raw (.int .u64 1073741825)))), none⟩,
      .op ⟨(some 54), (.conv .i64 (.t 53)), none⟩,
      .op ⟨(some 55), (.mv (.t 3)), none⟩,
      .op ⟨(some 56), (.conv .u64 (.t 55)), none⟩,
      .op ⟨(some 57), (.bin .rem (.t 56) (.k (.raw (.int .u64 1073741825)))), none⟩,
      .op ⟨(some 58), (.conv .i64 (.t 57)), none⟩,
      .op ⟨(some 2), (.mv (.t 54)), none⟩,
      .op ⟨(some 3), (.mv (.t 58)), none⟩])
    (.seq
    (.seq
    (.ops [.op ⟨(some 15), (.mv (.k (.raw (.int .i64 0)))), none⟩])
    (.block 0
     (.loop
      (.seq
      (.seq
      (.ops [.op ⟨(some 59), (.mv (.t 15)), none⟩,
        .op ⟨(some 60), (.mv (.t 1)), none⟩,
        .op ⟨(some 61), (.len (.t 60)), none⟩,
        .op ⟨(some 62), (.bin .lss (.t 59) (.t 61)), none⟩,
        .op ⟨(some 63), (.mv (.t 62)), none⟩,
        .split 63,
        .op ⟨(some 64), (.mv (.t 15)), (some (63, true))⟩,
        .op ⟨(some 65), (.bin .lss (.t 64) (.k (.raw (.int .i64 30)))), (some (63, true))⟩,
        .op ⟨(some 66), (.pick (.t 63) (.t 65) (.k (.raw (.bool false)))), none⟩])
      (.cond (.t 66)
       (.skip)
       (.exit 0)))
      (.seq
      (.block 1
       (.seq
       (.ops [.op ⟨(some 69), (.mv (.t 1)), none⟩,
         .op ⟨(some 70), (.mv (.t 15)), none⟩,
         .op ⟨(some 71), (.idxAddr 13 (.t 69) (.t 70)), none⟩,
         .op ⟨(some 72), (.load (some 13) (.t 71)), none⟩,
         .op ⟨(some 16), (.alloc [(.int .i64 0), (.int .i64 0), (.int .i64 0), (.int .i64 0), (.int .u8 0), (.int .u8 0), (.int .u8 0), (.int .u8 0), (.int .u8 0), (.int .u8 0), (.int .u8 0), (.int .u8 0), (.slice none 0 0)]), none⟩,
         .op ⟨none, (.store 13 (.t 16) (.t 72)), none⟩])
       (.seq
       (.seq
       (.ops [.op ⟨(some 73), (.fieldAddr 0 (.t 16)), none⟩,
         .op ⟨(some 74), (.load none (.t 73)), none⟩,
         .op ⟨(some 75), (.conv .u64 (.t 74)), none⟩,
         .op ⟨(some 76), (.bin .rem (.t 75) (.k (.raw (.int .u64 4)))), none⟩])
       (.block 2
        (.seq
        (.ops [.op ⟨(some 203), (.bin .eql (.t 76) (.k (.raw (.int .u64 0)))), none⟩,
          .op ⟨(some 202), (.mv (.t 203)), none⟩])
        (.cond (.t 202)
         (.seq
         (.ops [.op ⟨(some 205), (.mv (.t 11)), none⟩,
           .op ⟨(some 206), (.fieldAddr 1 (.t 16)), none⟩,
           .op ⟨(some 207), (.load none (.t 206)), none⟩,
           .op ⟨(some 208), (.fieldAddr 2 (.t 16)), none⟩,
           .op ⟨(some 209), (.load none (.t 208)), none⟩,
           .op ⟨(some 210), (.fieldAddr 4 (.t 16)), none⟩,
           .op ⟨(some 211), (.load (some 8) (.t 210)), none⟩,
           .op ⟨(some 212), (.call f___vigil_fresh_Fresh__Ask [(.t 205), (.t 207), (.t 209), (.t 211)]), none⟩,
           .op ⟨(some 204), (.mv (.t 212)), none⟩,
           .op ⟨(some 213), (.extract (.t 204) 0), none⟩,
           .op ⟨(some 214), (.extract (.t 204) 1), none⟩,
           .op ⟨(some 17), (.mv (.t 213)), none⟩,
           .op ⟨(some 18), (.mv (.t 214)), none⟩])
         (.seq
         (.ops [.op ⟨(some 216), (.mv (.t 12)), none⟩,
           .op ⟨(some 217), (.fieldAddr 1 (.t 16)), none⟩,
           .op ⟨(some 218), (.load none (.t 217)), none⟩,
           .op ⟨(some 219), (.fieldAddr 2 (.t 16)), none⟩,
           .op ⟨(some 220), (.load none (.t 219)), none⟩,
           .op ⟨(some 221), (.fieldAddr 4 (.t 16)), none⟩,
           .op ⟨(some 222), (.load (some 8) (.t 221)), none⟩,
           .op ⟨(some 223), (.call f_vigilref17_Fresh__Ask [(.t 216), (.t 218), (.t 220), (.t 222)]), none⟩,
           .op ⟨(some 215), (.mv (.t 223)), none⟩,
           .op ⟨(some 224), (.extract (.t 215) 0), none⟩,
           .op ⟨(some 225), (.extract (.t 215) 1), none⟩,
           .op ⟨(some 19), (.mv (.t 224)), none⟩,
           .op ⟨(some 20), (.mv (.t 225)), none⟩])
         (.seq
         (.seq
         (.ops [.op ⟨(some 226), (.mv (.t 18)), none⟩,
           .op ⟨(some 227), (.mv (.t 20)), none⟩,
           .op ⟨(some 228), (.bin .neq (.t 226) (.t 227)), none⟩,
           .op ⟨(some 229), (.mv (.t 228)), none⟩,
           .split 229,
           .op ⟨(some 230), (.mv (.t 17)), (some (229, false))⟩,
           .op ⟨(some 231), (.mv (.t 19)), (some (229, false))⟩,
           .op ⟨(some 232), (.call f_vigilref01_Same [(.t 230), (.t 231)]), (some (229, false))⟩,
           .op ⟨(some 233), (.un .not (.t 232)), (some (229, false))⟩,
           .op ⟨(some 234), (.pick (.t 229) (.k (.raw (.bool true))) (.t 233)), none⟩])
         (.cond (.t 234)
          (.seq
          (.ops [.op ⟨(some 8), (.mv (.k (.raw (.bool false)))), none⟩])
          (.ret))
          (.skip)))
         (.seq
         (.ops [.op ⟨(some 235), (.mv (.t 20)), none⟩,
           .op ⟨(some 236), (.bin .eql (.t 235) (.k (.raw (.int .i64 0)))), none⟩])
         (.cond (.t 236)
          (.ops [.op ⟨(some 237), (.mv (.t 17)), none⟩,
            .op ⟨(some 14), (.mv (.t 237)), none⟩])
          (.skip))))))
         (.seq
         (.ops [.op ⟨(some 239), (.bin .eql (.t 76) (.k (.raw (.int .u64 3)))), none⟩,
           .op ⟨(some 238), (.mv (.t 239)), none⟩])
         (.cond (.t 238)
          (.seq
          (.ops [.op ⟨(some 240), (.fieldAddr 2 (.t 16)), none⟩,
            .op ⟨(some 241), (.load none (.t 240)), none⟩,
            .op ⟨(some 242), (.conv .u64 (.t 241)), none⟩,
            .op ⟨(some 243), (.bin .rem (.t 242) (.k (.raw (.int .u64 65535)))), none⟩,
            .op ⟨(some 244), (.conv .i64 (.t 243)), none⟩,
            .op ⟨(some 245), (.bin .add (.k (.raw (.int .i64 1))) (.t 244)), none⟩,
            .op ⟨(some 21), (.mv (.t 245)), none⟩])
          (.seq
          (.draw [⟨(some 246), (.mv (.t 9)), none⟩,
            ⟨(some 247), (.fieldAddr 1 (.t 16)), none⟩,
            ⟨(some 248), (.load none (.t 247)), none⟩,
            ⟨(some 249), (.conv .u64 (.t 248)), none⟩,
            ⟨(some 250), (.bin .rem (.t 249) (.k (.raw (.int .u64 4)))), none⟩,
            ⟨(some 251), (.conv .i64 (.t 250)), none⟩,
            ⟨(some 252), (.mv (.t 21)), none⟩,
            ⟨(some 253), (.buildF 1 [(.int .i64 0)] [(0, 1, (.t 252))]), none⟩,
            ⟨(some 254), (.call f___vigil_revoke_Set__Revoke [(.t 246), (.t 251), (.t 253)]), none⟩,
            ⟨(some 255), (.mv (.t 10)), none⟩,
            ⟨(some 256), (.fieldAddr 1 (.t 16)), none⟩,
            ⟨(some 257), (.load none (.t 256)), none⟩,
            ⟨(some 258), (.conv .u64 (.t 257)), none⟩,
            ⟨(some 259), (.bin .rem (.t 258) (.k (.raw (.int .u64 4)))), none⟩,
            ⟨(some 260), (.conv .i64 (.t 259)), none⟩,
            ⟨(some 261), (.mv (.t 21)), none⟩,
            ⟨(some 262), (.buildF 1 [(.int .i64 0)] [(0, 1, (.t 261))]), none⟩,
            ⟨(some 263), (.call f_vigilref08_Set__Revoke [(.t 255), (.t 260), (.t 262)]), none⟩,
            ⟨(some 264), (.bin .neq (.t 254) (.t 263)), none⟩]
            [[], [], [1], [1, 2], [2, 1, 3], [3, 1, 2, 4], [], [6], [6, 7, 4, 2, 1, 3, 5, 0], [], [], [10], [10, 11], [11, 10, 12], [12, 10, 11, 13], [], [15], [0, 5, 3, 1, 2, 4, 7, 6, 8, 15, 16, 13, 11, 10, 12, 14, 9], [9, 14, 12, 10, 11, 13, 16, 15, 17, 0, 5, 3, 1, 2, 4, 7, 6, 8]]
            [.q 0, .q 1, .q 2, .q 3, .q 4, .q 5, .q 6, .q 7, .q 9, .q 10, .q 11, .q 12, .q 13, .q 14, .q 15, .q 16, .eff 8, .eff 17, .q 18])
          (.cond (.t 264)
           (.seq
           (.ops [.op ⟨(some 8), (.mv (.k (.raw (.bool false)))), none⟩])
           (.ret))
           (.skip))))
          (.seq
          (.ops [.op ⟨(some 77), (.fieldAddr 12 (.t 16)), none⟩,
            .op ⟨(some 78), (.load none (.t 77)), none⟩,
            .op ⟨(some 79), (.fieldAddr 12 (.t 16)), none⟩,
            .op ⟨(some 80), (.load none (.t 79)), none⟩,
            .op ⟨(some 81), (.len (.t 80)), none⟩,
            .op ⟨(some 82), (.minMax false (.t 81) [(.k (.raw (.int .i64 200)))]), none⟩,
            .op ⟨(some 83), (.slice 1 (.t 78) none (some (.t 82)) none), none⟩,
            .op ⟨(some 22), (.mv (.t 83)), none⟩])
          (.seq
          (.seq
          (.ops [.op ⟨(some 84), (.fieldAddr 0 (.t 16)), none⟩,
            .op ⟨(some 85), (.load none (.t 84)), none⟩,
            .op ⟨(some 86), (.conv .u64 (.t 85)), none⟩,
            .op ⟨(some 87), (.bin .rem (.t 86) (.k (.raw (.int .u64 4)))), none⟩,
            .op ⟨(some 88), (.bin .eql (.t 87) (.k (.raw (.int .u64 1)))), none⟩])
          (.cond (.t 88)
           (.seq
           (.ops [.op ⟨(some 89), (.fieldAddr 3 (.t 16)), none⟩,
             .op ⟨(some 90), (.load none (.t 89)), none⟩,
             .op ⟨(some 91), (.conv .u64 (.t 90)), none⟩,
             .op ⟨(some 92), (.bin .rem (.t 91) (.k (.raw (.int .u64 300)))), none⟩,
             .op ⟨(some 93), (.conv .i64 (.t 92)), none⟩,
             .op ⟨(some 23), (.mv (.t 93)), none⟩])
           (.seq
           (.ops [.op ⟨(some 95), (.mv (.t 9)), none⟩,
             .op ⟨(some 96), (.mv (.t 14)), none⟩,
             .op ⟨(some 97), (.mv (.t 23)), none⟩,
             .op ⟨(some 98), (.call f_vigil_fresh_Attest [(.t 95), (.t 96), (.t 97)]), none⟩,
             .op ⟨(some 94), (.mv (.t 98)), none⟩,
             .op ⟨(some 99), (.extract (.t 94) 0), none⟩,
             .op ⟨(some 100), (.extract (.t 94) 1), none⟩,
             .op ⟨(some 24), (.mv (.t 99)), none⟩,
             .op ⟨(some 25), (.mv (.t 100)), none⟩])
           (.seq
           (.ops [.op ⟨(some 102), (.load (some 72) (.t 13)), none⟩,
             .op ⟨(some 103), (.mv (.t 10)), none⟩,
             .op ⟨(some 104), (.mv (.t 14)), none⟩,
             .op ⟨(some 105), (.mv (.t 23)), none⟩,
             .op ⟨(some 106), (.call f_vigilref17_Attest [(.t 102), (.t 103), (.t 104), (.t 105)]), none⟩,
             .op ⟨(some 101), (.mv (.t 106)), none⟩,
             .op ⟨(some 107), (.extract (.t 101) 0), none⟩,
             .op ⟨(some 108), (.extract (.t 101) 1), none⟩,
             .op ⟨(some 26), (.mv (.t 107)), none⟩,
             .op ⟨(some 27), (.mv (.t 108)), none⟩])
           (.seq
           (.seq
           (.ops [.op ⟨(some 109), (.mv (.t 25)), none⟩,
             .op ⟨(some 110), (.mv (.t 27)), none⟩,
             .op ⟨(some 111), (.bin .neq (.t 109) (.t 110)), none⟩,
             .op ⟨(some 112), (.mv (.t 111)), none⟩,
             .split 112,
             .op ⟨(some 113), (.mv (.t 24)), (some (112, false))⟩,
             .op ⟨(some 114), (.mv (.t 26)), (some (112, false))⟩,
             .op ⟨(some 115), (.call f_vigilref01_Same [(.t 113), (.t 114)]), (some (112, false))⟩,
             .op ⟨(some 116), (.un .not (.t 115)), (some (112, false))⟩,
             .op ⟨(some 117), (.pick (.t 112) (.k (.raw (.bool true))) (.t 116)), none⟩])
           (.cond (.t 117)
            (.seq
            (.ops [.op ⟨(some 8), (.mv (.k (.raw (.bool false)))), none⟩])
            (.ret))
            (.skip)))
           (.ops [.op ⟨(some 118), (.mv (.t 24)), none⟩,
             .op ⟨(some 22), (.mv (.t 118)), none⟩])))))
           (.skip)))
          (.seq
          (.ops [.op ⟨(some 120), (.mv (.t 11)), none⟩,
            .op ⟨(some 121), (.fieldAddr 1 (.t 16)), none⟩,
            .op ⟨(some 122), (.load none (.t 121)), none⟩,
            .op ⟨(some 123), (.fieldAddr 2 (.t 16)), none⟩,
            .op ⟨(some 124), (.load none (.t 123)), none⟩,
            .op ⟨(some 125), (.mv (.t 22)), none⟩,
            .op ⟨(some 126), (.call f___vigil_fresh_Fresh__Take [(.t 120), (.t 122), (.t 124), (.t 125)]), none⟩,
            .op ⟨(some 119), (.mv (.t 126)), none⟩,
            .op ⟨(some 127), (.extract (.t 119) 0), none⟩,
            .op ⟨(some 128), (.extract (.t 119) 1), none⟩,
            .op ⟨(some 28), (.mv (.t 127)), none⟩,
            .op ⟨(some 29), (.mv (.t 128)), none⟩])
          (.seq
          (.seq
          (.ops [.op ⟨(some 129), (.fieldAddr 1 (.t 16)), none⟩,
            .op ⟨(some 130), (.load none (.t 129)), none⟩,
            .op ⟨(some 131), (.fieldAddr 2 (.t 16)), none⟩,
            .op ⟨(some 132), (.load none (.t 131)), none⟩,
            .op ⟨(some 133), (.call f_vigilref17_Right [(.t 130), (.t 132)]), none⟩,
            .op ⟨(some 134), (.un .not (.t 133)), none⟩])
          (.cond (.t 134)
           (.seq
           (.seq
           (.ops [.op ⟨(some 135), (.mv (.t 29)), none⟩,
             .op ⟨(some 136), (.bin .neq (.t 135) (.k (.raw (.int .i64 10)))), none⟩])
           (.cond (.t 136)
            (.seq
            (.ops [.op ⟨(some 8), (.mv (.k (.raw (.bool false)))), none⟩])
            (.ret))
            (.skip)))
           (.exit 1))
           (.skip)))
          (.seq
          (.seq
          (.ops [.op ⟨(some 137), (.mv (.t 22)), none⟩,
            .op ⟨(some 138), (.len (.t 137)), none⟩,
            .op ⟨(some 139), (.bin .lss (.t 138) (.k (.raw (.int .i64 40)))), none⟩])
          (.cond (.t 139)
           (.seq
           (.seq
           (.ops [.op ⟨(some 140), (.mv (.t 29)), none⟩,
             .op ⟨(some 141), (.bin .neq (.t 140) (.k (.raw (.int .i64 4)))), none⟩])
           (.cond (.t 141)
            (.seq
            (.ops [.op ⟨(some 8), (.mv (.k (.raw (.bool false)))), none⟩])
            (.ret))
            (.skip)))
           (.exit 1))
           (.skip)))
          (.seq
          (.ops [.op ⟨(some 143), (.mv (.t 22)), none⟩,
            .op ⟨(some 144), (.slice 1 (.t 143) (some (.k (.raw (.int .i64 8)))) (some (.k (.raw (.int .i64 24)))) none), none⟩,
            .op ⟨(some 145), (.call f_vigil_wire_New [(.t 144)]), none⟩,
            .op ⟨(some 146), (.call f_vigil_delta_Read [(.t 145)]), none⟩,
            .op ⟨(some 142), (.mv (.t 146)), none⟩,
            .op ⟨(some 147), (.extract (.t 142) 0), none⟩,
            .op ⟨(some 148), (.extract (.t 142) 1), none⟩,
            .op ⟨(some 30), (.alloc [(.int .i64 0), (.int .i64 0), (.int .i64 0), (.int .i64 0), (.int .u8 0), (.int .u8 0), (.int .u8 0), (.int .u8 0), (.int .u8 0), (.int .u8 0), (.int .u8 0), (.int .u8 0)]), none⟩,
            .op ⟨none, (.store 12 (.t 30) (.t 147)), none⟩,
            .op ⟨(some 31), (.mv (.t 148)), none⟩])
          (.seq
          (.ops [.op ⟨(some 150), (.mv (.t 22)), none⟩,
            .op ⟨(some 151), (.slice 1 (.t 150) (some (.k (.raw (.int .i64 24)))) none none), none⟩,
            .op ⟨(some 152), (.call f_vigil_revoke_Parse [(.t 151)]), none⟩,
            .op ⟨(some 149), (.mv (.t 152)), none⟩,
            .op ⟨(some 153), (.extract (.t 149) 0), none⟩,
            .op ⟨(some 154), (.extract (.t 149) 1), none⟩,
            .op ⟨(some 32), (.alloc [(.int .i64 0), (.int .i64 0), (.int .i64 0), (.int .i64 0), (.slice none 0 0), (.slice none 0 0), (.slice none 0 0), (.slice none 0 0)]), none⟩,
            .op ⟨none, (.store 8 (.t 32) (.t 153)), none⟩,
            .op ⟨(some 33), (.mv (.t 154)), none⟩])
          (.seq
          (.seq
          (.ops [.op ⟨(some 155), (.mv (.t 31)), none⟩,
            .op ⟨(some 156), (.bin .neq (.t 155) (.k (.raw (.int .i64 0)))), none⟩,
            .op ⟨(some 157), (.mv (.t 156)), none⟩,
            .split 157,
            .op ⟨(some 158), (.mv (.t 33)), (some (157, false))⟩,
            .op ⟨(some 159), (.bin .neq (.t 158) (.k (.raw (.int .i64 0)))), (some (157, false))⟩,
            .op ⟨(some 160), (.pick (.t 157) (.k (.raw (.bool true))) (.t 159)), none⟩])
          (.cond (.t 160)
           (.seq
           (.seq
           (.ops [.op ⟨(some 161), (.mv (.t 31)), none⟩,
             .op ⟨(some 162), (.bin .neq (.t 161) (.k (.raw (.int .i64 0)))), none⟩,
             .op ⟨(some 163), (.mv (.t 162)), none⟩,
             .split 163,
             .op ⟨(some 164), (.mv (.t 29)), (some (163, true))⟩,
             .op ⟨(some 165), (.mv (.t 31)), (some (163, true))⟩,
             .op ⟨(some 166), (.bin .neq (.t 164) (.t 165)), (some (163, true))⟩,
             .op ⟨(some 167), (.pick (.t 163) (.t 166) (.k (.raw (.bool false)))), none⟩,
             .op ⟨(some 168), (.mv (.t 167)), none⟩,
             .split 168,
             .op ⟨(some 169), (.mv (.t 31)), (some (168, false))⟩,
             .op ⟨(some 170), (.bin .eql (.t 169) (.k (.raw (.int .i64 0)))), (some (168, false))⟩,
             .op ⟨(some 171), (.mv (.t 170)), (some (168, false))⟩,
             .split 171,
             .op ⟨(some 172), (.mv (.t 29)), (some (171, true))⟩,
             .op ⟨(some 173), (.mv (.t 33)), (some (171, true))⟩,
             .op ⟨(some 174), (.bin .neq (.t 172) (.t 173)), (some (171, true))⟩,
             .op ⟨(some 175), (.pick (.t 171) (.t 174) (.k (.raw (.bool false)))), (some (168, false))⟩,
             .op ⟨(some 176), (.pick (.t 168) (.k (.raw (.bool true))) (.t 175)), none⟩])
           (.cond (.t 176)
            (.seq
            (.ops [.op ⟨(some 8), (.mv (.k (.raw (.bool false)))), none⟩])
            (.ret))
            (.skip)))
           (.exit 1))
           (.skip)))
          (.seq
          (.draw [⟨(some 178), (.mv (.t 12)), none⟩,
            ⟨(some 179), (.fieldAddr 1 (.t 16)), none⟩,
            ⟨(some 180), (.load none (.t 179)), none⟩,
            ⟨(some 181), (.fieldAddr 2 (.t 16)), none⟩,
            ⟨(some 182), (.load none (.t 181)), none⟩,
            ⟨(some 183), (.mv (.t 22)), none⟩,
            ⟨(some 184), (.slice 1 (.t 183) none (some (.k (.raw (.int .i64 8)))) none), none⟩,
            ⟨(some 185), (.arrPtr 8 1 (.t 184)), none⟩,
            ⟨(some 186), (.load (some 8) (.t 185)), none⟩,
            ⟨(some 187), (.fieldAddr 0 (.t 30)), none⟩,
            ⟨(some 188), (.load (some 4) (.t 187)), none⟩,
            ⟨(some 189), (.load (some 8) (.t 32)), none⟩,
            ⟨(some 190), (.call f_vigillaw09_Delta [(.t 189)]), none⟩,
            ⟨(some 191), (.call f_vigilref17_Fresh__Take [(.t 178), (.t 180), (.t 182), (.t 186), (.t 188), (.t 190)]), none⟩,
            ⟨(some 177), (.mv (.t 191)), none⟩,
            ⟨(some 192), (.extract (.t 177) 0), none⟩,
            ⟨(some 193), (.extract (.t 177) 1), none⟩,
            ⟨(some 34), (.mv (.t 192)), none⟩,
            ⟨(some 35), (.mv (.t 193)), none⟩]
            [[], [], [1], [], [3], [], [5], [5, 6], [6, 5, 7], [], [9], [], [11], [11, 12, 9, 10, 7, 5, 6, 8, 3, 4, 1, 2, 0], [0, 2, 1, 4, 3, 8, 6, 5, 7, 10, 9, 12, 11, 13], [13, 11, 12, 9, 10, 7, 5, 6, 8, 3, 4, 1, 2, 0, 14], [13, 11, 12, 9, 10, 7, 5, 6, 8, 3, 4, 1, 2, 0, 14], [14, 0, 2, 1, 4, 3, 8, 6, 5, 7, 10, 9, 12, 11, 13, 15], [15, 17, 14, 0, 2, 1, 4, 3, 8, 6, 5, 7, 10, 9, 12, 11, 13, 16]]
            [.q 0, .q 1, .q 2, .q 3, .q 4, .q 5, .q 6, .q 7, .q 8, .q 9, .q 10, .q 11, .eff 12, .eff 13, .q 14, .q 15, .q 16, .q 17, .q 18])
          (.seq
          (.ops [.op ⟨(some 194), (.mv (.t 28)), none⟩,
            .op ⟨(some 195), (.mv (.t 34)), none⟩,
            .op ⟨(some 196), (.eq .bool true (.t 194) (.t 195)), none⟩,
            .op ⟨(some 197), (.mv (.t 196)), none⟩,
            .split 197,
            .op ⟨(some 198), (.mv (.t 29)), (some (197, false))⟩,
            .op ⟨(some 199), (.mv (.t 35)), (some (197, false))⟩,
            .op ⟨(some 200), (.bin .neq (.t 198) (.t 199)), (some (197, false))⟩,
            .op ⟨(some 201), (.pick (.t 197) (.k (.raw (.bool true))) (.t 200)), none⟩])
          (.cond (.t 201)
           (.seq
           (.ops [.op ⟨(some 8), (.mv (.k (.raw (.bool false)))), none⟩])
           (.ret))
           (.skip))))))))))))))))))
       (.seq
       (.ops [.op ⟨(some 265), (.mv (.t 11)), none⟩,
         .op ⟨(some 266), (.mv (.t 12)), none⟩,
         .op ⟨(some 267), (.mv (.t 2)), none⟩,
         .op ⟨(some 268), (.mv (.t 3)), none⟩,
         .op ⟨(some 269), (.call f_vigillaw17_tells [(.t 265), (.t 266), (.t 267), (.t 268)]), none⟩,
         .op ⟨(some 270), (.un .not (.t 269)), none⟩])
       (.cond (.t 270)
        (.seq
        (.ops [.op ⟨(some 8), (.mv (.k (.raw (.bool false)))), none⟩])
        (.ret))
        (.skip))))))
      (.ops [.op ⟨(some 67), (.mv (.t 15)), none⟩,
        .op ⟨(some 68), (.bin .add (.t 67) (.k (.raw (.int .i64 1)))), none⟩,
        .op ⟨(some 15), (.mv (.t 68)), none⟩]))))))
    (.seq
    (.ops [.op ⟨(some 271), (.call f_vigillaw17_known []), none⟩,
      .op ⟨(some 8), (.mv (.t 271)), none⟩])
    (.ret)))))))))),
    [.tmp 8], 272⟩
theorem c_vigillaw17_FreshPlays : compFn Tryz.prog f_vigillaw17_FreshPlays = some x_vigillaw17_FreshPlays := by kernel_rfl

/- vigil/vigillaw17.FreshHolds -/
def x_vigillaw17_FreshHolds : XFn := ⟨
    .seq
    (.ops [.op ⟨(some 2), (.mv (.k (.raw (.bool false)))), none⟩])
    (.seq
    (.ops [.op ⟨(some 18), (.call f_vigil_revoke_New []), none⟩,
      .op ⟨(some 19), (.call f_vigil_fresh_New [(.k (.raw (.pointer none)))]), none⟩,
      .op ⟨(some 3), (.mv (.t 18)), none⟩,
      .op ⟨(some 4), (.mv (.t 19)), none⟩])
    (.seq
    (.seq
    (.ops [.op ⟨(some 20), (.mv (.t 3)), none⟩,
      .op ⟨(some 21), (.eq .ptr false (.t 20) (.k (.raw (.pointer none)))), none⟩,
      .op ⟨(some 22), (.mv (.t 21)), none⟩,
      .split 22,
      .op ⟨(some 23), (.mv (.t 4)), (some (22, false))⟩,
      .op ⟨(some 24), (.eq .ptr false (.t 23) (.k (.raw (.pointer none)))), (some (22, false))⟩,
      .op ⟨(some 25), (.pick (.t 22) (.k (.raw (.bool true))) (.t 24)), none⟩])
    (.cond (.t 25)
     (.seq
     (.ops [.op ⟨(some 2), (.mv (.k (.raw (.bool false)))), none⟩])
     (.ret))
     (.skip)))
    (.seq
    (.ops [.op ⟨(some 5), (.mv (.k (.raw (.slice none 0 0)))), none⟩])
    (.seq
    (.ops [.op ⟨(some 6), (.mv (.k (.raw (.slice none 0 0)))), none⟩])
    (.seq
    (.ops [.op ⟨(some 7), (.mv (.k (.raw (.slice none 0 0)))), none⟩])
    (.seq
    (.ops [.op ⟨(some 8), (.mv (.k (.raw (.int .i64 0)))), none⟩])
    (.seq
    (.seq
    (.ops [.op ⟨(some 9), (.mv (.k (.raw (.int .i64 0)))), none⟩])
    (.block 0
     (.loop
      (.seq
      (.seq
      (.ops [.op ⟨(some 26), (.mv (.t 9)), none⟩,
        .op ⟨(some 27), (.mv (.t 0)), none⟩,
        .op ⟨(some 28), (.len (.t 27)), none⟩,
        .op ⟨(some 29), (.bin .lss (.t 26) (.t 28)), none⟩,
        .op ⟨(some 30), (.mv (.t 29)), none⟩,
        .split 30,
        .op ⟨(some 31), (.mv (.t 9)), (some (30, true))⟩,
        .op ⟨(some 32), (.bin .lss (.t 31) (.k (.raw (.int .i64 40)))), (some (30, true))⟩,
        .op ⟨(some 33), (.pick (.t 30) (.t 32) (.k (.raw (.bool false)))), none⟩])
      (.cond (.t 33)
       (.skip)
       (.exit 0)))
      (.seq
      (.block 1
       (.seq
       (.ops [.op ⟨(some 36), (.mv (.t 8)), none⟩,
         .op ⟨(some 37), (.mv (.t 0)), none⟩,
         .op ⟨(some 38), (.mv (.t 9)), none⟩,
         .op ⟨(some 39), (.idxAddr 13 (.t 37) (.t 38)), none⟩,
         .op ⟨(some 40), (.fieldAddr 2 (.t 39)), none⟩,
         .op ⟨(some 41), (.load none (.t 40)), none⟩,
         .op ⟨(some 42), (.conv .u64 (.t 41)), none⟩,
         .op ⟨(some 43), (.bin .rem (.t 42) (.k (.raw (.int .u64 9)))), none⟩,
         .op ⟨(some 44), (.conv .i64 (.t 43)), none⟩,
         .op ⟨(some 45), (.bin .add (.t 36) (.t 44)), none⟩,
         .op ⟨(some 8), (.mv (.t 45)), none⟩])
       (.seq
       (.ops [.op ⟨(some 46), (.mv (.t 6)), none⟩,
         .op ⟨(some 47), (.mv (.t 3)), none⟩,
         .op ⟨(some 48), (.call f___vigil_revoke_Set__All [(.t 47)]), none⟩,
         .op ⟨(some 49), (.buildF 1 [(.slice none 0 0)] [(0, 1, (.t 48))]), none⟩,
         .op ⟨(some 50), (.append 1 24 (.t 46) (.t 49)), none⟩,
         .op ⟨(some 51), (.mv (.t 7)), none⟩,
         .op ⟨(some 52), (.mv (.t 8)), none⟩,
         .op ⟨(some 53), (.buildF 1 [(.int .i64 0)] [(0, 1, (.t 52))]), none⟩,
         .op ⟨(some 54), (.append 1 8 (.t 51) (.t 53)), none⟩,
         .op ⟨(some 6), (.mv (.t 50)), none⟩,
         .op ⟨(some 7), (.mv (.t 54)), none⟩])
       (.seq
       (.seq
       (.ops [.op ⟨(some 55), (.mv (.t 0)), none⟩,
         .op ⟨(some 56), (.mv (.t 9)), none⟩,
         .op ⟨(some 57), (.idxAddr 13 (.t 55) (.t 56)), none⟩,
         .op ⟨(some 58), (.fieldAddr 0 (.t 57)), none⟩,
         .op ⟨(some 59), (.load none (.t 58)), none⟩,
         .op ⟨(some 60), (.conv .u64 (.t 59)), none⟩,
         .op ⟨(some 61), (.bin .rem (.t 60) (.k (.raw (.int .u64 3)))), none⟩])
       (.block 2
        (.seq
        (.ops [.op ⟨(some 83), (.bin .eql (.t 61) (.k (.raw (.int .u64 0)))), none⟩,
          .op ⟨(some 82), (.mv (.t 83)), none⟩])
        (.cond (.t 82)
         (.seq
         (.ops [.op ⟨(some 85), (.mv (.t 4)), none⟩,
           .op ⟨(some 86), (.mv (.t 8)), none⟩,
           .op ⟨(some 87), (.mv (.t 0)), none⟩,
           .op ⟨(some 88), (.mv (.t 9)), none⟩,
           .op ⟨(some 89), (.idxAddr 13 (.t 87) (.t 88)), none⟩,
           .op ⟨(some 90), (.fieldAddr 4 (.t 89)), none⟩,
           .op ⟨(some 91), (.load (some 8) (.t 90)), none⟩,
           .op ⟨(some 92), (.call f___vigil_fresh_Fresh__Ask [(.t 85), (.k (.raw (.int .i64 1))), (.t 86), (.t 91)]), none⟩,
           .op ⟨(some 84), (.mv (.t 92)), none⟩,
           .op ⟨(some 93), (.extract (.t 84) 0), none⟩,
           .op ⟨(some 94), (.extract (.t 84) 1), none⟩,
           .op ⟨(some 10), (.mv (.t 93)), none⟩,
           .op ⟨(some 11), (.mv (.t 94)), none⟩])
         (.seq
         (.ops [.op ⟨(some 95), (.mv (.t 11)), none⟩,
           .op ⟨(some 96), (.bin .eql (.t 95) (.k (.raw (.int .i64 0)))), none⟩])
         (.cond (.t 96)
          (.ops [.op ⟨(some 97), (.mv (.t 5)), none⟩,
            .op ⟨(some 98), (.mv (.t 10)), none⟩,
            .op ⟨(some 99), (.buildF 1 [(.slice none 0 0)] [(0, 1, (.t 98))]), none⟩,
            .op ⟨(some 100), (.append 1 24 (.t 97) (.t 99)), none⟩,
            .op ⟨(some 5), (.mv (.t 100)), none⟩])
          (.skip))))
         (.seq
         (.ops [.op ⟨(some 102), (.bin .eql (.t 61) (.k (.raw (.int .u64 1)))), none⟩,
           .op ⟨(some 101), (.mv (.t 102)), none⟩])
         (.cond (.t 101)
          (.seq
          (.ops [.op ⟨(some 103), (.mv (.t 5)), none⟩,
            .op ⟨(some 104), (.len (.t 103)), none⟩,
            .op ⟨(some 105), (.bin .gtr (.t 104) (.k (.raw (.int .i64 0)))), none⟩])
          (.cond (.t 105)
           (.seq
           (.draw [⟨(some 107), (.mv (.t 3)), none⟩,
             ⟨(some 108), (.mv (.t 5)), none⟩,
             ⟨(some 109), (.mv (.t 0)), none⟩,
             ⟨(some 110), (.mv (.t 9)), none⟩,
             ⟨(some 111), (.idxAddr 13 (.t 109) (.t 110)), none⟩,
             ⟨(some 112), (.fieldAddr 1 (.t 111)), none⟩,
             ⟨(some 113), (.load none (.t 112)), none⟩,
             ⟨(some 114), (.conv .u64 (.t 113)), none⟩,
             ⟨(some 115), (.mv (.t 5)), none⟩,
             ⟨(some 116), (.len (.t 115)), none⟩,
             ⟨(some 117), (.conv .u64 (.t 116)), none⟩,
             ⟨(some 118), (.bin .rem (.t 114) (.t 117)), none⟩,
             ⟨(some 119), (.conv .i64 (.t 118)), none⟩,
             ⟨(some 120), (.idxAddr 1 (.t 108) (.t 119)), none⟩,
             ⟨(some 121), (.load none (.t 120)), none⟩,
             ⟨(some 122), (.mv (.t 0)), none⟩,
             ⟨(some 123), (.mv (.t 9)), none⟩,
             ⟨(some 124), (.idxAddr 13 (.t 122) (.t 123)), none⟩,
             ⟨(some 125), (.fieldAddr 3 (.t 124)), none⟩,
             ⟨(some 126), (.load none (.t 125)), none⟩,
             ⟨(some 127), (.conv .u64 (.t 126)), none⟩,
             ⟨(some 128), (.bin .rem (.t 127) (.k (.raw (.int .u64 40)))), none⟩,
             ⟨(some 129), (.conv .i64 (.t 128)), none⟩,
             ⟨(some 130), (.bin .add (.k (.raw (.int .i64 40))) (.t 129)), none⟩,
             ⟨(some 131), (.call f_vigil_fresh_Attest [(.t 107), (.t 121), (.t 130)]), none⟩,
             ⟨(some 106), (.mv (.t 131)), none⟩,
             ⟨(some 132), (.extract (.t 106) 0), none⟩,
             ⟨(some 133), (.extract (.t 106) 1), none⟩,
             ⟨(some 12), (.mv (.t 132)), none⟩,
             ⟨(some 13), (.mv (.t 133)), none⟩]
             [[], [], [], [], [3, 2], [2, 3, 4], [4, 3, 2, 5], [5, 2, 3, 4, 6], [], [8], [8, 9], [9, 8, 10, 6, 4, 3, 2, 5, 7], [7, 5, 2, 3, 4, 6, 10, 8, 9, 11], [11, 9, 8, 10, 6, 4, 3, 2, 5, 7, 12, 1], [1, 12, 7, 5, 2, 3, 4, 6, 10, 8, 9, 11, 13], [], [], [16, 15], [15, 16, 17], [17, 16, 15, 18], [18, 15, 16, 17, 19], [19, 17, 16, 15, 18, 20], [20, 18, 15, 16, 17, 19, 21], [21, 19, 17, 16, 15, 18, 20, 22], [22, 20, 18, 15, 16, 17, 19, 21, 23, 13, 11, 9, 8, 10, 6, 4, 3, 2, 5, 7, 12, 1, 14, 0], [0, 14, 1, 12, 7, 5, 2, 3, 4, 6, 10, 8, 9, 11, 13, 23, 21, 19, 17, 16, 15, 18, 20, 22, 24], [24, 22, 20, 18, 15, 16, 17, 19, 21, 23, 13, 11, 9, 8, 10, 6, 4, 3, 2, 5, 7, 12, 1, 14, 0, 25], [24, 22, 20, 18, 15, 16, 17, 19, 21, 23, 13, 11, 9, 8, 10, 6, 4, 3, 2, 5, 7, 12, 1, 14, 0, 25], [25, 0, 14, 1, 12, 7, 5, 2, 3, 4, 6, 10, 8, 9, 11, 13, 23, 21, 19, 17, 16, 15, 18, 20, 22, 24, 26], [26, 28, 25, 0, 14, 1, 12, 7, 5, 2, 3, 4, 6, 10, 8, 9, 11, 13, 23, 21, 19, 17, 16, 15, 18, 20, 22, 24, 27]]
             [.q 0, .q 1, .q 2, .q 3, .q 4, .q 5, .q 6, .q 7, .q 8, .q 9, .q 10, .q 11, .q 12, .q 13, .q 14, .q 15, .q 16, .q 17, .q 18, .q 19, .q 20, .q 21, .q 22, .q 23, .eff 24, .q 25, .q 26, .q 27, .q 28, .q 29])
           (.seq
           (.seq
           (.ops [.op ⟨(some 134), (.mv (.t 13)), none⟩,
             .op ⟨(some 135), (.bin .neq (.t 134) (.k (.raw (.int .i64 0)))), none⟩])
           (.cond (.t 135)
            (.seq
            (.ops [.op ⟨(some 2), (.mv (.k (.raw (.bool false)))), none⟩])
            (.ret))
            (.skip)))
           (.ops [.op ⟨(some 136), (.mv (.t 4)), none⟩,
             .op ⟨(some 137), (.mv (.t 8)), none⟩,
             .op ⟨(some 138), (.mv (.t 12)), none⟩,
             .op ⟨(some 139), (.call f___vigil_fresh_Fresh__Take [(.t 136), (.k (.raw (.int .i64 1))), (.t 137), (.t 138)]), none⟩])))
           (.skip)))
          (.draw [⟨(some 62), (.mv (.t 3)), none⟩,
            ⟨(some 63), (.mv (.t 0)), none⟩,
            ⟨(some 64), (.mv (.t 9)), none⟩,
            ⟨(some 65), (.idxAddr 13 (.t 63) (.t 64)), none⟩,
            ⟨(some 66), (.fieldAddr 1 (.t 65)), none⟩,
            ⟨(some 67), (.load none (.t 66)), none⟩,
            ⟨(some 68), (.conv .u64 (.t 67)), none⟩,
            ⟨(some 69), (.bin .rem (.t 68) (.k (.raw (.int .u64 4)))), none⟩,
            ⟨(some 70), (.conv .i64 (.t 69)), none⟩,
            ⟨(some 71), (.mv (.t 0)), none⟩,
            ⟨(some 72), (.mv (.t 9)), none⟩,
            ⟨(some 73), (.idxAddr 13 (.t 71) (.t 72)), none⟩,
            ⟨(some 74), (.fieldAddr 3 (.t 73)), none⟩,
            ⟨(some 75), (.load none (.t 74)), none⟩,
            ⟨(some 76), (.conv .u64 (.t 75)), none⟩,
            ⟨(some 77), (.bin .rem (.t 76) (.k (.raw (.int .u64 100)))), none⟩,
            ⟨(some 78), (.conv .i64 (.t 77)), none⟩,
            ⟨(some 79), (.bin .add (.k (.raw (.int .i64 1))) (.t 78)), none⟩,
            ⟨(some 80), (.buildF 1 [(.int .i64 0)] [(0, 1, (.t 79))]), none⟩,
            ⟨(some 81), (.call f___vigil_revoke_Set__Revoke [(.t 62), (.t 70), (.t 80)]), none⟩]
            [[], [], [], [2, 1], [1, 2, 3], [3, 2, 1, 4], [4, 1, 2, 3, 5], [5, 3, 2, 1, 4, 6], [6, 4, 1, 2, 3, 5, 7], [], [], [10, 9], [9, 10, 11], [11, 10, 9, 12], [12, 9, 10, 11, 13], [13, 11, 10, 9, 12, 14], [14, 12, 9, 10, 11, 13, 15], [15, 13, 11, 10, 9, 12, 14, 16], [16, 14, 12, 9, 10, 11, 13, 15, 17], [17, 15, 13, 11, 10, 9, 12, 14, 16, 18, 7, 5, 3, 2, 1, 4, 6, 8, 0]]
            [.q 0, .q 1, .q 2, .q 3, .q 4, .q 5, .q 6, .q 7, .q 8, .q 9, .q 10, .q 11, .q 12, .q 13, .q 14, .q 15, .q 16, .q 17, .q 18, .eff 19])))))))
       (.seq
       (.ops [.op ⟨(some 141), (.mv (.t 4)), none⟩,
         .op ⟨(some 142), (.call f___vigil_fresh_Fresh__Since [(.t 141)]), none⟩,
         .op ⟨(some 140), (.mv (.t 142)), none⟩,
         .op ⟨(some 143), (.extract (.t 140) 0), none⟩,
         .op ⟨(some 144), (.extract (.t 140) 1), none⟩,
         .op ⟨(some 14), (.mv (.t 143)), none⟩,
         .op ⟨(some 15), (.mv (.t 144)), none⟩])
       (.seq
       (.ops [.op ⟨(some 16), (.mv (.k (.raw (.int .i64 0)))), none⟩])
       (.block 3
        (.loop
         (.seq
         (.seq
         (.ops [.op ⟨(some 145), (.mv (.t 15)), none⟩,
           .op ⟨(some 146), (.mv (.t 145)), none⟩,
           .split 146,
           .op ⟨(some 147), (.mv (.t 16)), (some (146, true))⟩,
           .op ⟨(some 148), (.mv (.t 7)), (some (146, true))⟩,
           .op ⟨(some 149), (.len (.t 148)), (some (146, true))⟩,
           .op ⟨(some 150), (.bin .lss (.t 147) (.t 149)), (some (146, true))⟩,
           .op ⟨(some 151), (.pick (.t 146) (.t 150) (.k (.raw (.bool false)))), none⟩])
         (.cond (.t 151)
          (.skip)
          (.exit 3)))
         (.seq
         (.block 4
          (.seq
          (.ops [.op ⟨(some 17), (.mv (.k (.raw (.int .i64 0)))), none⟩])
          (.block 5
           (.loop
            (.seq
            (.seq
            (.ops [.op ⟨(some 154), (.mv (.t 7)), none⟩,
              .op ⟨(some 155), (.mv (.t 16)), none⟩,
              .op ⟨(some 156), (.idxAddr 1 (.t 154) (.t 155)), none⟩,
              .op ⟨(some 157), (.load none (.t 156)), none⟩,
              .op ⟨(some 158), (.mv (.t 14)), none⟩,
              .op ⟨(some 159), (.bin .lss (.t 157) (.t 158)), none⟩,
              .op ⟨(some 160), (.mv (.t 159)), none⟩,
              .split 160,
              .op ⟨(some 161), (.mv (.t 17)), (some (160, true))⟩,
              .op ⟨(some 162), (.mv (.t 6)), (some (160, true))⟩,
              .op ⟨(some 163), (.mv (.t 16)), (some (160, true))⟩,
              .op ⟨(some 164), (.idxAddr 1 (.t 162) (.t 163)), (some (160, true))⟩,
              .op ⟨(some 165), (.load none (.t 164)), (some (160, true))⟩,
              .op ⟨(some 166), (.len (.t 165)), (some (160, true))⟩,
              .op ⟨(some 167), (.bin .lss (.t 161) (.t 166)), (some (160, true))⟩,
              .op ⟨(some 168), (.pick (.t 160) (.t 167) (.k (.raw (.bool false)))), none⟩])
            (.cond (.t 168)
             (.skip)
             (.exit 5)))
            (.seq
            (.block 6
             (.seq
             (.draw [⟨(some 171), (.mv (.t 4)), none⟩,
               ⟨(some 172), (.call f___vigil_fresh_Fresh__Set [(.t 171)]), none⟩,
               ⟨(some 173), (.mv (.t 6)), none⟩,
               ⟨(some 174), (.mv (.t 16)), none⟩,
               ⟨(some 175), (.idxAddr 1 (.t 173) (.t 174)), none⟩,
               ⟨(some 176), (.load none (.t 175)), none⟩,
               ⟨(some 177), (.mv (.t 17)), none⟩,
               ⟨(some 178), (.idxAddr 1 (.t 176) (.t 177)), none⟩,
               ⟨(some 179), (.load none (.t 178)), none⟩,
               ⟨(some 180), (.call f___vigil_revoke_Set__Has [(.t 172), (.t 179)]), none⟩,
               ⟨(some 181), (.un .not (.t 180)), none⟩]
               [[], [0], [], [], [3, 2], [2, 3, 4], [], [6, 4, 3, 2, 5], [5, 2, 3, 4, 6, 7], [7, 6, 4, 3, 2, 5, 8, 0, 1], [1, 0, 8, 5, 2, 3, 4, 6, 7, 9]]
               [.q 0, .q 2, .q 3, .q 4, .q 5, .q 6, .q 7, .q 8, .eff 1, .eff 9, .q 10])
             (.cond (.t 181)
              (.seq
              (.ops [.op ⟨(some 2), (.mv (.k (.raw (.bool false)))), none⟩])
              (.ret))
              (.skip))))
            (.ops [.op ⟨(some 169), (.mv (.t 17)), none⟩,
              .op ⟨(some 170), (.bin .add (.t 169) (.k (.raw (.int .i64 1)))), none⟩,
              .op ⟨(some 17), (.mv (.t 170)), none⟩])))))))
         (.ops [.op ⟨(some 152), (.mv (.t 16)), none⟩,
           .op ⟨(some 153), (.bin .add (.t 152) (.k (.raw (.int .i64 1)))), none⟩,
           .op ⟨(some 16), (.mv (.t 153)), none⟩])))))))))))
      (.ops [.op ⟨(some 34), (.mv (.t 9)), none⟩,
        .op ⟨(some 35), (.bin .add (.t 34) (.k (.raw (.int .i64 1)))), none⟩,
        .op ⟨(some 9), (.mv (.t 35)), none⟩]))))))
    (.seq
    (.ops [.op ⟨(some 182), (.call f_vigillaw17_known []), none⟩,
      .op ⟨(some 2), (.mv (.t 182)), none⟩])
    (.ret))))))))),
    [.tmp 2], 183⟩
theorem c_vigillaw17_FreshHolds : compFn Tryz.prog f_vigillaw17_FreshHolds = some x_vigillaw17_FreshHolds := by kernel_rfl

/- (*vigil/fresh.Fresh).Ask -/
def x___vigil_fresh_Fresh__Ask : XFn := ⟨
    .seq
    (.ops [.op ⟨(some 6), (.box (.t 2)), none⟩,
      .op ⟨(some 7), (.box (.t 3)), none⟩,
      .op ⟨(some 8), (.mv (.k (.raw (.slice none 0 0)))), none⟩,
      .op ⟨(some 9), (.mv (.k (.raw (.int .i64 0)))), none⟩])
    (.seq
    (.seq
    (.ops [.op ⟨(some 12), (.mv (.t 0)), none⟩,
      .op ⟨(some 13), (.mv (.t 1)), none⟩,
      .op ⟨(some 14), (.load none (.t 6)), none⟩,
      .op ⟨(some 15), (.call f___vigil_fresh_Fresh__check [(.t 12), (.t 13), (.t 14)]), none⟩,
      .op ⟨(some 10), (.mv (.t 15)), none⟩])
    (.seq
    (.ops [.op ⟨(some 16), (.mv (.t 10)), none⟩,
      .op ⟨(some 17), (.bin .neq (.t 16) (.k (.raw (.int .i64 0)))), none⟩])
    (.cond (.t 17)
     (.seq
     (.ops [.op ⟨(some 18), (.mv (.t 10)), none⟩,
       .op ⟨(some 8), (.mv (.k (.raw (.slice none 0 0)))), none⟩,
       .op ⟨(some 9), (.mv (.t 18)), none⟩])
     (.ret))
     (.skip))))
    (.seq
    (.ops [.op ⟨(some 19), (.mv (.t 0)), none⟩,
      .op ⟨(some 20), (.mv (.t 0)), none⟩,
      .op ⟨(some 21), (.nilCheck (.t 20)), none⟩,
      .op ⟨(some 22), (.fieldAddr 1 (.t 21)), none⟩,
      .op ⟨(some 23), (.load none (.t 22)), none⟩,
      .op ⟨(some 24), (.mkFunc (.func f___vigil_fresh_Fresh__Ask_1) [] [(.t 6)]), none⟩,
      .op ⟨(some 25), (.call f_slices_DeleteFunc___vigil_fresh_ask_vigil_fresh_ask_ [(.t 23), (.t 24)]), none⟩,
      .op ⟨(some 26), (.nilCheck (.t 19)), none⟩,
      .op ⟨(some 27), (.fieldAddr 1 (.t 26)), none⟩,
      .op ⟨none, (.store 1 (.t 27) (.t 25)), none⟩])
    (.seq
    (.block 0
     (.seq
     (.draw [⟨(some 29), (.mv (.t 0)), none⟩,
       ⟨(some 30), (.mv (.t 1)), none⟩,
       ⟨(some 31), (.load none (.t 6)), none⟩,
       ⟨(some 32), (.sliceArr 8 1 (.t 7) none none none), none⟩,
       ⟨(some 33), (.call f___vigil_fresh_Fresh__find [(.t 29), (.t 30), (.t 31), (.t 32)]), none⟩,
       ⟨(some 34), (.bin .geq (.t 33) (.k (.raw (.int .i64 0)))), none⟩,
       ⟨(some 28), (.mv (.t 34)), none⟩]
       [[], [], [], [], [3, 2, 1, 0], [0, 1, 2, 3, 4], [4, 3, 2, 1, 0, 5]]
       [.q 0, .q 1, .q 2, .q 3, .eff 4, .q 5, .q 6])
     (.cond (.t 28)
      (.seq
      (.ops [.op ⟨(some 8), (.mv (.k (.raw (.slice none 0 0)))), none⟩,
        .op ⟨(some 9), (.mv (.k (.raw (.int .i64 8)))), none⟩])
      (.ret))
      (.seq
      (.ops [.op ⟨(some 36), (.mv (.t 0)), none⟩,
        .op ⟨(some 37), (.nilCheck (.t 36)), none⟩,
        .op ⟨(some 38), (.fieldAddr 1 (.t 37)), none⟩,
        .op ⟨(some 39), (.load none (.t 38)), none⟩,
        .op ⟨(some 40), (.len (.t 39)), none⟩,
        .op ⟨(some 41), (.bin .geq (.t 40) (.k (.raw (.int .i64 8)))), none⟩,
        .op ⟨(some 35), (.mv (.t 41)), none⟩])
      (.cond (.t 35)
       (.seq
       (.ops [.op ⟨(some 8), (.mv (.k (.raw (.slice none 0 0)))), none⟩,
         .op ⟨(some 9), (.mv (.k (.raw (.int .i64 6)))), none⟩])
       (.ret))
       (.skip))))))
    (.seq
    (.draw [⟨(some 42), (.mv (.t 0)), none⟩,
      ⟨(some 43), (.mv (.t 0)), none⟩,
      ⟨(some 44), (.nilCheck (.t 43)), none⟩,
      ⟨(some 45), (.fieldAddr 1 (.t 44)), none⟩,
      ⟨(some 46), (.load none (.t 45)), none⟩,
      ⟨(some 47), (.mv (.t 1)), none⟩,
      ⟨(some 48), (.load none (.t 6)), none⟩,
      ⟨(some 49), (.load (some 8) (.t 7)), none⟩,
      ⟨(some 50), (.build [(.int .i64 0), (.int .i64 0), (.int .u8 0), (.int .u8 0), (.int .u8 0), (.int .u8 0), (.int .u8 0), (.int .u8 0), (.int .u8 0), (.int .u8 0)] [(0, 1, (.t 47)), (1, 1, (.t 48)), (2, 8, (.t 49))]), none⟩,
      ⟨(some 51), (.buildF 1 [(.int .i64 0), (.int .i64 0), (.int .u8 0), (.int .u8 0), (.int .u8 0), (.int .u8 0), (.int .u8 0), (.int .u8 0), (.int .u8 0), (.int .u8 0)] [(0, 10, (.t 50))]), none⟩,
      ⟨(some 52), (.append 10 24 (.t 46) (.t 51)), none⟩,
      ⟨(some 53), (.nilCheck (.t 42)), none⟩,
      ⟨(some 54), (.fieldAddr 1 (.t 53)), none⟩,
      ⟨none, (.store 1 (.t 54) (.t 52)), none⟩]
      [[], [], [1], [1, 2], [2, 1, 3], [], [], [], [7, 6, 5], [5, 6, 7, 8], [8, 7, 6, 5, 9, 3, 1, 2, 4], [10, 9, 8, 7, 6, 5, 4, 3, 2, 1, 0], [0, 1, 2, 3, 4, 5, 6, 7, 8, 9, 10, 11], [11, 10, 9, 8, 7, 6, 5, 4, 3, 2, 1, 0, 12]]
      [.q 0, .q 1, .q 2, .q 3, .q 4, .q 5, .q 6, .q 7, .q 8, .q 9, .eff 10, .q 11, .q 12, .eff 13])
    (.seq
    (.ops [.op ⟨(some 55), (.mv (.t 0)), none⟩,
      .op ⟨(some 56), (.nilCheck (.t 55)), none⟩,
      .op ⟨(some 57), (.fieldAddr 0 (.t 56)), none⟩,
      .op ⟨(some 58), (.load none (.t 57)), none⟩,
      .op ⟨(some 59), (.call f___vigil_revoke_Set__Versions [(.t 58)]), none⟩,
      .op ⟨(some 11), (.alloc [(.int .i64 0), (.int .i64 0), (.int .i64 0), (.int .i64 0)]), none⟩,
      .op ⟨none, (.store 4 (.t 11) (.t 59)), none⟩])
    (.seq
    (.draw [⟨(some 60), (.sliceArr 8 1 (.t 7) none none none), none⟩,
      ⟨(some 61), (.sliceArr 4 1 (.t 11) none none none), none⟩,
      ⟨(some 62), (.call f_vigil_fresh_numbers [(.t 61)]), none⟩,
      ⟨(some 63), (.buildF 2 [(.slice none 0 0), (.slice none 0 0)] [(0, 1, (.t 60)), (1, 1, (.t 62))]), none⟩,
      ⟨(some 64), (.call f_slices_Concat___byte_byte_ [(.t 63)]), none⟩,
      ⟨(some 8), (.mv (.t 64)), none⟩,
      ⟨(some 9), (.mv (.k (.raw (.int .i64 0)))), none⟩]
      [[], [], [1], [1, 2, 0], [0, 2, 1, 3], [3, 1, 2, 0, 4], [4, 0, 2, 1, 3, 5]]
      [.q 0, .q 1, .eff 2, .q 3, .eff 4, .q 5, .q 6])
    (.ret))))))),
    [.tmp 8, .tmp 9], 65⟩
theorem c___vigil_fresh_Fresh__Ask : compFn Tryz.prog f___vigil_fresh_Fresh__Ask = some x___vigil_fresh_Fresh__Ask := by kernel_rfl

/- (*vigil/fresh.Fresh).Take -/
def x___vigil_fresh_Fresh__Take : XFn := ⟨
    .seq
    (.ops [.op ⟨(some 8), (.mv (.k (.raw (.bool false)))), none⟩,
      .op ⟨(some 9), (.mv (.k (.raw (.int .i64 0)))), none⟩])
    (.seq
    (.seq
    (.ops [.op ⟨(some 18), (.mv (.t 0)), none⟩,
      .op ⟨(some 19), (.mv (.t 1)), none⟩,
      .op ⟨(some 20), (.mv (.t 2)), none⟩,
      .op ⟨(some 21), (.call f___vigil_fresh_Fresh__check [(.t 18), (.t 19), (.t 20)]), none⟩,
      .op ⟨(some 10), (.mv (.t 21)), none⟩])
    (.seq
    (.ops [.op ⟨(some 22), (.mv (.t 10)), none⟩,
      .op ⟨(some 23), (.bin .neq (.t 22) (.k (.raw (.int .i64 0)))), none⟩])
    (.cond (.t 23)
     (.seq
     (.ops [.op ⟨(some 24), (.mv (.t 10)), none⟩,
       .op ⟨(some 8), (.mv (.k (.raw (.bool false)))), none⟩,
       .op ⟨(some 9), (.mv (.t 24)), none⟩])
     (.ret))
     (.skip))))
    (.seq
    (.seq
    (.ops [.op ⟨(some 25), (.mv (.t 3)), none⟩,
      .op ⟨(some 26), (.len (.t 25)), none⟩,
      .op ⟨(some 27), (.bin .lss (.t 26) (.k (.raw (.int .i64 40)))), none⟩])
    (.cond (.t 27)
     (.seq
     (.ops [.op ⟨(some 8), (.mv (.k (.raw (.bool false)))), none⟩,
       .op ⟨(some 9), (.mv (.k (.raw (.int .i64 4)))), none⟩])
     (.ret))
     (.skip)))
    (.seq
    (.ops [.op ⟨(some 29), (.mv (.t 3)), none⟩,
      .op ⟨(some 30), (.slice 1 (.t 29) (some (.k (.raw (.int .i64 8)))) (some (.k (.raw (.int .i64 24)))) none), none⟩,
      .op ⟨(some 31), (.call f_vigil_wire_New [(.t 30)]), none⟩,
      .op ⟨(some 32), (.call f_vigil_delta_Read [(.t 31)]), none⟩,
      .op ⟨(some 28), (.mv (.t 32)), none⟩,
      .op ⟨(some 33), (.extract (.t 28) 0), none⟩,
      .op ⟨(some 34), (.extract (.t 28) 1), none⟩,
      .op ⟨(some 11), (.alloc [(.int .i64 0), (.int .i64 0), (.int .i64 0), (.int .i64 0), (.int .u8 0), (.int .u8 0), (.int .u8 0), (.int .u8 0), (.int .u8 0), (.int .u8 0), (.int .u8 0), (.int .u8 0)]), none⟩,
      .op ⟨none, (.store 12 (.t 11) (.t 33)), none⟩,
      .op ⟨(some 12), (.mv (.t 34)), none⟩])
    (.seq
    (.seq
    (.ops [.op ⟨(some 35), (.mv (.t 12)), none⟩,
      .op ⟨(some 36), (.bin .neq (.t 35) (.k (.raw (.int .i64 0)))), none⟩])
    (.cond (.t 36)
     (.seq
     (.ops [.op ⟨(some 37), (.mv (.t 12)), none⟩,
       .op ⟨(some 8), (.mv (.k (.raw (.bool false)))), none⟩,
       .op ⟨(some 9), (.mv (.t 37)), none⟩])
     (.ret))
     (.skip)))
    (.seq
    (.ops [.op ⟨(some 39), (.mv (.t 3)), none⟩,
      .op ⟨(some 40), (.slice 1 (.t 39) (some (.k (.raw (.int .i64 24)))) none none), none⟩,
      .op ⟨(some 41), (.call f_vigil_revoke_Parse [(.t 40)]), none⟩,
      .op ⟨(some 38), (.mv (.t 41)), none⟩,
      .op ⟨(some 42), (.extract (.t 38) 0), none⟩,
      .op ⟨(some 43), (.extract (.t 38) 1), none⟩,
      .op ⟨(some 13), (.alloc [(.int .i64 0), (.int .i64 0), (.int .i64 0), (.int .i64 0), (.slice none 0 0), (.slice none 0 0), (.slice none 0 0), (.slice none 0 0)]), none⟩,
      .op ⟨none, (.store 8 (.t 13) (.t 42)), none⟩,
      .op ⟨(some 12), (.mv (.t 43)), none⟩])
    (.seq
    (.seq
    (.ops [.op ⟨(some 44), (.mv (.t 12)), none⟩,
      .op ⟨(some 45), (.bin .neq (.t 44) (.k (.raw (.int .i64 0)))), none⟩])
    (.cond (.t 45)
     (.seq
     (.ops [.op ⟨(some 46), (.mv (.t 12)), none⟩,
       .op ⟨(some 8), (.mv (.k (.raw (.bool false)))), none⟩,
       .op ⟨(some 9), (.mv (.t 46)), none⟩])
     (.ret))
     (.skip)))
    (.seq
    (.ops [.op ⟨(some 47), (.mv (.t 0)), none⟩,
      .op ⟨(some 48), (.mv (.t 1)), none⟩,
      .op ⟨(some 49), (.mv (.t 2)), none⟩,
      .op ⟨(some 50), (.mv (.t 3)), none⟩,
      .op ⟨(some 51), (.slice 1 (.t 50) none (some (.k (.raw (.int .i64 8)))) none), none⟩,
      .op ⟨(some 52), (.call f___vigil_fresh_Fresh__find [(.t 47), (.t 48), (.t 49), (.t 51)]), none⟩,
      .op ⟨(some 14), (.mv (.t 52)), none⟩])
    (.seq
    (.seq
    (.ops [.op ⟨(some 53), (.mv (.t 14)), none⟩,
      .op ⟨(some 54), (.bin .lss (.t 53) (.k (.raw (.int .i64 0)))), none⟩])
    (.cond (.t 54)
     (.seq
     (.ops [.op ⟨(some 8), (.mv (.k (.raw (.bool false)))), none⟩,
       .op ⟨(some 9), (.mv (.k (.raw (.int .i64 7)))), none⟩])
     (.ret))
     (.skip)))
    (.seq
    (.seq
    (.draw [⟨(some 56), (.mv (.t 0)), none⟩,
      ⟨(some 57), (.nilCheck (.t 56)), none⟩,
      ⟨(some 58), (.fieldAddr 0 (.t 57)), none⟩,
      ⟨(some 59), (.load none (.t 58)), none⟩,
      ⟨(some 60), (.load (some 8) (.t 13)), none⟩,
      ⟨(some 61), (.call f___vigil_revoke_Set__Apply [(.t 59), (.t 60)]), none⟩,
      ⟨(some 55), (.mv (.t 61)), none⟩,
      ⟨(some 62), (.extract (.t 55) 0), none⟩,
      ⟨(some 63), (.extract (.t 55) 1), none⟩,
      ⟨(some 15), (.mv (.t 62)), none⟩,
      ⟨(some 16), (.mv (.t 63)), none⟩]
      [[], [0], [0, 1], [1, 0, 2], [], [4, 2, 0, 1, 3], [3, 1, 0, 2, 4, 5], [5, 4, 2, 0, 1, 3, 6], [5, 4, 2, 0, 1, 3, 6], [6, 3, 1, 0, 2, 4, 5, 7], [7, 9, 6, 3, 1, 0, 2, 4, 5, 8]]
      [.q 0, .q 1, .q 2, .q 3, .q 4, .eff 5, .q 6, .q 7, .q 8, .q 9, .q 10])
    (.seq
    (.ops [.op ⟨(some 64), (.mv (.t 16)), none⟩,
      .op ⟨(some 65), (.bin .neq (.t 64) (.k (.raw (.int .i64 0)))), none⟩])
    (.cond (.t 65)
     (.seq
     (.ops [.op ⟨(some 66), (.mv (.t 16)), none⟩,
       .op ⟨(some 8), (.mv (.k (.raw (.bool false)))), none⟩,
       .op ⟨(some 9), (.mv (.t 66)), none⟩])
     (.ret))
     (.skip))))
    (.seq
    (.ops [.op ⟨(some 67), (.mv (.t 0)), none⟩,
      .op ⟨(some 68), (.nilCheck (.t 67)), none⟩,
      .op ⟨(some 69), (.fieldAddr 1 (.t 68)), none⟩,
      .op ⟨(some 70), (.load none (.t 69)), none⟩,
      .op ⟨(some 71), (.mv (.t 14)), none⟩,
      .op ⟨(some 72), (.idxAddr 10 (.t 70) (.t 71)), none⟩,
      .op ⟨(some 73), (.fieldAddr 1 (.t 72)), none⟩,
      .op ⟨(some 74), (.load none (.t 73)), none⟩,
      .op ⟨(some 17), (.mv (.t 74)), none⟩])
    (.seq
    (.ops [.op ⟨(some 75), (.mv (.t 0)), none⟩,
      .op ⟨(some 76), (.mv (.t 0)), none⟩,
      .op ⟨(some 77), (.nilCheck (.t 76)), none⟩,
      .op ⟨(some 78), (.fieldAddr 1 (.t 77)), none⟩,
      .op ⟨(some 79), (.load none (.t 78)), none⟩,
      .op ⟨(some 80), (.mv (.t 14)), none⟩,
      .op ⟨(some 81), (.mv (.t 14)), none⟩,
      .op ⟨(some 82), (.bin .add (.t 81) (.k (.raw (.int .i64 1)))), none⟩,
      .op ⟨(some 83), (.call f_slices_Delete___vigil_fresh_ask_vigil_fresh_ask_ [(.t 79), (.t 80), (.t 82)]), none⟩,
      .op ⟨(some 84), (.nilCheck (.t 75)), none⟩,
      .op ⟨(some 85), (.fieldAddr 1 (.t 84)), none⟩,
      .op ⟨none, (.store 1 (.t 85) (.t 83)), none⟩])
    (.seq
    (.seq
    (.draw [⟨(some 86), (.mv (.t 0)), none⟩,
      ⟨(some 87), (.nilCheck (.t 86)), none⟩,
      ⟨(some 88), (.fieldAddr 0 (.t 87)), none⟩,
      ⟨(some 89), (.load none (.t 88)), none⟩,
      ⟨(some 90), (.call f___vigil_revoke_Set__Versions [(.t 89)]), none⟩,
      ⟨(some 91), (.fieldAddr 0 (.t 11)), none⟩,
      ⟨(some 92), (.load (some 4) (.t 91)), none⟩,
      ⟨(some 93), (.call f_vigil_revoke_Covers [(.t 90), (.t 92)]), none⟩,
      ⟨(some 94), (.un .not (.t 93)), none⟩]
      [[], [0], [0, 1], [1, 0, 2], [2, 0, 1, 3], [], [5], [5, 6, 3, 1, 0, 2, 4], [4, 2, 0, 1, 3, 6, 5, 7]]
      [.q 0, .q 1, .q 2, .q 3, .q 5, .q 6, .eff 4, .eff 7, .q 8])
    (.cond (.t 94)
     (.seq
     (.ops [.op ⟨(some 8), (.mv (.k (.raw (.bool false)))), none⟩,
       .op ⟨(some 9), (.mv (.k (.raw (.int .i64 0)))), none⟩])
     (.ret))
     (.skip)))
    (.seq
    (.ops [.op ⟨(some 95), (.mv (.t 0)), none⟩,
      .op ⟨(some 96), (.mv (.t 0)), none⟩,
      .op ⟨(some 97), (.mv (.t 0)), none⟩,
      .op ⟨(some 98), (.nilCheck (.t 97)), none⟩,
      .op ⟨(some 99), (.fieldAddr 2 (.t 98)), none⟩,
      .op ⟨(some 100), (.load none (.t 99)), none⟩,
      .op ⟨(some 101), (.mv (.t 17)), none⟩,
      .op ⟨(some 102), (.minMax true (.t 100) [(.t 101)]), none⟩,
      .op ⟨(some 103), (.nilCheck (.t 95)), none⟩,
      .op ⟨(some 104), (.fieldAddr 2 (.t 103)), none⟩,
      .op ⟨none, (.store 1 (.t 104) (.t 102)), none⟩,
      .op ⟨(some 105), (.nilCheck (.t 96)), none⟩,
      .op ⟨(some 106), (.fieldAddr 3 (.t 105)), none⟩,
      .op ⟨none, (.store 1 (.t 106) (.k (.raw (.bool true)))), none⟩])
    (.seq
    (.ops [.op ⟨(some 8), (.mv (.k (.raw (.bool true)))), none⟩,
      .op ⟨(some 9), (.mv (.k (.raw (.int .i64 0)))), none⟩])
    (.ret))))))))))))))),
    [.tmp 8, .tmp 9], 107⟩
theorem c___vigil_fresh_Fresh__Take : compFn Tryz.prog f___vigil_fresh_Fresh__Take = some x___vigil_fresh_Fresh__Take := by kernel_rfl

/- (*vigil/fresh.Fresh).Since -/
def x___vigil_fresh_Fresh__Since : XFn := ⟨
    .seq
    (.ops [.op ⟨(some 2), (.mv (.k (.raw (.int .i64 0)))), none⟩,
      .op ⟨(some 3), (.mv (.k (.raw (.bool false)))), none⟩])
    (.seq
    (.seq
    (.ops [.op ⟨(some 4), (.mv (.t 0)), none⟩,
      .op ⟨(some 5), (.eq .ptr false (.t 4) (.k (.raw (.pointer none)))), none⟩])
    (.cond (.t 5)
     (.seq
     (.ops [.op ⟨(some 2), (.mv (.k (.raw (.int .i64 0)))), none⟩,
       .op ⟨(some 3), (.mv (.k (.raw (.bool false)))), none⟩])
     (.ret))
     (.skip)))
    (.seq
    (.draw [⟨(some 6), (.mv (.t 0)), none⟩,
      ⟨(some 7), (.nilCheck (.t 6)), none⟩,
      ⟨(some 8), (.fieldAddr 2 (.t 7)), none⟩,
      ⟨(some 9), (.load none (.t 8)), none⟩,
      ⟨(some 10), (.mv (.t 0)), none⟩,
      ⟨(some 11), (.nilCheck (.t 10)), none⟩,
      ⟨(some 12), (.fieldAddr 3 (.t 11)), none⟩,
      ⟨(some 13), (.load none (.t 12)), none⟩,
      ⟨(some 2), (.mv (.t 9)), none⟩,
      ⟨(some 3), (.mv (.t 13)), none⟩]
      [[], [0], [0, 1], [1, 0, 2], [], [4], [4, 5], [5, 4, 6], [2, 0, 1, 3], [3, 1, 0, 2, 8, 6, 4, 5, 7]]
      [.q 0, .q 1, .q 2, .q 3, .q 4, .q 5, .q 6, .q 7, .q 8, .q 9])
    (.ret))),
    [.tmp 2, .tmp 3], 14⟩
theorem c___vigil_fresh_Fresh__Since : compFn Tryz.prog f___vigil_fresh_Fresh__Since = some x___vigil_fresh_Fresh__Since := by kernel_rfl

/- vigil/fresh.Attest -/
def x_vigil_fresh_Attest : XFn := ⟨
    .seq
    (.ops [.op ⟨(some 6), (.mv (.k (.raw (.slice none 0 0)))), none⟩,
      .op ⟨(some 7), (.mv (.k (.raw (.int .i64 0)))), none⟩])
    (.seq
    (.block 0
     (.seq
     (.ops [.op ⟨(some 16), (.mv (.t 0)), none⟩,
       .op ⟨(some 17), (.eq .ptr false (.t 16) (.k (.raw (.pointer none)))), none⟩,
       .op ⟨(some 15), (.mv (.t 17)), none⟩])
     (.cond (.t 15)
      (.seq
      (.ops [.op ⟨(some 6), (.mv (.k (.raw (.slice none 0 0)))), none⟩,
        .op ⟨(some 7), (.mv (.k (.raw (.int .i64 11)))), none⟩])
      (.ret))
      (.seq
      (.ops [.op ⟨(some 19), (.mv (.t 1)), none⟩,
        .op ⟨(some 20), (.len (.t 19)), none⟩,
        .op ⟨(some 21), (.bin .neq (.t 20) (.k (.raw (.int .i64 16)))), none⟩,
        .op ⟨(some 18), (.mv (.t 21)), none⟩])
      (.cond (.t 18)
       (.seq
       (.ops [.op ⟨(some 6), (.mv (.k (.raw (.slice none 0 0)))), none⟩,
         .op ⟨(some 7), (.mv (.k (.raw (.int .i64 3)))), none⟩])
       (.ret))
       (.skip))))))
    (.seq
    (.ops [.op ⟨(some 22), (.mv (.t 1)), none⟩,
      .op ⟨(some 23), (.slice 1 (.t 22) (some (.k (.raw (.int .i64 8)))) none none), none⟩,
      .op ⟨(some 24), (.call f_vigil_wire_New [(.t 23)]), none⟩,
      .op ⟨(some 8), (.mv (.t 24)), none⟩])
    (.seq
    (.ops [.op ⟨(some 9), (.alloc [(.int .i64 0), (.int .i64 0), (.int .i64 0), (.int .i64 0)]), none⟩])
    (.seq
    (.seq
    (.ops [.op ⟨(some 25), (.mv (.k (.raw (.int .i64 0)))), none⟩])
    (.block 1
     (.loop
      (.seq
      (.ops [.op ⟨(some 26), (.bin .lss (.t 25) (.k (.raw (.int .i64 4)))), none⟩])
      (.seq
      (.cond (.t 26)
       (.skip)
       (.exit 1))
      (.seq
      (.block 2
       (.seq
       (.ops [.op ⟨(some 27), (.mv (.t 25)), none⟩,
         .op ⟨(some 10), (.mv (.t 27)), none⟩])
       (.seq
       (.ops [.op ⟨(some 28), (.mv (.t 10)), none⟩,
         .op ⟨(some 29), (.mv (.t 8)), none⟩,
         .op ⟨(some 30), (.call f___vigil_wire_Reader__Number [(.t 29), (.k (.raw (.int .i64 1)))]), none⟩,
         .op ⟨(some 31), (.idxAddrArr 4 1 (.t 9) (.t 28)), none⟩,
         .op ⟨none, (.store 1 (.t 31) (.t 30)), none⟩])
       (.seq
       (.ops [.op ⟨(some 32), (.mv (.t 10)), none⟩,
         .op ⟨(some 33), (.idxAddrArr 4 1 (.t 9) (.t 32)), none⟩,
         .op ⟨(some 34), (.load none (.t 33)), none⟩,
         .op ⟨(some 35), (.bin .gtr (.t 34) (.k (.raw (.int .i64 256)))), none⟩])
       (.cond (.t 35)
        (.seq
        (.ops [.op ⟨(some 6), (.mv (.k (.raw (.slice none 0 0)))), none⟩,
          .op ⟨(some 7), (.mv (.k (.raw (.int .i64 3)))), none⟩])
        (.ret))
        (.skip))))))
      (.ops [.op ⟨(some 36), (.bin .add (.t 25) (.k (.raw (.int .i64 1)))), none⟩,
        .op ⟨(some 25), (.mv (.t 36)), none⟩])))))))
    (.seq
    (.ops [.op ⟨(some 38), (.mv (.t 0)), none⟩,
      .op ⟨(some 39), (.load (some 4) (.t 9)), none⟩,
      .op ⟨(some 40), (.mv (.t 2)), none⟩,
      .op ⟨(some 41), (.bin .sub (.t 40) (.k (.raw (.int .i64 8)))), none⟩,
      .op ⟨(some 42), (.bin .sub (.t 41) (.k (.raw (.int .i64 16)))), none⟩,
      .op ⟨(some 43), (.call f_vigil_delta_Answer [(.t 38), (.t 39), (.t 42)]), none⟩,
      .op ⟨(some 37), (.mv (.t 43)), none⟩,
      .op ⟨(some 44), (.extract (.t 37) 0), none⟩,
      .op ⟨(some 45), (.extract (.t 37) 1), none⟩,
      .op ⟨(some 11), (.alloc [(.int .i64 0), (.int .i64 0), (.int .i64 0), (.int .i64 0), (.slice none 0 0), (.slice none 0 0), (.slice none 0 0), (.slice none 0 0)]), none⟩,
      .op ⟨none, (.store 8 (.t 11) (.t 44)), none⟩,
      .op ⟨(some 12), (.mv (.t 45)), none⟩])
    (.seq
    (.seq
    (.ops [.op ⟨(some 46), (.mv (.t 12)), none⟩,
      .op ⟨(some 47), (.bin .neq (.t 46) (.k (.raw (.int .i64 0)))), none⟩])
    (.cond (.t 47)
     (.seq
     (.ops [.op ⟨(some 48), (.mv (.t 12)), none⟩,
       .op ⟨(some 6), (.mv (.k (.raw (.slice none 0 0)))), none⟩,
       .op ⟨(some 7), (.mv (.t 48)), none⟩])
     (.ret))
     (.skip)))
    (.seq
    (.ops [.op ⟨(some 50), (.mv (.t 0)), none⟩,
      .op ⟨(some 51), (.call f_vigil_delta_Of [(.t 50)]), none⟩,
      .op ⟨(some 52), (.call f_vigil_delta_Bytes [(.t 51)]), none⟩,
      .op ⟨(some 49), (.mv (.t 52)), none⟩,
      .op ⟨(some 53), (.extract (.t 49) 0), none⟩,
      .op ⟨(some 54), (.extract (.t 49) 1), none⟩,
      .op ⟨(some 13), (.mv (.t 53)), none⟩,
      .op ⟨(some 12), (.mv (.t 54)), none⟩])
    (.seq
    (.seq
    (.ops [.op ⟨(some 55), (.mv (.t 12)), none⟩,
      .op ⟨(some 56), (.bin .neq (.t 55) (.k (.raw (.int .i64 0)))), none⟩])
    (.cond (.t 56)
     (.seq
     (.ops [.op ⟨(some 57), (.mv (.t 12)), none⟩,
       .op ⟨(some 6), (.mv (.k (.raw (.slice none 0 0)))), none⟩,
       .op ⟨(some 7), (.mv (.t 57)), none⟩])
     (.ret))
     (.skip)))
    (.seq
    (.ops [.op ⟨(some 59), (.load (some 8) (.t 11)), none⟩,
      .op ⟨(some 60), (.call f_vigil_revoke_Bytes [(.t 59)]), none⟩,
      .op ⟨(some 58), (.mv (.t 60)), none⟩,
      .op ⟨(some 61), (.extract (.t 58) 0), none⟩,
      .op ⟨(some 62), (.extract (.t 58) 1), none⟩,
      .op ⟨(some 14), (.mv (.t 61)), none⟩,
      .op ⟨(some 12), (.mv (.t 62)), none⟩])
    (.seq
    (.seq
    (.ops [.op ⟨(some 63), (.mv (.t 12)), none⟩,
      .op ⟨(some 64), (.bin .neq (.t 63) (.k (.raw (.int .i64 0)))), none⟩])
    (.cond (.t 64)
     (.seq
     (.ops [.op ⟨(some 65), (.mv (.t 12)), none⟩,
       .op ⟨(some 6), (.mv (.k (.raw (.slice none 0 0)))), none⟩,
       .op ⟨(some 7), (.mv (.t 65)), none⟩])
     (.ret))
     (.skip)))
    (.seq
    (.ops [.op ⟨(some 66), (.mv (.t 1)), none⟩,
      .op ⟨(some 67), (.slice 1 (.t 66) none (some (.k (.raw (.int .i64 8)))) (some (.k (.raw (.int .i64 8))))), none⟩,
      .op ⟨(some 68), (.mv (.t 13)), none⟩,
      .op ⟨(some 69), (.mv (.t 14)), none⟩,
      .op ⟨(some 70), (.buildF 3 [(.slice none 0 0), (.slice none 0 0), (.slice none 0 0)] [(0, 1, (.t 67)), (1, 1, (.t 68)), (2, 1, (.t 69))]), none⟩,
      .op ⟨(some 71), (.call f_slices_Concat___byte_byte_ [(.t 70)]), none⟩,
      .op ⟨(some 6), (.mv (.t 71)), none⟩,
      .op ⟨(some 7), (.mv (.k (.raw (.int .i64 0)))), none⟩])
    (.ret)))))))))))),
    [.tmp 6, .tmp 7], 72⟩
theorem c_vigil_fresh_Attest : compFn Tryz.prog f_vigil_fresh_Attest = some x_vigil_fresh_Attest := by kernel_rfl

/- vigil/vigillaw17.known -/
def x_vigillaw17_known : XFn := ⟨
    .seq
    (.ops [.op ⟨(some 0), (.mv (.k (.raw (.bool false)))), none⟩])
    (.seq
    (.ops [.op ⟨(some 9), (.call f_vigil_fresh_New [(.k (.raw (.pointer none)))]), none⟩,
      .op ⟨(some 1), (.mv (.t 9)), none⟩])
    (.seq
    (.ops [.op ⟨(some 10), (.call f_vigil_revoke_New []), none⟩,
      .op ⟨(some 2), (.mv (.t 10)), none⟩])
    (.seq
    (.ops [.op ⟨(some 12), (.mv (.t 1)), none⟩,
      .op ⟨(some 13), (.build [(.int .u8 0), (.int .u8 0), (.int .u8 0), (.int .u8 0), (.int .u8 0), (.int .u8 0), (.int .u8 0), (.int .u8 0)] [(0, 1, (.k (.raw (.int .u8 7))))]), none⟩,
      .op ⟨(some 14), (.call f___vigil_fresh_Fresh__Ask [(.t 12), (.k (.raw (.int .i64 1))), (.k (.raw (.int .i64 5))), (.t 13)]), none⟩,
      .op ⟨(some 11), (.mv (.t 14)), none⟩,
      .op ⟨(some 15), (.extract (.t 11) 0), none⟩,
      .op ⟨(some 16), (.extract (.t 11) 1), none⟩,
      .op ⟨(some 3), (.mv (.t 15)), none⟩,
      .op ⟨(some 4), (.mv (.t 16)), none⟩])
    (.seq
    (.ops [.op ⟨(some 18), (.mv (.t 2)), none⟩,
      .op ⟨(some 19), (.mv (.t 3)), none⟩,
      .op ⟨(some 20), (.call f_vigil_fresh_Attest [(.t 18), (.t 19), (.k (.raw (.int .i64 100)))]), none⟩,
      .op ⟨(some 17), (.mv (.t 20)), none⟩,
      .op ⟨(some 21), (.extract (.t 17) 0), none⟩,
      .op ⟨(some 22), (.extract (.t 17) 1), none⟩,
      .op ⟨(some 5), (.mv (.t 21)), none⟩,
      .op ⟨(some 6), (.mv (.t 22)), none⟩])
    (.seq
    (.ops [.op ⟨(some 24), (.mv (.t 1)), none⟩,
      .op ⟨(some 25), (.mv (.t 5)), none⟩,
      .op ⟨(some 26), (.call f___vigil_fresh_Fresh__Take [(.t 24), (.k (.raw (.int .i64 1))), (.k (.raw (.int .i64 9))), (.t 25)]), none⟩,
      .op ⟨(some 23), (.mv (.t 26)), none⟩,
      .op ⟨(some 27), (.extract (.t 23) 0), none⟩,
      .op ⟨(some 28), (.extract (.t 23) 1), none⟩,
      .op ⟨(some 7), (.mv (.t 27)), none⟩,
      .op ⟨(some 8), (.mv (.t 28)), none⟩])
    (.seq
    (.ops [.op ⟨(some 29), (.mv (.t 4)), none⟩,
      .op ⟨(some 30), (.bin .eql (.t 29) (.k (.raw (.int .i64 0)))), none⟩,
      .op ⟨(some 31), (.mv (.t 30)), none⟩,
      .split 31,
      .op ⟨(some 32), (.mv (.t 6)), (some (31, true))⟩,
      .op ⟨(some 33), (.bin .eql (.t 32) (.k (.raw (.int .i64 0)))), (some (31, true))⟩,
      .op ⟨(some 34), (.pick (.t 31) (.t 33) (.k (.raw (.bool false)))), none⟩,
      .op ⟨(some 35), (.mv (.t 34)), none⟩,
      .split 35,
      .op ⟨(some 36), (.mv (.t 8)), (some (35, true))⟩,
      .op ⟨(some 37), (.bin .eql (.t 36) (.k (.raw (.int .i64 0)))), (some (35, true))⟩,
      .op ⟨(some 38), (.pick (.t 35) (.t 37) (.k (.raw (.bool false)))), none⟩,
      .op ⟨(some 39), (.mv (.t 38)), none⟩,
      .split 39,
      .op ⟨(some 40), (.mv (.t 7)), (some (39, true))⟩,
      .op ⟨(some 41), (.pick (.t 39) (.t 40) (.k (.raw (.bool false)))), none⟩,
      .op ⟨(some 42), (.mv (.t 41)), none⟩,
      .split 42,
      .op ⟨(some 43), (.mv (.t 1)), (some (42, true))⟩,
      .op ⟨(some 44), (.call f___vigil_fresh_Fresh__Is [(.t 43), (.k (.raw (.int .i64 30))), (.k (.raw (.int .i64 25)))]), (some (42, true))⟩,
      .op ⟨(some 45), (.pick (.t 42) (.t 44) (.k (.raw (.bool false)))), none⟩,
      .op ⟨(some 46), (.mv (.t 45)), none⟩,
      .split 46,
      .op ⟨(some 47), (.mv (.t 1)), (some (46, true))⟩,
      .op ⟨(some 48), (.call f___vigil_fresh_Fresh__Is [(.t 47), (.k (.raw (.int .i64 30))), (.k (.raw (.int .i64 24)))]), (some (46, true))⟩,
      .op ⟨(some 49), (.un .not (.t 48)), (some (46, true))⟩,
      .op ⟨(some 50), (.pick (.t 46) (.t 49) (.k (.raw (.bool false)))), none⟩,
      .op ⟨(some 0), (.mv (.t 50)), none⟩])
    (.ret))))))),
    [.tmp 0], 51⟩
theorem c_vigillaw17_known : compFn Tryz.prog f_vigillaw17_known = some x_vigillaw17_known := by kernel_rfl

/- (*vigil/fresh.Fresh).Is -/
def x___vigil_fresh_Fresh__Is : XFn := ⟨
    .seq
    (.ops [.op ⟨(some 6), (.mv (.k (.raw (.bool false)))), none⟩])
    (.seq
    (.ops [.op ⟨(some 10), (.mv (.t 0)), none⟩,
      .op ⟨(some 11), (.call f___vigil_fresh_Fresh__Since [(.t 10)]), none⟩,
      .op ⟨(some 9), (.mv (.t 11)), none⟩,
      .op ⟨(some 12), (.extract (.t 9) 0), none⟩,
      .op ⟨(some 13), (.extract (.t 9) 1), none⟩,
      .op ⟨(some 7), (.mv (.t 12)), none⟩,
      .op ⟨(some 8), (.mv (.t 13)), none⟩])
    (.seq
    (.ops [.op ⟨(some 14), (.mv (.t 8)), none⟩,
      .op ⟨(some 15), (.mv (.t 14)), none⟩,
      .split 15,
      .op ⟨(some 16), (.mv (.t 2)), (some (15, true))⟩,
      .op ⟨(some 17), (.bin .geq (.t 16) (.k (.raw (.int .i64 0)))), (some (15, true))⟩,
      .op ⟨(some 18), (.pick (.t 15) (.t 17) (.k (.raw (.bool false)))), none⟩,
      .op ⟨(some 19), (.mv (.t 18)), none⟩,
      .split 19,
      .op ⟨(some 20), (.mv (.t 7)), (some (19, true))⟩,
      .op ⟨(some 21), (.mv (.t 1)), (some (19, true))⟩,
      .op ⟨(some 22), (.mv (.t 2)), (some (19, true))⟩,
      .op ⟨(some 23), (.bin .sub (.t 21) (.t 22)), (some (19, true))⟩,
      .op ⟨(some 24), (.bin .geq (.t 20) (.t 23)), (some (19, true))⟩,
      .op ⟨(some 25), (.pick (.t 19) (.t 24) (.k (.raw (.bool false)))), none⟩,
      .op ⟨(some 6), (.mv (.t 25)), none⟩])
    (.ret))),
    [.tmp 6], 26⟩
theorem c___vigil_fresh_Fresh__Is : compFn Tryz.prog f___vigil_fresh_Fresh__Is = some x___vigil_fresh_Fresh__Is := by kernel_rfl

/- (*vigil/fresh.Fresh).Set -/
def x___vigil_fresh_Fresh__Set : XFn := ⟨
    .seq
    (.ops [.op ⟨(some 2), (.mv (.k (.raw (.pointer none)))), none⟩])
    (.seq
    (.seq
    (.ops [.op ⟨(some 3), (.mv (.t 0)), none⟩,
      .op ⟨(some 4), (.eq .ptr false (.t 3) (.k (.raw (.pointer none)))), none⟩])
    (.cond (.t 4)
     (.seq
     (.ops [.op ⟨(some 2), (.mv (.k (.raw (.pointer none)))), none⟩])
     (.ret))
     (.skip)))
    (.seq
    (.ops [.op ⟨(some 5), (.mv (.t 0)), none⟩,
      .op ⟨(some 6), (.nilCheck (.t 5)), none⟩,
      .op ⟨(some 7), (.fieldAddr 0 (.t 6)), none⟩,
      .op ⟨(some 8), (.load none (.t 7)), none⟩,
      .op ⟨(some 9), (.call f___vigil_revoke_Set__Copy [(.t 8)]), none⟩,
      .op ⟨(some 2), (.mv (.t 9)), none⟩])
    (.ret))),
    [.tmp 2], 10⟩
theorem c___vigil_fresh_Fresh__Set : compFn Tryz.prog f___vigil_fresh_Fresh__Set = some x___vigil_fresh_Fresh__Set := by kernel_rfl

/- (*vigil/fresh.Fresh).Open -/
def x___vigil_fresh_Fresh__Open : XFn := ⟨
    .seq
    (.ops [.op ⟨(some 4), (.mv (.k (.raw (.int .i64 0)))), none⟩])
    (.seq
    (.seq
    (.ops [.op ⟨(some 8), (.mv (.t 0)), none⟩,
      .op ⟨(some 9), (.eq .ptr false (.t 8) (.k (.raw (.pointer none)))), none⟩])
    (.cond (.t 9)
     (.seq
     (.ops [.op ⟨(some 4), (.mv (.k (.raw (.int .i64 0)))), none⟩])
     (.ret))
     (.skip)))
    (.seq
    (.ops [.op ⟨(some 5), (.mv (.k (.raw (.int .i64 0)))), none⟩])
    (.seq
    (.seq
    (.ops [.op ⟨(some 10), (.mv (.t 0)), none⟩,
      .op ⟨(some 11), (.nilCheck (.t 10)), none⟩,
      .op ⟨(some 12), (.fieldAddr 1 (.t 11)), none⟩,
      .op ⟨(some 13), (.load none (.t 12)), none⟩,
      .op ⟨(some 14), (.len (.t 13)), none⟩,
      .op ⟨(some 15), (.mv (.k (.raw (.int .i64 0)))), none⟩])
    (.block 0
     (.loop
      (.seq
      (.ops [.op ⟨(some 16), (.bin .lss (.t 15) (.t 14)), none⟩])
      (.seq
      (.cond (.t 16)
       (.skip)
       (.exit 0))
      (.seq
      (.block 1
       (.seq
       (.ops [.op ⟨(some 17), (.idxAddr 10 (.t 13) (.t 15)), none⟩,
         .op ⟨(some 18), (.load (some 10) (.t 17)), none⟩,
         .op ⟨(some 7), (.alloc [(.int .i64 0), (.int .i64 0), (.int .u8 0), (.int .u8 0), (.int .u8 0), (.int .u8 0), (.int .u8 0), (.int .u8 0), (.int .u8 0), (.int .u8 0)]), none⟩,
         .op ⟨none, (.store 10 (.t 7) (.t 18)), none⟩])
       (.seq
       (.ops [.op ⟨(some 19), (.load (some 10) (.t 7)), none⟩,
         .op ⟨(some 20), (.mv (.t 1)), none⟩,
         .op ⟨(some 21), (.call f__vigil_fresh_ask__open [(.t 19), (.t 20)]), none⟩])
       (.cond (.t 21)
        (.ops [.op ⟨(some 22), (.mv (.t 5)), none⟩,
          .op ⟨(some 23), (.bin .add (.t 22) (.k (.raw (.int .i64 1)))), none⟩,
          .op ⟨(some 5), (.mv (.t 23)), none⟩])
        (.skip)))))
      (.ops [.op ⟨(some 24), (.bin .add (.t 15) (.k (.raw (.int .i64 1)))), none⟩,
        .op ⟨(some 15), (.mv (.t 24)), none⟩])))))))
    (.seq
    (.ops [.op ⟨(some 25), (.mv (.t 5)), none⟩,
      .op ⟨(some 4), (.mv (.t 25)), none⟩])
    (.ret))))),
    [.tmp 4], 26⟩
theorem c___vigil_fresh_Fresh__Open : compFn Tryz.prog f___vigil_fresh_Fresh__Open = some x___vigil_fresh_Fresh__Open := by kernel_rfl

/- vigil/vigillaw09.Make -/
def x_vigillaw09_Make : XFn := ⟨
    .seq
    (.ops [.op ⟨(some 1), (.box (.t 0)), none⟩,
      .op ⟨(some 2), (.mv (.k (.raw (.pointer none)))), none⟩,
      .op ⟨(some 3), (.mv (.k (.raw (.pointer none)))), none⟩])
    (.seq
    (.ops [.op ⟨(some 8), (.call f_vigil_revoke_New []), none⟩,
      .op ⟨(some 4), (.mv (.t 8)), none⟩])
    (.seq
    (.ops [.op ⟨(some 9), (.build [(.slice none 0 0), (.slice none 0 0), (.slice none 0 0), (.slice none 0 0)] []), none⟩,
      .op ⟨(some 10), (.box (.t 9)), none⟩,
      .op ⟨(some 5), (.mv (.t 10)), none⟩])
    (.seq
    (.seq
    (.ops [.op ⟨(some 6), (.mv (.k (.raw (.int .i64 0)))), none⟩])
    (.block 0
     (.loop
      (.seq
      (.seq
      (.ops [.op ⟨(some 11), (.mv (.t 6)), none⟩,
        .op ⟨(some 12), (.bin .lss (.t 11) (.k (.raw (.int .i64 4)))), none⟩])
      (.cond (.t 12)
       (.skip)
       (.exit 0)))
      (.seq
      (.block 1
       (.seq
       (.draw [⟨(some 15), (.buildF 0 [] []), none⟩,
         ⟨(some 16), (.mv (.t 6)), none⟩,
         ⟨(some 17), (.idxAddrArr 4 1 (.t 1) (.t 16)), none⟩,
         ⟨(some 18), (.load none (.t 17)), none⟩,
         ⟨(some 19), (.mv (.t 6)), none⟩,
         ⟨(some 20), (.idxAddrArr 4 1 (.t 1) (.t 19)), none⟩,
         ⟨(some 21), (.load none (.t 20)), none⟩,
         ⟨(some 22), (.len (.t 21)), none⟩,
         ⟨(some 23), (.minMax false (.t 22) [(.k (.raw (.int .i64 40)))]), none⟩,
         ⟨(some 24), (.slice 1 (.t 18) none (some (.t 23)) none), none⟩,
         ⟨(some 25), (.append 1 8 (.t 15) (.t 24)), none⟩,
         ⟨(some 7), (.mv (.t 25)), none⟩]
         [[], [], [1], [1, 2], [], [4], [4, 5], [5, 4, 6], [6, 4, 5, 7], [7, 5, 4, 6, 8, 2, 1, 3], [3, 1, 2, 8, 6, 4, 5, 7, 9, 0], [0, 9, 7, 5, 4, 6, 8, 2, 1, 3, 10]]
         [.q 0, .q 1, .q 2, .q 3, .q 4, .q 5, .q 6, .q 7, .q 8, .q 9, .eff 10, .q 11])
       (.seq
       (.ops [.op ⟨(some 26), (.mv (.t 5)), none⟩,
         .op ⟨(some 27), (.mv (.t 6)), none⟩,
         .op ⟨(some 28), (.mv (.t 7)), none⟩,
         .op ⟨(some 29), (.call f_vigilref08_Set__Revoke [(.t 26), (.t 27), (.t 28)]), none⟩,
         .op ⟨(some 30), (.bin .eql (.t 29) (.k (.raw (.int .i64 0)))), none⟩])
       (.cond (.t 30)
        (.ops [.op ⟨(some 31), (.mv (.t 4)), none⟩,
          .op ⟨(some 32), (.mv (.t 6)), none⟩,
          .op ⟨(some 33), (.mv (.t 7)), none⟩,
          .op ⟨(some 34), (.call f___vigil_revoke_Set__Revoke [(.t 31), (.t 32), (.t 33)]), none⟩])
        (.skip)))))
      (.ops [.op ⟨(some 13), (.mv (.t 6)), none⟩,
        .op ⟨(some 14), (.bin .add (.t 13) (.k (.raw (.int .i64 1)))), none⟩,
        .op ⟨(some 6), (.mv (.t 14)), none⟩]))))))
    (.seq
    (.ops [.op ⟨(some 35), (.mv (.t 4)), none⟩,
      .op ⟨(some 36), (.mv (.t 5)), none⟩,
      .op ⟨(some 2), (.mv (.t 35)), none⟩,
      .op ⟨(some 3), (.mv (.t 36)), none⟩])
    (.ret))))),
    [.tmp 2, .tmp 3], 37⟩
theorem c_vigillaw09_Make : compFn Tryz.prog f_vigillaw09_Make = some x_vigillaw09_Make := by kernel_rfl

/- vigil/fresh.New -/
def x_vigil_fresh_New : XFn := ⟨
    .seq
    (.ops [.op ⟨(some 2), (.mv (.k (.raw (.pointer none)))), none⟩])
    (.seq
    (.seq
    (.ops [.op ⟨(some 3), (.mv (.t 0)), none⟩,
      .op ⟨(some 4), (.eq .ptr false (.t 3) (.k (.raw (.pointer none)))), none⟩])
    (.cond (.t 4)
     (.ops [.op ⟨(some 5), (.call f_vigil_revoke_New []), none⟩,
       .op ⟨(some 0), (.mv (.t 5)), none⟩])
     (.skip)))
    (.seq
    (.ops [.op ⟨(some 6), (.mv (.t 0)), none⟩,
      .op ⟨(some 7), (.call f___vigil_revoke_Set__Copy [(.t 6)]), none⟩,
      .op ⟨(some 8), (.build [(.pointer none), (.slice none 0 0), (.int .i64 0), (.bool false)] [(0, 1, (.t 7))]), none⟩,
      .op ⟨(some 9), (.box (.t 8)), none⟩,
      .op ⟨(some 2), (.mv (.t 9)), none⟩])
    (.ret))),
    [.tmp 2], 10⟩
theorem c_vigil_fresh_New : compFn Tryz.prog f_vigil_fresh_New = some x_vigil_fresh_New := by kernel_rfl

/- vigil/vigilref01.Make -/
def x_vigilref01_Make : XFn := ⟨
    .seq
    (.ops [.op ⟨(some 0), (.alloc [(.int .u32 0), (.int .u32 0), (.int .u32 0), (.int .u32 0), (.int .u32 0), (.int .u32 0), (.int .u32 0), (.int .u32 0), (.int .u32 0), (.int .u32 0), (.int .u32 0), (.int .u32 0), (.int .u32 0), (.int .u32 0), (.int .u32 0), (.int .u32 0), (.int .u32 0), (.int .u32 0), (.int .u32 0), (.int .u32 0), (.int .u32 0), (.int .u32 0), (.int .u32 0), (.int .u32 0), (.int .u32 0), (.int .u32 0), (.int .u32 0), (.int .u32 0), (.int .u32 0), (.int .u32 0), (.int .u32 0), (.int .u32 0), (.int .u32 0), (.int .u32 0), (.int .u32 0), (.int .u32 0), (.int .u32 0), (.int .u32 0), (.int .u32 0), (.int .u32 0), (.int .u32 0), (.int .u32 0), (.int .u32 0), (.int .u32 0), (.int .u32 0), (.int .u32 0), (.int .u32 0), (.int .u32 0), (.int .u32 0), (.int .u32 0), (.int .u32 0), (.int .u32 0), (.int .u32 0), (.int .u32 0), (.int .u32 0), (.int .u32 0), (.int .u32 0), (.int .u32 0), (.int .u32 0), (.int .u32 0), (.int .u32 0), (.int .u32 0), (.int .u32 0), (.int .u32 0), (.int .u32 0), (.int .u32 0), (.int .u32 0), (.int .u32 0), (.int .u32 0), (.int .u32 0), (.int .u32 0), (.int .u32 0)]), none⟩])
    (.seq
    (.ops [.op ⟨(some 6), (.build [(.int .u32 0), (.int .u32 0), (.int .u32 0), (.int .u32 0), (.int .u32 0), (.int .u32 0), (.int .u32 0), (.int .u32 0), (.int .u32 0), (.int .u32 0), (.int .u32 0), (.int .u32 0), (.int .u32 0), (.int .u32 0), (.int .u32 0), (.int .u32 0), (.int .u32 0), (.int .u32 0), (.int .u32 0), (.int .u32 0), (.int .u32 0), (.int .u32 0), (.int .u32 0), (.int .u32 0), (.int .u32 0), (.int .u32 0), (.int .u32 0), (.int .u32 0), (.int .u32 0), (.int .u32 0), (.int .u32 0), (.int .u32 0), (.int .u32 0), (.int .u32 0), (.int .u32 0), (.int .u32 0), (.int .u32 0), (.int .u32 0), (.int .u32 0), (.int .u32 0), (.int .u32 0), (.int .u32 0), (.int .u32 0), (.int .u32 0), (.int .u32 0), (.int .u32 0), (.int .u32 0), (.int .u32 0), (.int .u32 0), (.int .u32 0), (.int .u32 0), (.int .u32 0), (.int .u32 0), (.int .u32 0), (.int .u32 0), (.int .u32 0), (.int .u32 0), (.int .u32 0), (.int .u32 0), (.int .u32 0), (.int .u32 0), (.int .u32 0), (.int .u32 0), (.int .u32 0), (.int .u32 0), (.int .u32 0), (.int .u32 0), (.int .u32 0), (.int .u32 0), (.int .u32 0), (.int .u32 0), (.int .u32 0)] []), none⟩,
      .op ⟨(some 1), (.alloc [(.int .u32 0), (.int .u32 0), (.int .u32 0), (.int .u32 0), (.int .u32 0), (.int .u32 0), (.int .u32 0), (.int .u32 0), (.int .u32 0), (.int .u32 0), (.int .u32 0), (.int .u32 0), (.int .u32 0), (.int .u32 0), (.int .u32 0), (.int .u32 0), (.int .u32 0), (.int .u32 0), (.int .u32 0), (.int .u32 0), (.int .u32 0), (.int .u32 0), (.int .u32 0), (.int .u32 0), (.int .u32 0), (.int .u32 0), (.int .u32 0), (.int .u32 0), (.int .u32 0), (.int .u32 0), (.int .u32 0), (.int .u32 0), (.int .u32 0), (.int .u32 0), (.int .u32 0), (.int .u32 0), (.int .u32 0), (.int .u32 0), (.int .u32 0), (.int .u32 0), (.int .u32 0), (.int .u32 0), (.int .u32 0), (.int .u32 0), (.int .u32 0), (.int .u32 0), (.int .u32 0), (.int .u32 0), (.int .u32 0), (.int .u32 0), (.int .u32 0), (.int .u32 0), (.int .u32 0), (.int .u32 0), (.int .u32 0), (.int .u32 0), (.int .u32 0), (.int .u32 0), (.int .u32 0), (.int .u32 0), (.int .u32 0), (.int .u32 0), (.int .u32 0), (.int .u32 0), (.int .u32 0), (.int .u32 0), (.int .u32 0), (.int .u32 0), (.int .u32 0), (.int .u32 0), (.int .u32 0), (.int .u32 0)]), none⟩,
      .op ⟨none, (.store 72 (.t 1) (.t 6)), none⟩])
    (.seq
    (.ops [.op ⟨(some 2), (.mv (.k (.raw (.int .i64 0)))), none⟩])
    (.seq
    (.seq
    (.ops [.op ⟨(some 3), (.mv (.k (.raw (.int .u64 2)))), none⟩])
    (.block 0
     (.loop
      (.seq
      (.seq
      (.ops [.op ⟨(some 7), (.mv (.t 2)), none⟩,
        .op ⟨(some 8), (.bin .lss (.t 7) (.k (.raw (.int .i64 64)))), none⟩])
      (.cond (.t 8)
       (.skip)
       (.exit 0)))
      (.seq
      (.block 1
       (.seq
       (.ops [.op ⟨(some 4), (.mv (.k (.raw (.bool true)))), none⟩])
       (.seq
       (.seq
       (.ops [.op ⟨(some 5), (.mv (.k (.raw (.int .u64 2)))), none⟩])
       (.block 2
        (.loop
         (.seq
         (.seq
         (.ops [.op ⟨(some 11), (.mv (.t 5)), none⟩,
           .op ⟨(some 12), (.mv (.t 5)), none⟩,
           .op ⟨(some 13), (.bin .mul (.t 11) (.t 12)), none⟩,
           .op ⟨(some 14), (.mv (.t 3)), none⟩,
           .op ⟨(some 15), (.bin .leq (.t 13) (.t 14)), none⟩])
         (.cond (.t 15)
          (.skip)
          (.exit 2)))
         (.seq
         (.block 3
          (.ops [.op ⟨(some 18), (.mv (.t 4)), none⟩,
            .op ⟨(some 19), (.mv (.t 18)), none⟩,
            .split 19,
            .op ⟨(some 20), (.mv (.t 3)), (some (19, true))⟩,
            .op ⟨(some 21), (.mv (.t 5)), (some (19, true))⟩,
            .op ⟨(some 22), (.bin .rem (.t 20) (.t 21)), (some (19, true))⟩,
            .op ⟨(some 23), (.bin .neq (.t 22) (.k (.raw (.int .u64 0)))), (some (19, true))⟩,
            .op ⟨(some 24), (.pick (.t 19) (.t 23) (.k (.raw (.bool false)))), none⟩,
            .op ⟨(some 4), (.mv (.t 24)), none⟩]))
         (.ops [.op ⟨(some 16), (.mv (.t 5)), none⟩,
           .op ⟨(some 17), (.bin .add (.t 16) (.k (.raw (.int .u64 1)))), none⟩,
           .op ⟨(some 5), (.mv (.t 17)), none⟩]))))))
       (.seq
       (.seq
       (.ops [.op ⟨(some 25), (.mv (.t 4)), none⟩,
         .op ⟨(some 26), (.un .not (.t 25)), none⟩])
       (.cond (.t 26)
        (.exit 1)
        (.skip)))
       (.seq
       (.ops [.op ⟨(some 27), (.mv (.t 2)), none⟩,
         .op ⟨(some 28), (.mv (.t 3)), none⟩,
         .op ⟨(some 29), (.call f_vigilref01_root [(.t 28), (.k (.raw (.int .u64 3)))]), none⟩,
         .op ⟨(some 30), (.fieldAddr 0 (.t 1)), none⟩,
         .op ⟨(some 31), (.idxAddrArr 64 1 (.t 30) (.t 27)), none⟩,
         .op ⟨none, (.store 1 (.t 31) (.t 29)), none⟩])
       (.seq
       (.seq
       (.ops [.op ⟨(some 32), (.mv (.t 2)), none⟩,
         .op ⟨(some 33), (.bin .lss (.t 32) (.k (.raw (.int .i64 8)))), none⟩])
       (.cond (.t 33)
        (.ops [.op ⟨(some 34), (.mv (.t 2)), none⟩,
          .op ⟨(some 35), (.mv (.t 3)), none⟩,
          .op ⟨(some 36), (.call f_vigilref01_root [(.t 35), (.k (.raw (.int .u64 2)))]), none⟩,
          .op ⟨(some 37), (.fieldAddr 64 (.t 1)), none⟩,
          .op ⟨(some 38), (.idxAddrArr 8 1 (.t 37) (.t 34)), none⟩,
          .op ⟨none, (.store 1 (.t 38) (.t 36)), none⟩])
        (.skip)))
       (.ops [.op ⟨(some 39), (.mv (.t 2)), none⟩,
         .op ⟨(some 40), (.bin .add (.t 39) (.k (.raw (.int .i64 1)))), none⟩,
         .op ⟨(some 2), (.mv (.t 40)), none⟩])))))))
      (.ops [.op ⟨(some 9), (.mv (.t 3)), none⟩,
        .op ⟨(some 10), (.bin .add (.t 9) (.k (.raw (.int .u64 1)))), none⟩,
        .op ⟨(some 3), (.mv (.t 10)), none⟩]))))))
    (.seq
    (.ops [.op ⟨(some 41), (.load (some 72) (.t 1)), none⟩,
      .op ⟨none, (.store 72 (.t 0) (.t 41)), none⟩])
    (.ret))))),
    [.cell 0 (some 72)], 42⟩
theorem c_vigilref01_Make : compFn Tryz.prog f_vigilref01_Make = some x_vigilref01_Make := by kernel_rfl

/- (*vigil/vigilref17.Fresh).Ask -/
def x_vigilref17_Fresh__Ask : XFn := ⟨
    .seq
    (.ops [.op ⟨(some 7), (.box (.t 3)), none⟩,
      .op ⟨(some 8), (.mv (.k (.raw (.slice none 0 0)))), none⟩,
      .op ⟨(some 9), (.mv (.k (.raw (.int .i64 0)))), none⟩])
    (.seq
    (.seq
    (.ops [.op ⟨(some 12), (.mv (.t 1)), none⟩,
      .op ⟨(some 13), (.mv (.t 2)), none⟩,
      .op ⟨(some 14), (.call f_vigilref17_Right [(.t 12), (.t 13)]), none⟩,
      .op ⟨(some 15), (.un .not (.t 14)), none⟩])
    (.cond (.t 15)
     (.seq
     (.ops [.op ⟨(some 8), (.mv (.k (.raw (.slice none 0 0)))), none⟩,
       .op ⟨(some 9), (.mv (.k (.raw (.int .i64 10)))), none⟩])
     (.ret))
     (.skip)))
    (.seq
    (.ops [.op ⟨(some 16), (.mv (.t 0)), none⟩,
      .op ⟨(some 17), (.mv (.t 0)), none⟩,
      .op ⟨(some 18), (.nilCheck (.t 17)), none⟩,
      .op ⟨(some 19), (.fieldAddr 4 (.t 18)), none⟩,
      .op ⟨(some 20), (.load none (.t 19)), none⟩,
      .op ⟨(some 21), (.mv (.t 2)), none⟩,
      .op ⟨(some 22), (.call f_vigilref17_open [(.t 20), (.t 21)]), none⟩,
      .op ⟨(some 23), (.nilCheck (.t 16)), none⟩,
      .op ⟨(some 24), (.fieldAddr 4 (.t 23)), none⟩,
      .op ⟨none, (.store 1 (.t 24) (.t 22)), none⟩])
    (.seq
    (.seq
    (.draw [⟨(some 25), (.mv (.t 0)), none⟩,
      ⟨(some 26), (.nilCheck (.t 25)), none⟩,
      ⟨(some 27), (.fieldAddr 4 (.t 26)), none⟩,
      ⟨(some 28), (.load none (.t 27)), none⟩,
      ⟨(some 29), (.mv (.t 1)), none⟩,
      ⟨(some 30), (.mv (.t 2)), none⟩,
      ⟨(some 31), (.load (some 8) (.t 7)), none⟩,
      ⟨(some 32), (.call f_vigilref17_find [(.t 28), (.t 29), (.t 30), (.t 31)]), none⟩,
      ⟨(some 33), (.bin .geq (.t 32) (.k (.raw (.int .i64 0)))), none⟩]
      [[], [0], [0, 1], [1, 0, 2], [], [], [], [6, 5, 4, 2, 0, 1, 3], [3, 1, 0, 2, 4, 5, 6, 7]]
      [.q 0, .q 1, .q 2, .q 3, .q 4, .q 5, .q 6, .eff 7, .q 8])
    (.cond (.t 33)
     (.seq
     (.ops [.op ⟨(some 8), (.mv (.k (.raw (.slice none 0 0)))), none⟩,
       .op ⟨(some 9), (.mv (.k (.raw (.int .i64 8)))), none⟩])
     (.ret))
     (.skip)))
    (.seq
    (.seq
    (.ops [.op ⟨(some 34), (.mv (.t 0)), none⟩,
      .op ⟨(some 35), (.nilCheck (.t 34)), none⟩,
      .op ⟨(some 36), (.fieldAddr 4 (.t 35)), none⟩,
      .op ⟨(some 37), (.load none (.t 36)), none⟩,
      .op ⟨(some 38), (.len (.t 37)), none⟩,
      .op ⟨(some 39), (.bin .geq (.t 38) (.k (.raw (.int .i64 8)))), none⟩])
    (.cond (.t 39)
     (.seq
     (.ops [.op ⟨(some 8), (.mv (.k (.raw (.slice none 0 0)))), none⟩,
       .op ⟨(some 9), (.mv (.k (.raw (.int .i64 6)))), none⟩])
     (.ret))
     (.skip)))
    (.seq
    (.draw [⟨(some 40), (.mv (.t 0)), none⟩,
      ⟨(some 41), (.mv (.t 0)), none⟩,
      ⟨(some 42), (.nilCheck (.t 41)), none⟩,
      ⟨(some 43), (.fieldAddr 4 (.t 42)), none⟩,
      ⟨(some 44), (.load none (.t 43)), none⟩,
      ⟨(some 45), (.mv (.t 1)), none⟩,
      ⟨(some 46), (.mv (.t 2)), none⟩,
      ⟨(some 47), (.load (some 8) (.t 7)), none⟩,
      ⟨(some 48), (.build [(.int .i64 0), (.int .i64 0), (.int .u8 0), (.int .u8 0), (.int .u8 0), (.int .u8 0), (.int .u8 0), (.int .u8 0), (.int .u8 0), (.int .u8 0)] [(0, 1, (.t 45)), (1, 1, (.t 46)), (2, 8, (.t 47))]), none⟩,
      ⟨(some 49), (.buildF 1 [(.int .i64 0), (.int .i64 0), (.int .u8 0), (.int .u8 0), (.int .u8 0), (.int .u8 0), (.int .u8 0), (.int .u8 0), (.int .u8 0), (.int .u8 0)] [(0, 10, (.t 48))]), none⟩,
      ⟨(some 50), (.append 10 24 (.t 44) (.t 49)), none⟩,
      ⟨(some 51), (.nilCheck (.t 40)), none⟩,
      ⟨(some 52), (.fieldAddr 4 (.t 51)), none⟩,
      ⟨none, (.store 1 (.t 52) (.t 50)), none⟩]
      [[], [], [1], [1, 2], [2, 1, 3], [], [], [], [7, 6, 5], [5, 6, 7, 8], [8, 7, 6, 5, 9, 3, 1, 2, 4], [10, 9, 8, 7, 6, 5, 4, 3, 2, 1, 0], [0, 1, 2, 3, 4, 5, 6, 7, 8, 9, 10, 11], [11, 10, 9, 8, 7, 6, 5, 4, 3, 2, 1, 0, 12]]
      [.q 0, .q 1, .q 2, .q 3, .q 4, .q 5, .q 6, .q 7, .q 8, .q 9, .eff 10, .q 11, .q 12, .eff 13])
    (.seq
    (.ops [.op ⟨(some 53), (.buildF 0 [] []), none⟩,
      .op ⟨(some 54), (.sliceArr 8 1 (.t 7) none none none), none⟩,
      .op ⟨(some 55), (.append 1 1 (.t 53) (.t 54)), none⟩,
      .op ⟨(some 10), (.mv (.t 55)), none⟩])
    (.seq
    (.seq
    (.ops [.op ⟨(some 11), (.mv (.k (.raw (.int .i64 0)))), none⟩])
    (.block 0
     (.loop
      (.seq
      (.seq
      (.ops [.op ⟨(some 56), (.mv (.t 11)), none⟩,
        .op ⟨(some 57), (.bin .lss (.t 56) (.k (.raw (.int .i64 4)))), none⟩])
      (.cond (.t 57)
       (.skip)
       (.exit 0)))
      (.seq
      (.block 1
       (.ops [.op ⟨(some 60), (.mv (.t 10)), none⟩,
         .op ⟨(some 61), (.mv (.t 0)), none⟩,
         .op ⟨(some 62), (.mv (.t 11)), none⟩,
         .op ⟨(some 63), (.nilCheck (.t 61)), none⟩,
         .op ⟨(some 64), (.fieldAddr 0 (.t 63)), none⟩,
         .op ⟨(some 65), (.fieldAddr 0 (.t 64)), none⟩,
         .op ⟨(some 66), (.idxAddrArr 4 1 (.t 65) (.t 62)), none⟩,
         .op ⟨(some 67), (.load none (.t 66)), none⟩,
         .op ⟨(some 68), (.len (.t 67)), none⟩,
         .op ⟨(some 69), (.build [(.int .i64 0), (.int .i64 0), (.slice none 0 0)] [(0, 1, (.k (.raw (.int .i64 1)))), (1, 1, (.t 68))]), none⟩,
         .op ⟨(some 70), (.call f_vigilref04_Out [(.t 69)]), none⟩,
         .op ⟨(some 71), (.append 1 1 (.t 60) (.t 70)), none⟩,
         .op ⟨(some 10), (.mv (.t 71)), none⟩]))
      (.ops [.op ⟨(some 58), (.mv (.t 11)), none⟩,
        .op ⟨(some 59), (.bin .add (.t 58) (.k (.raw (.int .i64 1)))), none⟩,
        .op ⟨(some 11), (.mv (.t 59)), none⟩]))))))
    (.seq
    (.ops [.op ⟨(some 72), (.mv (.t 10)), none⟩,
      .op ⟨(some 8), (.mv (.t 72)), none⟩,
      .op ⟨(some 9), (.mv (.k (.raw (.int .i64 0)))), none⟩])
    (.ret))))))))),
    [.tmp 8, .tmp 9], 73⟩
theorem c_vigilref17_Fresh__Ask : compFn Tryz.prog f_vigilref17_Fresh__Ask = some x_vigilref17_Fresh__Ask := by kernel_rfl

/- vigil/vigilref01.Same -/
def x_vigilref01_Same : XFn := ⟨
    .seq
    (.ops [.op ⟨(some 4), (.mv (.k (.raw (.bool false)))), none⟩])
    (.seq
    (.seq
    (.ops [.op ⟨(some 6), (.mv (.t 0)), none⟩,
      .op ⟨(some 7), (.len (.t 6)), none⟩,
      .op ⟨(some 8), (.mv (.t 1)), none⟩,
      .op ⟨(some 9), (.len (.t 8)), none⟩,
      .op ⟨(some 10), (.bin .neq (.t 7) (.t 9)), none⟩])
    (.cond (.t 10)
     (.seq
     (.ops [.op ⟨(some 4), (.mv (.k (.raw (.bool false)))), none⟩])
     (.ret))
     (.skip)))
    (.seq
    (.seq
    (.ops [.op ⟨(some 5), (.mv (.k (.raw (.int .i64 0)))), none⟩])
    (.block 0
     (.loop
      (.seq
      (.seq
      (.ops [.op ⟨(some 11), (.mv (.t 5)), none⟩,
        .op ⟨(some 12), (.mv (.t 0)), none⟩,
        .op ⟨(some 13), (.len (.t 12)), none⟩,
        .op ⟨(some 14), (.bin .lss (.t 11) (.t 13)), none⟩])
      (.cond (.t 14)
       (.skip)
       (.exit 0)))
      (.seq
      (.block 1
       (.seq
       (.draw [⟨(some 17), (.mv (.t 0)), none⟩,
         ⟨(some 18), (.mv (.t 5)), none⟩,
         ⟨(some 19), (.idxAddr 1 (.t 17) (.t 18)), none⟩,
         ⟨(some 20), (.load none (.t 19)), none⟩,
         ⟨(some 21), (.mv (.t 1)), none⟩,
         ⟨(some 22), (.mv (.t 5)), none⟩,
         ⟨(some 23), (.idxAddr 1 (.t 21) (.t 22)), none⟩,
         ⟨(some 24), (.load none (.t 23)), none⟩,
         ⟨(some 25), (.bin .neq (.t 20) (.t 24)), none⟩]
         [[], [], [1, 0], [0, 1, 2], [], [], [5, 4], [4, 5, 6], [6, 5, 4, 7, 2, 1, 0, 3]]
         [.q 0, .q 1, .q 2, .q 3, .q 4, .q 5, .q 6, .q 7, .q 8])
       (.cond (.t 25)
        (.seq
        (.ops [.op ⟨(some 4), (.mv (.k (.raw (.bool false)))), none⟩])
        (.ret))
        (.skip))))
      (.ops [.op ⟨(some 15), (.mv (.t 5)), none⟩,
        .op ⟨(some 16), (.bin .add (.t 15) (.k (.raw (.int .i64 1)))), none⟩,
        .op ⟨(some 5), (.mv (.t 16)), none⟩]))))))
    (.seq
    (.ops [.op ⟨(some 4), (.mv (.k (.raw (.bool true)))), none⟩])
    (.ret)))),
    [.tmp 4], 26⟩
theorem c_vigilref01_Same : compFn Tryz.prog f_vigilref01_Same = some x_vigilref01_Same := by kernel_rfl

/- (*vigil/revoke.Set).Revoke -/
def x___vigil_revoke_Set__Revoke : XFn := ⟨
    .seq
    (.ops [.op ⟨(some 6), (.mv (.k (.raw (.int .i64 0)))), none⟩])
    (.seq
    (.block 0
     (.seq
     (.ops [.op ⟨(some 9), (.mv (.t 0)), none⟩,
       .op ⟨(some 10), (.eq .ptr false (.t 9) (.k (.raw (.pointer none)))), none⟩,
       .op ⟨(some 8), (.mv (.t 10)), none⟩])
     (.cond (.t 8)
      (.seq
      (.ops [.op ⟨(some 6), (.mv (.k (.raw (.int .i64 11)))), none⟩])
      (.ret))
      (.seq
      (.ops [.op ⟨(some 12), (.mv (.t 1)), none⟩,
        .op ⟨(some 13), (.bin .lss (.t 12) (.k (.raw (.int .i64 0)))), none⟩,
        .op ⟨(some 14), (.mv (.t 13)), none⟩,
        .split 14,
        .op ⟨(some 15), (.mv (.t 1)), (some (14, false))⟩,
        .op ⟨(some 16), (.bin .geq (.t 15) (.k (.raw (.int .i64 4)))), (some (14, false))⟩,
        .op ⟨(some 17), (.pick (.t 14) (.k (.raw (.bool true))) (.t 16)), none⟩,
        .op ⟨(some 18), (.mv (.t 17)), none⟩,
        .split 18,
        .op ⟨(some 19), (.mv (.t 2)), (some (18, false))⟩,
        .op ⟨(some 20), (.call f_vigil_revoke_serials [(.t 19)]), (some (18, false))⟩,
        .op ⟨(some 21), (.un .not (.t 20)), (some (18, false))⟩,
        .op ⟨(some 22), (.pick (.t 18) (.k (.raw (.bool true))) (.t 21)), none⟩,
        .op ⟨(some 11), (.mv (.t 22)), none⟩])
      (.cond (.t 11)
       (.seq
       (.ops [.op ⟨(some 6), (.mv (.k (.raw (.int .i64 10)))), none⟩])
       (.ret))
       (.skip))))))
    (.seq
    (.ops [.op ⟨(some 23), (.mv (.t 0)), none⟩,
      .op ⟨(some 24), (.mv (.t 1)), none⟩,
      .op ⟨(some 25), (.nilCheck (.t 23)), none⟩,
      .op ⟨(some 26), (.fieldAddr 0 (.t 25)), none⟩,
      .op ⟨(some 27), (.idxAddrArr 4 1 (.t 26) (.t 24)), none⟩,
      .op ⟨(some 28), (.load none (.t 27)), none⟩,
      .op ⟨(some 29), (.mv (.t 2)), none⟩,
      .op ⟨(some 30), (.buildF 2 [(.slice none 0 0), (.slice none 0 0)] [(0, 1, (.t 28)), (1, 1, (.t 29))]), none⟩,
      .op ⟨(some 31), (.call f_slices_Concat___int_int_ [(.t 30)]), none⟩,
      .op ⟨(some 7), (.mv (.t 31)), none⟩])
    (.seq
    (.block 1
     (.seq
     (.ops [.op ⟨(some 33), (.mv (.t 7)), none⟩,
       .op ⟨(some 34), (.call f_vigil_revoke_twice [(.t 33)]), none⟩,
       .op ⟨(some 32), (.mv (.t 34)), none⟩])
     (.cond (.t 32)
      (.seq
      (.ops [.op ⟨(some 6), (.mv (.k (.raw (.int .i64 8)))), none⟩])
      (.ret))
      (.seq
      (.ops [.op ⟨(some 36), (.mv (.t 7)), none⟩,
        .op ⟨(some 37), (.len (.t 36)), none⟩,
        .op ⟨(some 38), (.bin .gtr (.t 37) (.k (.raw (.int .i64 256)))), none⟩,
        .op ⟨(some 35), (.mv (.t 38)), none⟩])
      (.cond (.t 35)
       (.seq
       (.ops [.op ⟨(some 6), (.mv (.k (.raw (.int .i64 6)))), none⟩])
       (.ret))
       (.skip))))))
    (.seq
    (.ops [.op ⟨(some 39), (.mv (.t 0)), none⟩,
      .op ⟨(some 40), (.mv (.t 1)), none⟩,
      .op ⟨(some 41), (.mv (.t 7)), none⟩,
      .op ⟨(some 42), (.nilCheck (.t 39)), none⟩,
      .op ⟨(some 43), (.fieldAddr 0 (.t 42)), none⟩,
      .op ⟨(some 44), (.idxAddrArr 4 1 (.t 43) (.t 40)), none⟩,
      .op ⟨none, (.store 1 (.t 44) (.t 41)), none⟩])
    (.seq
    (.ops [.op ⟨(some 6), (.mv (.k (.raw (.int .i64 0)))), none⟩])
    (.ret)))))),
    [.tmp 6], 45⟩
theorem c___vigil_revoke_Set__Revoke : compFn Tryz.prog f___vigil_revoke_Set__Revoke = some x___vigil_revoke_Set__Revoke := by kernel_rfl

/- (*vigil/vigilref08.Set).Revoke -/
def x_vigilref08_Set__Revoke : XFn := ⟨
    .seq
    (.ops [.op ⟨(some 6), (.mv (.k (.raw (.int .i64 0)))), none⟩])
    (.seq
    (.seq
    (.ops [.op ⟨(some 8), (.mv (.t 1)), none⟩,
      .op ⟨(some 9), (.bin .lss (.t 8) (.k (.raw (.int .i64 0)))), none⟩,
      .op ⟨(some 10), (.mv (.t 9)), none⟩,
      .split 10,
      .op ⟨(some 11), (.mv (.t 1)), (some (10, false))⟩,
      .op ⟨(some 12), (.bin .gtr (.t 11) (.k (.raw (.int .i64 3)))), (some (10, false))⟩,
      .op ⟨(some 13), (.pick (.t 10) (.k (.raw (.bool true))) (.t 12)), none⟩,
      .op ⟨(some 14), (.mv (.t 13)), none⟩,
      .split 14,
      .op ⟨(some 15), (.mv (.t 2)), (some (14, false))⟩,
      .op ⟨(some 16), (.call f_vigilref08_Right [(.t 15)]), (some (14, false))⟩,
      .op ⟨(some 17), (.un .not (.t 16)), (some (14, false))⟩,
      .op ⟨(some 18), (.pick (.t 14) (.k (.raw (.bool true))) (.t 17)), none⟩])
    (.cond (.t 18)
     (.seq
     (.ops [.op ⟨(some 6), (.mv (.k (.raw (.int .i64 10)))), none⟩])
     (.ret))
     (.skip)))
    (.seq
    (.ops [.op ⟨(some 19), (.buildF 0 [] []), none⟩,
      .op ⟨(some 20), (.mv (.t 0)), none⟩,
      .op ⟨(some 21), (.mv (.t 1)), none⟩,
      .op ⟨(some 22), (.nilCheck (.t 20)), none⟩,
      .op ⟨(some 23), (.fieldAddr 0 (.t 22)), none⟩,
      .op ⟨(some 24), (.idxAddrArr 4 1 (.t 23) (.t 21)), none⟩,
      .op ⟨(some 25), (.load none (.t 24)), none⟩,
      .op ⟨(some 26), (.append 1 8 (.t 19) (.t 25)), none⟩,
      .op ⟨(some 27), (.mv (.t 2)), none⟩,
      .op ⟨(some 28), (.append 1 8 (.t 26) (.t 27)), none⟩,
      .op ⟨(some 7), (.mv (.t 28)), none⟩])
    (.seq
    (.seq
    (.ops [.op ⟨(some 29), (.mv (.t 7)), none⟩,
      .op ⟨(some 30), (.call f_vigilref08_Twice [(.t 29)]), none⟩])
    (.cond (.t 30)
     (.seq
     (.ops [.op ⟨(some 6), (.mv (.k (.raw (.int .i64 8)))), none⟩])
     (.ret))
     (.skip)))
    (.seq
    (.seq
    (.ops [.op ⟨(some 31), (.mv (.t 7)), none⟩,
      .op ⟨(some 32), (.len (.t 31)), none⟩,
      .op ⟨(some 33), (.bin .gtr (.t 32) (.k (.raw (.int .i64 256)))), none⟩])
    (.cond (.t 33)
     (.seq
     (.ops [.op ⟨(some 6), (.mv (.k (.raw (.int .i64 6)))), none⟩])
     (.ret))
     (.skip)))
    (.seq
    (.ops [.op ⟨(some 34), (.mv (.t 0)), none⟩,
      .op ⟨(some 35), (.mv (.t 1)), none⟩,
      .op ⟨(some 36), (.mv (.t 7)), none⟩,
      .op ⟨(some 37), (.nilCheck (.t 34)), none⟩,
      .op ⟨(some 38), (.fieldAddr 0 (.t 37)), none⟩,
      .op ⟨(some 39), (.idxAddrArr 4 1 (.t 38) (.t 35)), none⟩,
      .op ⟨none, (.store 1 (.t 39) (.t 36)), none⟩])
    (.seq
    (.ops [.op ⟨(some 6), (.mv (.k (.raw (.int .i64 0)))), none⟩])
    (.ret))))))),
    [.tmp 6], 40⟩
theorem c_vigilref08_Set__Revoke : compFn Tryz.prog f_vigilref08_Set__Revoke = some x_vigilref08_Set__Revoke := by kernel_rfl

/- vigil/vigilref17.Attest -/
def x_vigilref17_Attest : XFn := ⟨
    .seq
    (.ops [.op ⟨(some 4), (.box (.t 0)), none⟩,
      .op ⟨(some 8), (.mv (.k (.raw (.slice none 0 0)))), none⟩,
      .op ⟨(some 9), (.mv (.k (.raw (.int .i64 0)))), none⟩])
    (.seq
    (.seq
    (.ops [.op ⟨(some 14), (.mv (.t 2)), none⟩,
      .op ⟨(some 15), (.len (.t 14)), none⟩,
      .op ⟨(some 16), (.bin .neq (.t 15) (.k (.raw (.int .i64 16)))), none⟩])
    (.cond (.t 16)
     (.seq
     (.ops [.op ⟨(some 8), (.mv (.k (.raw (.slice none 0 0)))), none⟩,
       .op ⟨(some 9), (.mv (.k (.raw (.int .i64 3)))), none⟩])
     (.ret))
     (.skip)))
    (.seq
    (.ops [.op ⟨(some 10), (.alloc [(.int .i64 0), (.int .i64 0), (.int .i64 0), (.int .i64 0)]), none⟩])
    (.seq
    (.seq
    (.ops [.op ⟨(some 11), (.mv (.k (.raw (.int .i64 0)))), none⟩])
    (.block 0
     (.loop
      (.seq
      (.seq
      (.ops [.op ⟨(some 17), (.mv (.t 11)), none⟩,
        .op ⟨(some 18), (.bin .lss (.t 17) (.k (.raw (.int .i64 4)))), none⟩])
      (.cond (.t 18)
       (.skip)
       (.exit 0)))
      (.seq
      (.block 1
       (.draw [⟨(some 21), (.mv (.t 11)), none⟩,
         ⟨(some 22), (.mv (.t 2)), none⟩,
         ⟨(some 23), (.mv (.t 11)), none⟩,
         ⟨(some 24), (.bin .mul (.k (.raw (.int .i64 2))) (.t 23)), none⟩,
         ⟨(some 25), (.bin .add (.k (.raw (.int .i64 8))) (.t 24)), none⟩,
         ⟨(some 26), (.idxAddr 1 (.t 22) (.t 25)), none⟩,
         ⟨(some 27), (.load none (.t 26)), none⟩,
         ⟨(some 28), (.conv .i64 (.t 27)), none⟩,
         ⟨(some 29), (.bin .mul (.k (.raw (.int .i64 256))) (.t 28)), none⟩,
         ⟨(some 30), (.mv (.t 2)), none⟩,
         ⟨(some 31), (.mv (.t 11)), none⟩,
         ⟨(some 32), (.bin .mul (.k (.raw (.int .i64 2))) (.t 31)), none⟩,
         ⟨(some 33), (.bin .add (.k (.raw (.int .i64 9))) (.t 32)), none⟩,
         ⟨(some 34), (.idxAddr 1 (.t 30) (.t 33)), none⟩,
         ⟨(some 35), (.load none (.t 34)), none⟩,
         ⟨(some 36), (.conv .i64 (.t 35)), none⟩,
         ⟨(some 37), (.bin .add (.t 29) (.t 36)), none⟩,
         ⟨(some 38), (.idxAddrArr 4 1 (.t 10) (.t 21)), none⟩,
         ⟨none, (.store 1 (.t 38) (.t 37)), none⟩]
         [[], [], [], [2], [2, 3], [3, 2, 4, 1], [1, 4, 2, 3, 5], [5, 3, 2, 4, 1, 6], [6, 1, 4, 2, 3, 5, 7], [], [], [10], [10, 11], [11, 10, 12, 9], [9, 12, 10, 11, 13], [13, 11, 10, 12, 9, 14], [14, 9, 12, 10, 11, 13, 15, 7, 5, 3, 2, 4, 1, 6, 8], [16, 15, 14, 13, 12, 11, 10, 9, 8, 7, 6, 5, 4, 3, 2, 1, 0], [0, 1, 2, 3, 4, 5, 6, 7, 8, 9, 10, 11, 12, 13, 14, 15, 16, 17]]
         [.q 0, .q 1, .q 2, .q 3, .q 4, .q 5, .q 6, .q 7, .q 8, .q 9, .q 10, .q 11, .q 12, .q 13, .q 14, .q 15, .q 16, .q 17, .eff 18]))
      (.ops [.op ⟨(some 19), (.mv (.t 11)), none⟩,
        .op ⟨(some 20), (.bin .add (.t 19) (.k (.raw (.int .i64 1)))), none⟩,
        .op ⟨(some 11), (.mv (.t 20)), none⟩]))))))
    (.seq
    (.seq
    (.ops [.op ⟨(some 39), (.load (some 4) (.t 10)), none⟩,
      .op ⟨(some 40), (.call f_vigilref09_Right [(.t 39)]), none⟩,
      .op ⟨(some 41), (.un .not (.t 40)), none⟩])
    (.cond (.t 41)
     (.seq
     (.ops [.op ⟨(some 8), (.mv (.k (.raw (.slice none 0 0)))), none⟩,
       .op ⟨(some 9), (.mv (.k (.raw (.int .i64 3)))), none⟩])
     (.ret))
     (.skip)))
    (.seq
    (.seq
    (.ops [.op ⟨(some 42), (.mv (.t 3)), none⟩,
      .op ⟨(some 43), (.bin .lss (.t 42) (.k (.raw (.int .i64 40)))), none⟩])
    (.cond (.t 43)
     (.seq
     (.ops [.op ⟨(some 8), (.mv (.k (.raw (.slice none 0 0)))), none⟩,
       .op ⟨(some 9), (.mv (.k (.raw (.int .i64 2)))), none⟩])
     (.ret))
     (.skip)))
    (.seq
    (.ops [.op ⟨(some 44), (.mv (.t 1)), none⟩,
      .op ⟨(some 45), (.load (some 4) (.t 10)), none⟩,
      .op ⟨(some 46), (.mv (.t 3)), none⟩,
      .op ⟨(some 47), (.bin .sub (.t 46) (.k (.raw (.int .i64 24)))), none⟩,
      .op ⟨(some 48), (.call f_vigilref09_Answer [(.t 44), (.t 45), (.t 47)]), none⟩,
      .op ⟨(some 12), (.alloc [(.int .i64 0), (.int .i64 0), (.int .i64 0), (.int .i64 0), (.slice none 0 0), (.slice none 0 0), (.slice none 0 0), (.slice none 0 0)]), none⟩,
      .op ⟨none, (.store 8 (.t 12) (.t 48)), none⟩])
    (.seq
    (.ops [.op ⟨(some 49), (.buildF 0 [] []), none⟩,
      .op ⟨(some 50), (.mv (.t 2)), none⟩,
      .op ⟨(some 51), (.slice 1 (.t 50) none (some (.k (.raw (.int .i64 8)))) none), none⟩,
      .op ⟨(some 52), (.append 1 1 (.t 49) (.t 51)), none⟩,
      .op ⟨(some 13), (.mv (.t 52)), none⟩])
    (.seq
    (.ops [.op ⟨(some 53), (.mv (.t 13)), none⟩,
      .op ⟨(some 54), (.load (some 72) (.t 4)), none⟩,
      .op ⟨(some 55), (.mv (.t 1)), none⟩,
      .op ⟨(some 56), (.call f_vigilref09_Of [(.t 54), (.t 55)]), none⟩,
      .op ⟨(some 57), (.call f_vigilref09_Bytes [(.t 56)]), none⟩,
      .op ⟨(some 58), (.append 1 1 (.t 53) (.t 57)), none⟩,
      .op ⟨(some 13), (.mv (.t 58)), none⟩])
    (.seq
    (.ops [.op ⟨(some 59), (.mv (.t 13)), none⟩,
      .op ⟨(some 60), (.load (some 8) (.t 12)), none⟩,
      .op ⟨(some 61), (.call f_vigilref08_Bytes [(.t 60)]), none⟩,
      .op ⟨(some 62), (.append 1 1 (.t 59) (.t 61)), none⟩,
      .op ⟨(some 8), (.mv (.t 62)), none⟩,
      .op ⟨(some 9), (.mv (.k (.raw (.int .i64 0)))), none⟩])
    (.ret)))))))))),
    [.tmp 8, .tmp 9], 63⟩
theorem c_vigilref17_Attest : compFn Tryz.prog f_vigilref17_Attest = some x_vigilref17_Attest := by kernel_rfl

/- vigil/vigilref17.Right -/
def x_vigilref17_Right : XFn := ⟨
    .seq
    (.ops [.op ⟨(some 4), (.mv (.k (.raw (.bool false)))), none⟩])
    (.seq
    (.ops [.op ⟨(some 5), (.mv (.t 0)), none⟩,
      .op ⟨(some 6), (.bin .geq (.t 5) (.k (.raw (.int .i64 0)))), none⟩,
      .op ⟨(some 7), (.mv (.t 6)), none⟩,
      .split 7,
      .op ⟨(some 8), (.mv (.t 0)), (some (7, true))⟩,
      .op ⟨(some 9), (.bin .lss (.t 8) (.k (.raw (.int .i64 4)))), (some (7, true))⟩,
      .op ⟨(some 10), (.pick (.t 7) (.t 9) (.k (.raw (.bool false)))), none⟩,
      .op ⟨(some 11), (.mv (.t 10)), none⟩,
      .split 11,
      .op ⟨(some 12), (.mv (.t 1)), (some (11, true))⟩,
      .op ⟨(some 13), (.bin .geq (.t 12) (.k (.raw (.int .i64 0)))), (some (11, true))⟩,
      .op ⟨(some 14), (.pick (.t 11) (.t 13) (.k (.raw (.bool false)))), none⟩,
      .op ⟨(some 15), (.mv (.t 14)), none⟩,
      .split 15,
      .op ⟨(some 16), (.mv (.t 1)), (some (15, true))⟩,
      .op ⟨(some 17), (.bin .leq (.t 16) (.k (.raw (.int .i64 1073741824)))), (some (15, true))⟩,
      .op ⟨(some 18), (.pick (.t 15) (.t 17) (.k (.raw (.bool false)))), none⟩,
      .op ⟨(some 4), (.mv (.t 18)), none⟩])
    (.ret)),
    [.tmp 4], 19⟩
theorem c_vigilref17_Right : compFn Tryz.prog f_vigilref17_Right = some x_vigilref17_Right := by kernel_rfl

/- vigil/delta.Read -/
def x_vigil_delta_Read : XFn := ⟨
    .seq
    (.ops [.op ⟨(some 2), (.alloc [(.int .i64 0), (.int .i64 0), (.int .i64 0), (.int .i64 0), (.int .u8 0), (.int .u8 0), (.int .u8 0), (.int .u8 0), (.int .u8 0), (.int .u8 0), (.int .u8 0), (.int .u8 0)]), none⟩,
      .op ⟨(some 3), (.mv (.k (.raw (.int .i64 0)))), none⟩])
    (.seq
    (.ops [.op ⟨(some 4), (.alloc [(.int .i64 0), (.int .i64 0), (.int .i64 0), (.int .i64 0), (.int .u8 0), (.int .u8 0), (.int .u8 0), (.int .u8 0), (.int .u8 0), (.int .u8 0), (.int .u8 0), (.int .u8 0)]), none⟩])
    (.seq
    (.seq
    (.ops [.op ⟨(some 8), (.mv (.k (.raw (.int .i64 0)))), none⟩])
    (.block 0
     (.loop
      (.seq
      (.ops [.op ⟨(some 9), (.bin .lss (.t 8) (.k (.raw (.int .i64 4)))), none⟩])
      (.seq
      (.cond (.t 9)
       (.skip)
       (.exit 0))
      (.seq
      (.block 1
       (.seq
       (.ops [.op ⟨(some 10), (.mv (.t 8)), none⟩,
         .op ⟨(some 5), (.mv (.t 10)), none⟩])
       (.ops [.op ⟨(some 11), (.mv (.t 5)), none⟩,
         .op ⟨(some 12), (.mv (.t 0)), none⟩,
         .op ⟨(some 13), (.call f___vigil_wire_Reader__Number [(.t 12), (.k (.raw (.int .i64 1)))]), none⟩,
         .op ⟨(some 14), (.fieldAddr 0 (.t 4)), none⟩,
         .op ⟨(some 15), (.idxAddrArr 4 1 (.t 14) (.t 11)), none⟩,
         .op ⟨none, (.store 1 (.t 15) (.t 13)), none⟩])))
      (.ops [.op ⟨(some 16), (.bin .add (.t 8) (.k (.raw (.int .i64 1)))), none⟩,
        .op ⟨(some 8), (.mv (.t 16)), none⟩])))))))
    (.seq
    (.seq
    (.ops [.op ⟨(some 17), (.mv (.k (.raw (.int .i64 0)))), none⟩])
    (.block 2
     (.loop
      (.seq
      (.ops [.op ⟨(some 18), (.bin .lss (.t 17) (.k (.raw (.int .i64 8)))), none⟩])
      (.seq
      (.cond (.t 18)
       (.skip)
       (.exit 2))
      (.seq
      (.block 3
       (.seq
       (.ops [.op ⟨(some 19), (.mv (.t 17)), none⟩,
         .op ⟨(some 6), (.mv (.t 19)), none⟩])
       (.ops [.op ⟨(some 20), (.mv (.t 6)), none⟩,
         .op ⟨(some 21), (.mv (.t 0)), none⟩,
         .op ⟨(some 22), (.call f___vigil_wire_Reader__Number [(.t 21), (.k (.raw (.int .i64 0)))]), none⟩,
         .op ⟨(some 23), (.conv .u8 (.t 22)), none⟩,
         .op ⟨(some 24), (.fieldAddr 4 (.t 4)), none⟩,
         .op ⟨(some 25), (.idxAddrArr 8 1 (.t 24) (.t 20)), none⟩,
         .op ⟨none, (.store 1 (.t 25) (.t 23)), none⟩])))
      (.ops [.op ⟨(some 26), (.bin .add (.t 17) (.k (.raw (.int .i64 1)))), none⟩,
        .op ⟨(some 17), (.mv (.t 26)), none⟩])))))))
    (.seq
    (.seq
    (.ops [.op ⟨(some 27), (.mv (.t 0)), none⟩,
      .op ⟨(some 28), (.call f___vigil_wire_Reader__Err [(.t 27)]), none⟩,
      .op ⟨(some 7), (.mv (.t 28)), none⟩])
    (.seq
    (.ops [.op ⟨(some 29), (.mv (.t 7)), none⟩,
      .op ⟨(some 30), (.bin .neq (.t 29) (.k (.raw (.int .i64 0)))), none⟩])
    (.cond (.t 30)
     (.seq
     (.ops [.op ⟨(some 31), (.build [(.int .i64 0), (.int .i64 0), (.int .i64 0), (.int .i64 0), (.int .u8 0), (.int .u8 0), (.int .u8 0), (.int .u8 0), (.int .u8 0), (.int .u8 0), (.int .u8 0), (.int .u8 0)] []), none⟩,
       .op ⟨(some 32), (.mv (.t 7)), none⟩,
       .op ⟨none, (.store 12 (.t 2) (.t 31)), none⟩,
       .op ⟨(some 3), (.mv (.t 32)), none⟩])
     (.ret))
     (.skip))))
    (.seq
    (.seq
    (.ops [.op ⟨(some 33), (.fieldAddr 0 (.t 4)), none⟩,
      .op ⟨(some 34), (.load (some 4) (.t 33)), none⟩,
      .op ⟨(some 35), (.call f_vigil_delta_right [(.t 34)]), none⟩,
      .op ⟨(some 36), (.un .not (.t 35)), none⟩])
    (.cond (.t 36)
     (.seq
     (.ops [.op ⟨(some 37), (.build [(.int .i64 0), (.int .i64 0), (.int .i64 0), (.int .i64 0), (.int .u8 0), (.int .u8 0), (.int .u8 0), (.int .u8 0), (.int .u8 0), (.int .u8 0), (.int .u8 0), (.int .u8 0)] []), none⟩,
       .op ⟨none, (.store 12 (.t 2) (.t 37)), none⟩,
       .op ⟨(some 3), (.mv (.k (.raw (.int .i64 3)))), none⟩])
     (.ret))
     (.skip)))
    (.seq
    (.ops [.op ⟨(some 38), (.load (some 12) (.t 4)), none⟩,
      .op ⟨none, (.store 12 (.t 2) (.t 38)), none⟩,
      .op ⟨(some 3), (.mv (.k (.raw (.int .i64 0)))), none⟩])
    (.ret))))))),
    [.cell 2 (some 12), .tmp 3], 39⟩
theorem c_vigil_delta_Read : compFn Tryz.prog f_vigil_delta_Read = some x_vigil_delta_Read := by kernel_rfl

/- vigil/wire.New -/
def x_vigil_wire_New : XFn := ⟨
    .seq
    (.ops [.op ⟨(some 2), (.mv (.k (.raw (.pointer none)))), none⟩])
    (.seq
    (.ops [.op ⟨(some 4), (.mv (.t 0)), none⟩,
      .op ⟨(some 5), (.call f_bytes_Clone [(.t 4)]), none⟩,
      .op ⟨(some 6), (.build [(.slice none 0 0), (.int .i64 0)] [(0, 1, (.t 5))]), none⟩,
      .op ⟨(some 7), (.build [(.slice none 0 0), (.int .i64 0)] [(0, 2, (.t 6))]), none⟩,
      .op ⟨(some 8), (.box (.t 7)), none⟩,
      .op ⟨(some 3), (.mv (.t 8)), none⟩])
    (.seq
    (.seq
    (.ops [.op ⟨(some 9), (.mv (.t 0)), none⟩,
      .op ⟨(some 10), (.len (.t 9)), none⟩,
      .op ⟨(some 11), (.bin .gtr (.t 10) (.k (.raw (.int .i64 1024)))), none⟩])
    (.cond (.t 11)
     (.ops [.op ⟨(some 12), (.mv (.t 3)), none⟩,
       .op ⟨(some 13), (.nilCheck (.t 12)), none⟩,
       .op ⟨(some 14), (.fieldAddr 0 (.t 13)), none⟩,
       .op ⟨(some 15), (.call f___vigil_wire_rest__fail [(.t 14), (.k (.raw (.int .i64 2)))]), none⟩])
     (.skip)))
    (.seq
    (.ops [.op ⟨(some 16), (.mv (.t 3)), none⟩,
      .op ⟨(some 2), (.mv (.t 16)), none⟩])
    (.ret)))),
    [.tmp 2], 17⟩
theorem c_vigil_wire_New : compFn Tryz.prog f_vigil_wire_New = some x_vigil_wire_New := by kernel_rfl

/- vigil/revoke.Parse -/
def x_vigil_revoke_Parse : XFn := ⟨
    .seq
    (.ops [.op ⟨(some 2), (.alloc [(.int .i64 0), (.int .i64 0), (.int .i64 0), (.int .i64 0), (.slice none 0 0), (.slice none 0 0), (.slice none 0 0), (.slice none 0 0)]), none⟩,
      .op ⟨(some 3), (.mv (.k (.raw (.int .i64 0)))), none⟩])
    (.seq
    (.ops [.op ⟨(some 8), (.mv (.t 0)), none⟩,
      .op ⟨(some 9), (.call f_vigil_wire_New [(.t 8)]), none⟩,
      .op ⟨(some 4), (.mv (.t 9)), none⟩])
    (.seq
    (.ops [.op ⟨(some 5), (.alloc [(.int .i64 0), (.int .i64 0), (.int .i64 0), (.int .i64 0), (.slice none 0 0), (.slice none 0 0), (.slice none 0 0), (.slice none 0 0)]), none⟩])
    (.seq
    (.seq
    (.ops [.op ⟨(some 10), (.mv (.k (.raw (.int .i64 0)))), none⟩])
    (.block 0
     (.loop
      (.seq
      (.ops [.op ⟨(some 11), (.bin .lss (.t 10) (.k (.raw (.int .i64 4)))), none⟩])
      (.seq
      (.cond (.t 11)
       (.skip)
       (.exit 0))
      (.seq
      (.block 1
       (.seq
       (.ops [.op ⟨(some 12), (.mv (.t 10)), none⟩,
         .op ⟨(some 6), (.mv (.t 12)), none⟩])
       (.seq
       (.ops [.op ⟨(some 13), (.mv (.t 6)), none⟩,
         .op ⟨(some 14), (.mv (.t 4)), none⟩,
         .op ⟨(some 15), (.call f___vigil_wire_Reader__Number [(.t 14), (.k (.raw (.int .i64 1)))]), none⟩,
         .op ⟨(some 16), (.fieldAddr 0 (.t 5)), none⟩,
         .op ⟨(some 17), (.idxAddrArr 4 1 (.t 16) (.t 13)), none⟩,
         .op ⟨none, (.store 1 (.t 17) (.t 15)), none⟩])
       (.seq
       (.ops [.op ⟨(some 18), (.mv (.t 4)), none⟩,
         .op ⟨(some 19), (.call f___vigil_wire_Reader__Number [(.t 18), (.k (.raw (.int .i64 1)))]), none⟩,
         .op ⟨(some 20), (.mv (.k (.raw (.int .i64 0)))), none⟩])
       (.block 2
        (.loop
         (.seq
         (.ops [.op ⟨(some 21), (.bin .lss (.t 20) (.t 19)), none⟩])
         (.seq
         (.cond (.t 21)
          (.skip)
          (.exit 2))
         (.seq
         (.block 3
          (.seq
          (.ops [.op ⟨(some 22), (.mv (.t 4)), none⟩,
            .op ⟨(some 23), (.call f___vigil_wire_Reader__Err [(.t 22)]), none⟩,
            .op ⟨(some 24), (.bin .eql (.t 23) (.k (.raw (.int .i64 0)))), none⟩])
          (.cond (.t 24)
           (.draw [⟨(some 25), (.mv (.t 6)), none⟩,
             ⟨(some 26), (.mv (.t 6)), none⟩,
             ⟨(some 27), (.fieldAddr 4 (.t 5)), none⟩,
             ⟨(some 28), (.idxAddrArr 4 1 (.t 27) (.t 26)), none⟩,
             ⟨(some 29), (.load none (.t 28)), none⟩,
             ⟨(some 30), (.mv (.t 4)), none⟩,
             ⟨(some 31), (.call f___vigil_wire_Reader__Number [(.t 30), (.k (.raw (.int .i64 1)))]), none⟩,
             ⟨(some 32), (.buildF 1 [(.int .i64 0)] [(0, 1, (.t 31))]), none⟩,
             ⟨(some 33), (.append 1 8 (.t 29) (.t 32)), none⟩,
             ⟨(some 34), (.fieldAddr 4 (.t 5)), none⟩,
             ⟨(some 35), (.idxAddrArr 4 1 (.t 34) (.t 25)), none⟩,
             ⟨none, (.store 1 (.t 35) (.t 33)), none⟩]
             [[], [], [], [1, 2], [2, 1, 3], [], [5], [5, 6], [6, 5, 7, 3, 1, 2, 4], [], [8, 7, 6, 5, 4, 3, 2, 1, 0, 9], [9, 0, 1, 2, 3, 4, 5, 6, 7, 8, 10]]
             [.q 0, .q 1, .q 2, .q 3, .q 4, .q 5, .q 9, .eff 6, .q 7, .eff 8, .q 10, .eff 11])
           (.skip))))
         (.ops [.op ⟨(some 36), (.bin .add (.t 20) (.k (.raw (.int .i64 1)))), none⟩,
           .op ⟨(some 20), (.mv (.t 36)), none⟩]))))))))))
      (.ops [.op ⟨(some 37), (.bin .add (.t 10) (.k (.raw (.int .i64 1)))), none⟩,
        .op ⟨(some 10), (.mv (.t 37)), none⟩])))))))
    (.seq
    (.seq
    (.ops [.op ⟨(some 38), (.mv (.t 4)), none⟩,
      .op ⟨(some 39), (.call f___vigil_wire_Reader__End [(.t 38)]), none⟩,
      .op ⟨(some 7), (.mv (.t 39)), none⟩])
    (.seq
    (.ops [.op ⟨(some 40), (.mv (.t 7)), none⟩,
      .op ⟨(some 41), (.bin .neq (.t 40) (.k (.raw (.int .i64 0)))), none⟩])
    (.cond (.t 41)
     (.seq
     (.ops [.op ⟨(some 42), (.build [(.int .i64 0), (.int .i64 0), (.int .i64 0), (.int .i64 0), (.slice none 0 0), (.slice none 0 0), (.slice none 0 0), (.slice none 0 0)] []), none⟩,
       .op ⟨(some 43), (.mv (.t 7)), none⟩,
       .op ⟨none, (.store 8 (.t 2) (.t 42)), none⟩,
       .op ⟨(some 3), (.mv (.t 43)), none⟩])
     (.ret))
     (.skip))))
    (.seq
    (.seq
    (.ops [.op ⟨(some 44), (.load (some 8) (.t 5)), none⟩,
      .op ⟨(some 45), (.call f__vigil_revoke_Delta__check [(.t 44)]), none⟩,
      .op ⟨(some 46), (.bin .neq (.t 45) (.k (.raw (.int .i64 0)))), none⟩])
    (.cond (.t 46)
     (.seq
     (.ops [.op ⟨(some 47), (.build [(.int .i64 0), (.int .i64 0), (.int .i64 0), (.int .i64 0), (.slice none 0 0), (.slice none 0 0), (.slice none 0 0), (.slice none 0 0)] []), none⟩,
       .op ⟨none, (.store 8 (.t 2) (.t 47)), none⟩,
       .op ⟨(some 3), (.mv (.k (.raw (.int .i64 3)))), none⟩])
     (.ret))
     (.skip)))
    (.seq
    (.ops [.op ⟨(some 48), (.load (some 8) (.t 5)), none⟩,
      .op ⟨none, (.store 8 (.t 2) (.t 48)), none⟩,
      .op ⟨(some 3), (.mv (.k (.raw (.int .i64 0)))), none⟩])
    (.ret))))))),
    [.cell 2 (some 8), .tmp 3], 49⟩
theorem c_vigil_revoke_Parse : compFn Tryz.prog f_vigil_revoke_Parse = some x_vigil_revoke_Parse := by kernel_rfl

/- (*vigil/vigilref17.Fresh).Take -/
def x_vigilref17_Fresh__Take : XFn := ⟨
    .seq
    (.ops [.op ⟨(some 9), (.box (.t 3)), none⟩,
      .op ⟨(some 10), (.box (.t 4)), none⟩,
      .op ⟨(some 11), (.box (.t 5)), none⟩,
      .op ⟨(some 12), (.mv (.k (.raw (.bool false)))), none⟩,
      .op ⟨(some 13), (.mv (.k (.raw (.int .i64 0)))), none⟩])
    (.seq
    (.draw [⟨(some 19), (.mv (.t 0)), none⟩,
      ⟨(some 20), (.nilCheck (.t 19)), none⟩,
      ⟨(some 21), (.fieldAddr 4 (.t 20)), none⟩,
      ⟨(some 22), (.load none (.t 21)), none⟩,
      ⟨(some 23), (.mv (.t 1)), none⟩,
      ⟨(some 24), (.mv (.t 2)), none⟩,
      ⟨(some 25), (.load (some 8) (.t 9)), none⟩,
      ⟨(some 26), (.call f_vigilref17_find [(.t 22), (.t 23), (.t 24), (.t 25)]), none⟩,
      ⟨(some 14), (.mv (.t 26)), none⟩]
      [[], [0], [0, 1], [1, 0, 2], [], [], [], [6, 5, 4, 2, 0, 1, 3], [3, 1, 0, 2, 4, 5, 6, 7]]
      [.q 0, .q 1, .q 2, .q 3, .q 4, .q 5, .q 6, .eff 7, .q 8])
    (.seq
    (.seq
    (.ops [.op ⟨(some 27), (.mv (.t 14)), none⟩,
      .op ⟨(some 28), (.bin .lss (.t 27) (.k (.raw (.int .i64 0)))), none⟩])
    (.cond (.t 28)
     (.seq
     (.ops [.op ⟨(some 12), (.mv (.k (.raw (.bool false)))), none⟩,
       .op ⟨(some 13), (.mv (.k (.raw (.int .i64 7)))), none⟩])
     (.ret))
     (.skip)))
    (.seq
    (.draw [⟨(some 30), (.mv (.t 0)), none⟩,
      ⟨(some 31), (.nilCheck (.t 30)), none⟩,
      ⟨(some 32), (.fieldAddr 0 (.t 31)), none⟩,
      ⟨(some 33), (.load (some 8) (.t 11)), none⟩,
      ⟨(some 34), (.call f_vigilref08_Set__Apply [(.t 32), (.t 33)]), none⟩,
      ⟨(some 29), (.mv (.t 34)), none⟩,
      ⟨(some 35), (.extract (.t 29) 0), none⟩,
      ⟨(some 36), (.extract (.t 29) 1), none⟩,
      ⟨(some 15), (.mv (.t 35)), none⟩,
      ⟨(some 16), (.mv (.t 36)), none⟩]
      [[], [0], [0, 1], [], [3, 1, 0, 2], [2, 0, 1, 3, 4], [4, 3, 1, 0, 2, 5], [4, 3, 1, 0, 2, 5], [5, 2, 0, 1, 3, 4, 6], [6, 8, 5, 2, 0, 1, 3, 4, 7]]
      [.q 0, .q 1, .q 2, .q 3, .eff 4, .q 5, .q 6, .q 7, .q 8, .q 9])
    (.seq
    (.seq
    (.ops [.op ⟨(some 37), (.mv (.t 16)), none⟩,
      .op ⟨(some 38), (.bin .neq (.t 37) (.k (.raw (.int .i64 0)))), none⟩])
    (.cond (.t 38)
     (.seq
     (.ops [.op ⟨(some 39), (.mv (.t 16)), none⟩,
       .op ⟨(some 12), (.mv (.k (.raw (.bool false)))), none⟩,
       .op ⟨(some 13), (.mv (.t 39)), none⟩])
     (.ret))
     (.skip)))
    (.seq
    (.ops [.op ⟨(some 40), (.mv (.t 0)), none⟩,
      .op ⟨(some 41), (.nilCheck (.t 40)), none⟩,
      .op ⟨(some 42), (.fieldAddr 4 (.t 41)), none⟩,
      .op ⟨(some 43), (.load none (.t 42)), none⟩,
      .op ⟨(some 44), (.mv (.t 14)), none⟩,
      .op ⟨(some 45), (.idxAddr 10 (.t 43) (.t 44)), none⟩,
      .op ⟨(some 46), (.fieldAddr 1 (.t 45)), none⟩,
      .op ⟨(some 47), (.load none (.t 46)), none⟩,
      .op ⟨(some 17), (.mv (.t 47)), none⟩])
    (.seq
    (.draw [⟨(some 48), (.mv (.t 0)), none⟩,
      ⟨(some 49), (.buildF 0 [] []), none⟩,
      ⟨(some 50), (.mv (.t 0)), none⟩,
      ⟨(some 51), (.nilCheck (.t 50)), none⟩,
      ⟨(some 52), (.fieldAddr 4 (.t 51)), none⟩,
      ⟨(some 53), (.load none (.t 52)), none⟩,
      ⟨(some 54), (.mv (.t 14)), none⟩,
      ⟨(some 55), (.slice 10 (.t 53) none (some (.t 54)) none), none⟩,
      ⟨(some 56), (.append 10 24 (.t 49) (.t 55)), none⟩,
      ⟨(some 57), (.mv (.t 0)), none⟩,
      ⟨(some 58), (.nilCheck (.t 57)), none⟩,
      ⟨(some 59), (.fieldAddr 4 (.t 58)), none⟩,
      ⟨(some 60), (.load none (.t 59)), none⟩,
      ⟨(some 61), (.mv (.t 14)), none⟩,
      ⟨(some 62), (.bin .add (.t 61) (.k (.raw (.int .i64 1)))), none⟩,
      ⟨(some 63), (.slice 10 (.t 60) (some (.t 62)) none none), none⟩,
      ⟨(some 64), (.append 10 24 (.t 56) (.t 63)), none⟩,
      ⟨(some 65), (.nilCheck (.t 48)), none⟩,
      ⟨(some 66), (.fieldAddr 4 (.t 65)), none⟩,
      ⟨none, (.store 1 (.t 66) (.t 64)), none⟩]
      [[], [], [], [2], [2, 3], [3, 2, 4], [], [6, 4, 2, 3, 5], [5, 3, 2, 4, 6, 7, 1], [], [9], [9, 10], [10, 9, 11], [], [13], [13, 14, 11, 9, 10, 12], [12, 10, 9, 11, 14, 13, 15, 1, 7, 6, 4, 2, 3, 5, 8], [16, 15, 14, 13, 12, 11, 10, 9, 8, 7, 6, 5, 4, 3, 2, 1, 0], [0, 1, 2, 3, 4, 5, 6, 7, 8, 9, 10, 11, 12, 13, 14, 15, 16, 17], [17, 16, 15, 14, 13, 12, 11, 10, 9, 8, 7, 6, 5, 4, 3, 2, 1, 0, 18]]
      [.q 0, .q 1, .q 2, .q 3, .q 4, .q 5, .q 6, .q 7, .q 9, .q 10, .q 11, .q 12, .q 13, .q 14, .q 15, .eff 8, .eff 16, .q 17, .q 18, .eff 19])
    (.seq
    (.seq
    (.ops [.op ⟨(some 18), (.mv (.k (.raw (.int .i64 0)))), none⟩])
    (.block 0
     (.loop
      (.seq
      (.seq
      (.ops [.op ⟨(some 67), (.mv (.t 18)), none⟩,
        .op ⟨(some 68), (.bin .lss (.t 67) (.k (.raw (.int .i64 4)))), none⟩])
      (.cond (.t 68)
       (.skip)
       (.exit 0)))
      (.seq
      (.block 1
       (.seq
       (.draw [⟨(some 71), (.mv (.t 0)), none⟩,
         ⟨(some 72), (.mv (.t 18)), none⟩,
         ⟨(some 73), (.nilCheck (.t 71)), none⟩,
         ⟨(some 74), (.fieldAddr 0 (.t 73)), none⟩,
         ⟨(some 75), (.fieldAddr 0 (.t 74)), none⟩,
         ⟨(some 76), (.idxAddrArr 4 1 (.t 75) (.t 72)), none⟩,
         ⟨(some 77), (.load none (.t 76)), none⟩,
         ⟨(some 78), (.len (.t 77)), none⟩,
         ⟨(some 79), (.mv (.t 18)), none⟩,
         ⟨(some 80), (.idxAddrArr 4 1 (.t 10) (.t 79)), none⟩,
         ⟨(some 81), (.load none (.t 80)), none⟩,
         ⟨(some 82), (.bin .lss (.t 78) (.t 81)), none⟩]
         [[], [], [0], [0, 2], [2, 0, 3], [1, 3, 0, 2, 4], [4, 2, 0, 3, 1, 5], [5, 1, 3, 0, 2, 4, 6], [], [8], [8, 9], [9, 8, 10, 6, 4, 2, 0, 3, 1, 5, 7]]
         [.q 0, .q 1, .q 2, .q 3, .q 4, .q 5, .q 6, .q 7, .q 8, .q 9, .q 10, .q 11])
       (.cond (.t 82)
        (.seq
        (.ops [.op ⟨(some 12), (.mv (.k (.raw (.bool false)))), none⟩,
          .op ⟨(some 13), (.mv (.k (.raw (.int .i64 0)))), none⟩])
        (.ret))
        (.skip))))
      (.ops [.op ⟨(some 69), (.mv (.t 18)), none⟩,
        .op ⟨(some 70), (.bin .add (.t 69) (.k (.raw (.int .i64 1)))), none⟩,
        .op ⟨(some 18), (.mv (.t 70)), none⟩]))))))
    (.seq
    (.ops [.op ⟨(some 83), (.mv (.t 0)), none⟩,
      .op ⟨(some 84), (.mv (.t 0)), none⟩,
      .op ⟨(some 85), (.mv (.t 0)), none⟩,
      .op ⟨(some 86), (.nilCheck (.t 85)), none⟩,
      .op ⟨(some 87), (.fieldAddr 5 (.t 86)), none⟩,
      .op ⟨(some 88), (.load none (.t 87)), none⟩,
      .op ⟨(some 89), (.mv (.t 17)), none⟩,
      .op ⟨(some 90), (.minMax true (.t 88) [(.t 89)]), none⟩,
      .op ⟨(some 91), (.nilCheck (.t 83)), none⟩,
      .op ⟨(some 92), (.fieldAddr 5 (.t 91)), none⟩,
      .op ⟨none, (.store 1 (.t 92) (.t 90)), none⟩,
      .op ⟨(some 93), (.nilCheck (.t 84)), none⟩,
      .op ⟨(some 94), (.fieldAddr 6 (.t 93)), none⟩,
      .op ⟨none, (.store 1 (.t 94) (.k (.raw (.bool true)))), none⟩])
    (.seq
    (.ops [.op ⟨(some 12), (.mv (.k (.raw (.bool true)))), none⟩,
      .op ⟨(some 13), (.mv (.k (.raw (.int .i64 0)))), none⟩])
    (.ret)))))))))),
    [.tmp 12, .tmp 13], 95⟩
theorem c_vigilref17_Fresh__Take : compFn Tryz.prog f_vigilref17_Fresh__Take = some x_vigilref17_Fresh__Take := by kernel_rfl

/- vigil/vigillaw09.Delta -/
def x_vigillaw09_Delta : XFn := ⟨
    .seq
    (.ops [.op ⟨(some 1), (.box (.t 0)), none⟩,
      .op ⟨(some 2), (.alloc [(.int .i64 0), (.int .i64 0), (.int .i64 0), (.int .i64 0), (.slice none 0 0), (.slice none 0 0), (.slice none 0 0), (.slice none 0 0)]), none⟩])
    (.seq
    (.ops [.op ⟨(some 3), (.fieldAddr 0 (.t 1)), none⟩,
      .op ⟨(some 4), (.load (some 4) (.t 3)), none⟩,
      .op ⟨(some 5), (.fieldAddr 4 (.t 1)), none⟩,
      .op ⟨(some 6), (.load (some 4) (.t 5)), none⟩,
      .op ⟨(some 7), (.build [(.int .i64 0), (.int .i64 0), (.int .i64 0), (.int .i64 0), (.slice none 0 0), (.slice none 0 0), (.slice none 0 0), (.slice none 0 0)] [(0, 4, (.t 4)), (4, 4, (.t 6))]), none⟩,
      .op ⟨none, (.store 8 (.t 2) (.t 7)), none⟩])
    (.ret)),
    [.cell 2 (some 8)], 8⟩
theorem c_vigillaw09_Delta : compFn Tryz.prog f_vigillaw09_Delta = some x_vigillaw09_Delta := by kernel_rfl

end Go.Ab
