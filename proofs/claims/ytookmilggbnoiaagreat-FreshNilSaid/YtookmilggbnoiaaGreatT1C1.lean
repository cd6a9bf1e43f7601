/- The code of some functions of the program, resolved, each checked against the program. -/
import Derived.Test.YtookmilggbnoiaaGreatT1F
import Derived.Test.YtookmilggbnoiaaGreatProg
import Derived.KernelRfl
import Derived.Test.YtookmilggbnoiaaGreatAbExec7
set_option linter.unusedSimpArgs false
set_option linter.unusedVariables false
open Go.Proofs
namespace Go.Ab
/- vigil/vigillaw17.tells -/
def x_vigillaw17_tells : XFn := ⟨
    .seq
    (.ops [.op ⟨(some 8), (.mv (.k (.raw (.bool false)))), none⟩])
    (.seq
    (.ops [.op ⟨(some 12), (.mv (.t 0)), none⟩,
      .op ⟨(some 13), (.call f___vigil_fresh_Fresh__Since [(.t 12)]), none⟩,
      .op ⟨(some 11), (.mv (.t 13)), none⟩,
      .op ⟨(some 14), (.extract (.t 11) 0), none⟩,
      .op ⟨(some 15), (.extract (.t 11) 1), none⟩,
      .op ⟨(some 9), (.mv (.t 14)), none⟩,
      .op ⟨(some 10), (.mv (.t 15)), none⟩])
    (.seq
    (.seq
    (.draw [⟨(some 16), (.mv (.t 9)), none⟩,
      ⟨(some 17), (.mv (.t 1)), none⟩,
      ⟨(some 18), (.nilCheck (.t 17)), none⟩,
      ⟨(some 19), (.fieldAddr 5 (.t 18)), none⟩,
      ⟨(some 20), (.load none (.t 19)), none⟩,
      ⟨(some 21), (.bin .neq (.t 16) (.t 20)), none⟩,
      ⟨(some 22), (.mv (.t 21)), none⟩,
      ⟨(some 23), (.mv (.t 10)), (some (22, false))⟩,
      ⟨(some 24), (.mv (.t 1)), (some (22, false))⟩,
      ⟨(some 25), (.nilCheck (.t 24)), (some (22, false))⟩,
      ⟨(some 26), (.fieldAddr 6 (.t 25)), (some (22, false))⟩,
      ⟨(some 27), (.load none (.t 26)), (some (22, false))⟩,
      ⟨(some 28), (.eq .bool true (.t 23) (.t 27)), (some (22, false))⟩,
      ⟨(some 29), (.pick (.t 22) (.k (.raw (.bool true))) (.t 28)), none⟩,
      ⟨(some 30), (.mv (.t 29)), none⟩,
      ⟨(some 31), (.mv (.t 0)), (some (30, false))⟩,
      ⟨(some 32), (.call f___vigil_fresh_Fresh__Set [(.t 31)]), (some (30, false))⟩,
      ⟨(some 33), (.call f___vigil_revoke_Set__Print [(.t 32)]), (some (30, false))⟩,
      ⟨(some 34), (.mv (.t 1)), (some (30, false))⟩,
      ⟨(some 35), (.nilCheck (.t 34)), (some (30, false))⟩,
      ⟨(some 36), (.fieldAddr 0 (.t 35)), (some (30, false))⟩,
      ⟨(some 37), (.call f_vigilref01_Make []), (some (30, false))⟩,
      ⟨(some 38), (.call f_vigilref08_Set__Print [(.t 36), (.t 37)]), (some (30, false))⟩,
      ⟨(some 39), (.eq (.plain [true, true, true, true, true, true, true, true, true, true, true, true, true, true, true, true, true, true, true, true, true, true, true, true, true, true, true, true, true, true, true, true]) true (.t 33) (.t 38)), (some (30, false))⟩,
      ⟨(some 40), (.pick (.t 30) (.k (.raw (.bool true))) (.t 39)), none⟩,
      ⟨(some 41), (.mv (.t 40)), none⟩,
      ⟨(some 42), (.mv (.t 0)), (some (41, false))⟩,
      ⟨(some 43), (.mv (.t 2)), (some (41, false))⟩,
      ⟨(some 44), (.call f___vigil_fresh_Fresh__Open [(.t 42), (.t 43)]), (some (41, false))⟩,
      ⟨(some 45), (.mv (.t 1)), (some (41, false))⟩,
      ⟨(some 46), (.mv (.t 2)), (some (41, false))⟩,
      ⟨(some 47), (.call f_vigilref17_Fresh__Open [(.t 45), (.t 46)]), (some (41, false))⟩,
      ⟨(some 48), (.bin .neq (.t 44) (.t 47)), (some (41, false))⟩,
      ⟨(some 49), (.pick (.t 41) (.k (.raw (.bool true))) (.t 48)), none⟩]
      [[], [], [1], [1, 2], [2, 1, 3], [3, 1, 2, 4, 0], [0, 4, 2, 1, 3, 5], [5, 3, 1, 2, 4, 0, 6], [5, 3, 1, 2, 4, 0, 6], [6, 0, 4, 2, 1, 3, 5, 8], [8, 5, 3, 1, 2, 4, 0, 6, 9], [9, 6, 0, 4, 2, 1, 3, 5, 8, 10], [10, 8, 9, 11, 6, 0, 4, 2, 1, 3, 5, 7], [7, 11, 9, 8, 10, 12, 5, 3, 1, 2, 4, 0, 6], [6, 0, 4, 2, 1, 3, 5, 12, 10, 8, 9, 11, 7, 13], [13, 7, 11, 9, 8, 10, 12, 5, 3, 1, 2, 4, 0, 6, 14], [14, 6, 0, 4, 2, 1, 3, 5, 12, 10, 8, 9, 11, 7, 13, 15], [15, 13, 7, 11, 9, 8, 10, 12, 5, 3, 1, 2, 4, 0, 6, 14, 16], [13, 7, 11, 9, 8, 10, 12, 5, 3, 1, 2, 4, 0, 6, 14], [14, 6, 0, 4, 2, 1, 3, 5, 12, 10, 8, 9, 11, 7, 13, 18], [18, 13, 7, 11, 9, 8, 10, 12, 5, 3, 1, 2, 4, 0, 6, 14, 19], [16, 14, 6, 0, 4, 2, 1, 3, 5, 12, 10, 8, 9, 11, 7, 13, 15, 17], [17, 15, 16, 21, 19, 14, 6, 0, 4, 2, 1, 3, 5, 12, 10, 8, 9, 11, 7, 13, 18, 20], [20, 18, 19, 21, 22, 16, 14, 6, 0, 4, 2, 1, 3, 5, 12, 10, 8, 9, 11, 7, 13, 15, 17], [17, 15, 16, 22, 21, 19, 18, 20, 23, 13, 7, 11, 9, 8, 10, 12, 5, 3, 1, 2, 4, 0, 6, 14], [14, 6, 0, 4, 2, 1, 3, 5, 12, 10, 8, 9, 11, 7, 13, 23, 20, 18, 19, 21, 22, 16, 15, 17, 24], [24, 17, 15, 16, 22, 21, 19, 18, 20, 23, 13, 7, 11, 9, 8, 10, 12, 5, 3, 1, 2, 4, 0, 6, 14, 25], [24, 17, 15, 16, 22, 21, 19, 18, 20, 23, 13, 7, 11, 9, 8, 10, 12, 5, 3, 1, 2, 4, 0, 6, 14, 25], [27, 25, 14, 6, 0, 4, 2, 1, 3, 5, 12, 10, 8, 9, 11, 7, 13, 23, 20, 18, 19, 21, 22, 16, 15, 17, 24, 26], [24, 17, 15, 16, 22, 21, 19, 18, 20, 23, 13, 7, 11, 9, 8, 10, 12, 5, 3, 1, 2, 4, 0, 6, 14, 25], [24, 17, 15, 16, 22, 21, 19, 18, 20, 23, 13, 7, 11, 9, 8, 10, 12, 5, 3, 1, 2, 4, 0, 6, 14, 25], [26, 27, 28, 30, 25, 14, 6, 0, 4, 2, 1, 3, 5, 12, 10, 8, 9, 11, 7, 13, 23, 20, 18, 19, 21, 22, 16, 15, 17, 24, 29], [29, 30, 31, 26, 24, 17, 15, 16, 22, 21, 19, 18, 20, 23, 13, 7, 11, 9, 8, 10, 12, 5, 3, 1, 2, 4, 0, 6, 14, 25, 27, 28], [28, 27, 26, 31, 30, 29, 32, 24, 17, 15, 16, 22, 21, 19, 18, 20, 23, 13, 7, 11, 9, 8, 10, 12, 5, 3, 1, 2, 4, 0, 6, 14, 25]]
      [.q 0, .q 1, .q 2, .q 3, .q 4, .q 5, .q 6, .split 22, .q 7, .q 8, .q 9, .q 10, .q 11, .q 12, .q 13, .q 14, .split 30, .q 15, .q 18, .q 19, .q 20, .eff 16, .eff 17, .eff 21, .eff 22, .q 23, .q 24, .q 25, .split 41, .q 26, .q 27, .q 29, .q 30, .eff 28, .eff 31, .q 32, .q 33])
    (.cond (.t 49)
     (.seq
     (.ops [.op ⟨(some 8), (.mv (.k (.raw (.bool false)))), none⟩])
     (.ret))
     (.skip)))
    (.seq
    (.draw [⟨(some 50), (.mv (.t 0)), none⟩,
      ⟨(some 51), (.mv (.t 2)), none⟩,
      ⟨(some 52), (.mv (.t 3)), none⟩,
      ⟨(some 53), (.call f___vigil_fresh_Fresh__Is [(.t 50), (.t 51), (.t 52)]), none⟩,
      ⟨(some 54), (.mv (.t 1)), none⟩,
      ⟨(some 55), (.nilCheck (.t 54)), none⟩,
      ⟨(some 56), (.fieldAddr 6 (.t 55)), none⟩,
      ⟨(some 57), (.load none (.t 56)), none⟩,
      ⟨(some 58), (.mv (.t 57)), none⟩,
      ⟨(some 59), (.mv (.t 3)), (some (58, true))⟩,
      ⟨(some 60), (.bin .geq (.t 59) (.k (.raw (.int .i64 0)))), (some (58, true))⟩,
      ⟨(some 61), (.pick (.t 58) (.t 60) (.k (.raw (.bool false)))), none⟩,
      ⟨(some 62), (.mv (.t 61)), none⟩,
      ⟨(some 63), (.mv (.t 2)), (some (62, true))⟩,
      ⟨(some 64), (.mv (.t 1)), (some (62, true))⟩,
      ⟨(some 65), (.nilCheck (.t 64)), (some (62, true))⟩,
      ⟨(some 66), (.fieldAddr 5 (.t 65)), (some (62, true))⟩,
      ⟨(some 67), (.load none (.t 66)), (some (62, true))⟩,
      ⟨(some 68), (.bin .sub (.t 63) (.t 67)), (some (62, true))⟩,
      ⟨(some 69), (.mv (.t 3)), (some (62, true))⟩,
      ⟨(some 70), (.bin .leq (.t 68) (.t 69)), (some (62, true))⟩,
      ⟨(some 71), (.pick (.t 62) (.t 70) (.k (.raw (.bool false)))), none⟩,
      ⟨(some 72), (.eq .bool false (.t 53) (.t 71)), none⟩,
      ⟨(some 8), (.mv (.t 72)), none⟩]
      [[], [], [], [2, 1, 0], [], [4], [4, 5], [5, 4, 6], [0, 1, 2, 3, 6, 4, 5, 7], [7, 5, 4, 6, 3, 2, 1, 0, 8], [8, 0, 1, 2, 3, 6, 4, 5, 7, 9], [9, 10, 7, 5, 4, 6, 3, 2, 1, 0, 8], [8, 0, 1, 2, 3, 6, 4, 5, 7, 10, 9, 11], [11, 9, 10, 7, 5, 4, 6, 3, 2, 1, 0, 8, 12], [11, 9, 10, 7, 5, 4, 6, 3, 2, 1, 0, 8, 12], [12, 8, 0, 1, 2, 3, 6, 4, 5, 7, 10, 9, 11, 14], [14, 11, 9, 10, 7, 5, 4, 6, 3, 2, 1, 0, 8, 12, 15], [15, 12, 8, 0, 1, 2, 3, 6, 4, 5, 7, 10, 9, 11, 14, 16], [16, 14, 15, 17, 12, 8, 0, 1, 2, 3, 6, 4, 5, 7, 10, 9, 11, 13], [11, 9, 10, 7, 5, 4, 6, 3, 2, 1, 0, 8, 12], [19, 13, 11, 9, 10, 7, 5, 4, 6, 3, 2, 1, 0, 8, 12, 17, 15, 14, 16, 18], [18, 16, 14, 15, 17, 13, 19, 20, 11, 9, 10, 7, 5, 4, 6, 3, 2, 1, 0, 8, 12], [12, 8, 6, 4, 5, 7, 10, 9, 11, 20, 19, 13, 17, 15, 14, 16, 18, 21, 0, 1, 2, 3], [3, 2, 1, 0, 21, 18, 16, 14, 15, 17, 13, 19, 20, 11, 9, 10, 7, 5, 4, 6, 8, 12, 22]]
      [.q 0, .q 1, .q 2, .q 4, .q 5, .q 6, .q 7, .eff 3, .q 8, .split 58, .q 9, .q 10, .q 11, .q 12, .split 62, .q 13, .q 14, .q 15, .q 16, .q 17, .q 18, .q 19, .q 20, .q 21, .q 22, .q 23])
    (.ret)))),
    [.tmp 8], 73⟩
theorem c_vigillaw17_tells : compFn Tryz.prog f_vigillaw17_tells = some x_vigillaw17_tells := by kernel_rfl

/- vigil/revoke.New -/
def x_vigil_revoke_New : XFn := ⟨
    .seq
    (.ops [.op ⟨(some 0), (.mv (.k (.raw (.pointer none)))), none⟩])
    (.seq
    (.ops [.op ⟨(some 1), (.build [(.slice none 0 0), (.slice none 0 0), (.slice none 0 0), (.slice none 0 0)] []), none⟩,
      .op ⟨(some 2), (.box (.t 1)), none⟩,
      .op ⟨(some 0), (.mv (.t 2)), none⟩])
    (.ret)),
    [.tmp 0], 3⟩
theorem c_vigil_revoke_New : compFn Tryz.prog f_vigil_revoke_New = some x_vigil_revoke_New := by kernel_rfl

/- (*vigil/revoke.Set).All -/
def x___vigil_revoke_Set__All : XFn := ⟨
    .seq
    (.ops [.op ⟨(some 2), (.mv (.k (.raw (.slice none 0 0)))), none⟩])
    (.seq
    (.ops [.op ⟨(some 3), (.mv (.k (.raw (.slice none 0 0)))), none⟩])
    (.seq
    (.seq
    (.ops [.op ⟨(some 5), (.mv (.k (.raw (.int .i64 0)))), none⟩])
    (.block 0
     (.loop
      (.seq
      (.ops [.op ⟨(some 6), (.bin .lss (.t 5) (.k (.raw (.int .i64 4)))), none⟩])
      (.seq
      (.cond (.t 6)
       (.skip)
       (.exit 0))
      (.seq
      (.block 1
       (.seq
       (.ops [.op ⟨(some 7), (.mv (.t 5)), none⟩,
         .op ⟨(some 4), (.mv (.t 7)), none⟩])
       (.ops [.op ⟨(some 8), (.mv (.t 3)), none⟩,
         .op ⟨(some 9), (.mv (.t 0)), none⟩,
         .op ⟨(some 10), (.mv (.t 4)), none⟩,
         .op ⟨(some 11), (.call f___vigil_revoke_Set__Log [(.t 9), (.t 10)]), none⟩,
         .op ⟨(some 12), (.append 1 8 (.t 8) (.t 11)), none⟩,
         .op ⟨(some 3), (.mv (.t 12)), none⟩])))
      (.ops [.op ⟨(some 13), (.bin .add (.t 5) (.k (.raw (.int .i64 1)))), none⟩,
        .op ⟨(some 5), (.mv (.t 13)), none⟩])))))))
    (.seq
    (.ops [.op ⟨(some 14), (.mv (.t 3)), none⟩,
      .op ⟨(some 15), (.call f_slices_Sort___int_int_ [(.t 14)]), none⟩])
    (.seq
    (.ops [.op ⟨(some 16), (.mv (.t 3)), none⟩,
      .op ⟨(some 17), (.call f_slices_Compact___int_int_ [(.t 16)]), none⟩,
      .op ⟨(some 2), (.mv (.t 17)), none⟩])
    (.ret))))),
    [.tmp 2], 18⟩
theorem c___vigil_revoke_Set__All : compFn Tryz.prog f___vigil_revoke_Set__All = some x___vigil_revoke_Set__All := by kernel_rfl

/- (*vigil/revoke.Set).Has -/
def x___vigil_revoke_Set__Has : XFn := ⟨
    .seq
    (.ops [.op ⟨(some 4), (.mv (.k (.raw (.bool false)))), none⟩])
    (.seq
    (.ops [.op ⟨(some 5), (.mv (.t 0)), none⟩,
      .op ⟨(some 6), (.call f___vigil_revoke_Set__All [(.t 5)]), none⟩,
      .op ⟨(some 7), (.mv (.t 1)), none⟩,
      .op ⟨(some 8), (.call f_slices_Contains___int_int_ [(.t 6), (.t 7)]), none⟩,
      .op ⟨(some 4), (.mv (.t 8)), none⟩])
    (.ret)),
    [.tmp 4], 9⟩
theorem c___vigil_revoke_Set__Has : compFn Tryz.prog f___vigil_revoke_Set__Has = some x___vigil_revoke_Set__Has := by kernel_rfl

/- (*vigil/fresh.Fresh).check -/
def x___vigil_fresh_Fresh__check : XFn := ⟨
    .seq
    (.ops [.op ⟨(some 6), (.mv (.k (.raw (.int .i64 0)))), none⟩])
    (.seq
    (.block 0
     (.seq
     (.ops [.op ⟨(some 8), (.mv (.t 0)), none⟩,
       .op ⟨(some 9), (.eq .ptr false (.t 8) (.k (.raw (.pointer none)))), none⟩,
       .op ⟨(some 7), (.mv (.t 9)), none⟩])
     (.cond (.t 7)
      (.seq
      (.ops [.op ⟨(some 6), (.mv (.k (.raw (.int .i64 11)))), none⟩])
      (.ret))
      (.seq
      (.ops [.op ⟨(some 11), (.mv (.t 1)), none⟩,
        .op ⟨(some 12), (.bin .lss (.t 11) (.k (.raw (.int .i64 0)))), none⟩,
        .op ⟨(some 13), (.mv (.t 12)), none⟩,
        .split 13,
        .op ⟨(some 14), (.mv (.t 1)), (some (13, false))⟩,
        .op ⟨(some 15), (.bin .geq (.t 14) (.k (.raw (.int .i64 4)))), (some (13, false))⟩,
        .op ⟨(some 16), (.pick (.t 13) (.k (.raw (.bool true))) (.t 15)), none⟩,
        .op ⟨(some 17), (.mv (.t 16)), none⟩,
        .split 17,
        .op ⟨(some 18), (.mv (.t 2)), (some (17, false))⟩,
        .op ⟨(some 19), (.bin .lss (.t 18) (.k (.raw (.int .i64 0)))), (some (17, false))⟩,
        .op ⟨(some 20), (.pick (.t 17) (.k (.raw (.bool true))) (.t 19)), none⟩,
        .op ⟨(some 21), (.mv (.t 20)), none⟩,
        .split 21,
        .op ⟨(some 22), (.mv (.t 2)), (some (21, false))⟩,
        .op ⟨(some 23), (.bin .gtr (.t 22) (.k (.raw (.int .i64 1073741824)))), (some (21, false))⟩,
        .op ⟨(some 24), (.pick (.t 21) (.k (.raw (.bool true))) (.t 23)), none⟩,
        .op ⟨(some 10), (.mv (.t 24)), none⟩])
      (.cond (.t 10)
       (.seq
       (.ops [.op ⟨(some 6), (.mv (.k (.raw (.int .i64 10)))), none⟩])
       (.ret))
       (.skip))))))
    (.seq
    (.ops [.op ⟨(some 6), (.mv (.k (.raw (.int .i64 0)))), none⟩])
    (.ret))),
    [.tmp 6], 25⟩
theorem c___vigil_fresh_Fresh__check : compFn Tryz.prog f___vigil_fresh_Fresh__check = some x___vigil_fresh_Fresh__check := by kernel_rfl

/- slices.DeleteFunc[[]vigil/fresh.ask,vigil/fresh.ask] -/
def x_slices_DeleteFunc___vigil_fresh_ask_vigil_fresh_ask_ : XFn := ⟨
    .seq
    (.ops [.op ⟨(some 4), (.mv (.k (.raw (.slice none 0 0)))), none⟩])
    (.seq
    (.ops [.op ⟨(some 8), (.mv (.t 0)), none⟩,
      .op ⟨(some 9), (.mv (.t 1)), none⟩,
      .op ⟨(some 10), (.call f_slices_IndexFunc___vigil_fresh_ask_vigil_fresh_ask_ [(.t 8), (.t 9)]), none⟩,
      .op ⟨(some 5), (.mv (.t 10)), none⟩])
    (.seq
    (.seq
    (.ops [.op ⟨(some 11), (.mv (.t 5)), none⟩,
      .op ⟨(some 12), (.bin .eql (.t 11) (.k (.raw (.int .i64 (-1))))), none⟩])
    (.cond (.t 12)
     (.seq
     (.ops [.op ⟨(some 13), (.mv (.t 0)), none⟩,
       .op ⟨(some 4), (.mv (.t 13)), none⟩])
     (.ret))
     (.skip)))
    (.seq
    (.seq
    (.ops [.op ⟨(some 14), (.mv (.t 5)), none⟩,
      .op ⟨(some 15), (.bin .add (.t 14) (.k (.raw (.int .i64 1)))), none⟩,
      .op ⟨(some 6), (.mv (.t 15)), none⟩])
    (.block 0
     (.loop
      (.seq
      (.seq
      (.ops [.op ⟨(some 16), (.mv (.t 6)), none⟩,
        .op ⟨(some 17), (.mv (.t 0)), none⟩,
        .op ⟨(some 18), (.len (.t 17)), none⟩,
        .op ⟨(some 19), (.bin .lss (.t 16) (.t 18)), none⟩])
      (.cond (.t 19)
       (.skip)
       (.exit 0)))
      (.seq
      (.block 1
       (.seq
       (.ops [.op ⟨(some 22), (.mv (.t 0)), none⟩,
         .op ⟨(some 23), (.mv (.t 6)), none⟩,
         .op ⟨(some 24), (.idxAddr 10 (.t 22) (.t 23)), none⟩,
         .op ⟨(some 25), (.load (some 10) (.t 24)), none⟩,
         .op ⟨(some 7), (.alloc [(.int .i64 0), (.int .i64 0), (.int .u8 0), (.int .u8 0), (.int .u8 0), (.int .u8 0), (.int .u8 0), (.int .u8 0), (.int .u8 0), (.int .u8 0)]), none⟩,
         .op ⟨none, (.store 10 (.t 7) (.t 25)), none⟩])
       (.seq
       (.ops [.op ⟨(some 26), (.mv (.t 1)), none⟩,
         .op ⟨(some 27), (.load (some 10) (.t 7)), none⟩,
         .op ⟨(some 28), (.callv (.t 26) [(.t 27)]), none⟩,
         .op ⟨(some 29), (.un .not (.t 28)), none⟩])
       (.cond (.t 29)
        (.seq
        (.ops [.op ⟨(some 30), (.mv (.t 0)), none⟩,
          .op ⟨(some 31), (.mv (.t 5)), none⟩,
          .op ⟨(some 32), (.load (some 10) (.t 7)), none⟩,
          .op ⟨(some 33), (.idxAddr 10 (.t 30) (.t 31)), none⟩,
          .op ⟨none, (.store 10 (.t 33) (.t 32)), none⟩])
        (.ops [.op ⟨(some 34), (.mv (.t 5)), none⟩,
          .op ⟨(some 35), (.bin .add (.t 34) (.k (.raw (.int .i64 1)))), none⟩,
          .op ⟨(some 5), (.mv (.t 35)), none⟩]))
        (.skip)))))
      (.ops [.op ⟨(some 20), (.mv (.t 6)), none⟩,
        .op ⟨(some 21), (.bin .add (.t 20) (.k (.raw (.int .i64 1)))), none⟩,
        .op ⟨(some 6), (.mv (.t 21)), none⟩]))))))
    (.seq
    (.ops [.op ⟨(some 36), (.mv (.t 0)), none⟩,
      .op ⟨(some 37), (.mv (.t 5)), none⟩,
      .op ⟨(some 38), (.slice 10 (.t 36) (some (.t 37)) none none), none⟩,
      .op ⟨none, (.clear [(.int .i64 0), (.int .i64 0), (.int .u8 0), (.int .u8 0), (.int .u8 0), (.int .u8 0), (.int .u8 0), (.int .u8 0), (.int .u8 0), (.int .u8 0)] (.t 38)), none⟩])
    (.seq
    (.ops [.op ⟨(some 39), (.mv (.t 0)), none⟩,
      .op ⟨(some 40), (.mv (.t 5)), none⟩,
      .op ⟨(some 41), (.slice 10 (.t 39) none (some (.t 40)) none), none⟩,
      .op ⟨(some 4), (.mv (.t 41)), none⟩])
    (.ret)))))),
    [.tmp 4], 42⟩
theorem c_slices_DeleteFunc___vigil_fresh_ask_vigil_fresh_ask_ : compFn Tryz.prog f_slices_DeleteFunc___vigil_fresh_ask_vigil_fresh_ask_ = some x_slices_DeleteFunc___vigil_fresh_ask_vigil_fresh_ask_ := by kernel_rfl

/- (*vigil/fresh.Fresh).Ask$1 -/
def x___vigil_fresh_Fresh__Ask_1 : XFn := ⟨
    .seq
    (.ops [.op ⟨(some 2), (.box (.t 0)), none⟩,
      .op ⟨(some 3), (.mv (.k (.raw (.bool false)))), none⟩])
    (.seq
    (.ops [.op ⟨(some 4), (.load (some 10) (.t 2)), none⟩,
      .op ⟨(some 5), (.load none (.t 1)), none⟩,
      .op ⟨(some 6), (.call f__vigil_fresh_ask__open [(.t 4), (.t 5)]), none⟩,
      .op ⟨(some 7), (.un .not (.t 6)), none⟩,
      .op ⟨(some 3), (.mv (.t 7)), none⟩])
    (.ret)),
    [.tmp 3], 8⟩
theorem c___vigil_fresh_Fresh__Ask_1 : compFn Tryz.prog f___vigil_fresh_Fresh__Ask_1 = some x___vigil_fresh_Fresh__Ask_1 := by kernel_rfl

/- (vigil/fresh.ask).open -/
def x__vigil_fresh_ask__open : XFn := ⟨
    .seq
    (.ops [.op ⟨(some 2), (.box (.t 0)), none⟩,
      .op ⟨(some 4), (.mv (.k (.raw (.bool false)))), none⟩])
    (.seq
    (.ops [.op ⟨(some 5), (.fieldAddr 1 (.t 2)), none⟩,
      .op ⟨(some 6), (.load none (.t 5)), none⟩,
      .op ⟨(some 7), (.mv (.t 1)), none⟩,
      .op ⟨(some 8), (.bin .sub (.t 7) (.k (.raw (.int .i64 64)))), none⟩,
      .op ⟨(some 9), (.bin .gtr (.t 6) (.t 8)), none⟩,
      .op ⟨(some 4), (.mv (.t 9)), none⟩])
    (.ret)),
    [.tmp 4], 10⟩
theorem c__vigil_fresh_ask__open : compFn Tryz.prog f__vigil_fresh_ask__open = some x__vigil_fresh_ask__open := by kernel_rfl

/- (*vigil/fresh.Fresh).find -/
def x___vigil_fresh_Fresh__find : XFn := ⟨
    .seq
    (.ops [.op ⟨(some 5), (.box (.t 1)), none⟩,
      .op ⟨(some 6), (.box (.t 2)), none⟩,
      .op ⟨(some 7), (.box (.t 3)), none⟩,
      .op ⟨(some 8), (.mv (.k (.raw (.int .i64 0)))), none⟩])
    (.seq
    (.ops [.op ⟨(some 9), (.mv (.t 0)), none⟩,
      .op ⟨(some 10), (.nilCheck (.t 9)), none⟩,
      .op ⟨(some 11), (.fieldAddr 1 (.t 10)), none⟩,
      .op ⟨(some 12), (.load none (.t 11)), none⟩,
      .op ⟨(some 13), (.mkFunc (.func f___vigil_fresh_Fresh__find_1) [] [(.t 5), (.t 6), (.t 7)]), none⟩,
      .op ⟨(some 14), (.call f_slices_IndexFunc___vigil_fresh_ask_vigil_fresh_ask_ [(.t 12), (.t 13)]), none⟩,
      .op ⟨(some 8), (.mv (.t 14)), none⟩])
    (.ret)),
    [.tmp 8], 15⟩
theorem c___vigil_fresh_Fresh__find : compFn Tryz.prog f___vigil_fresh_Fresh__find = some x___vigil_fresh_Fresh__find := by kernel_rfl

/- (*vigil/revoke.Set).Versions -/
def x___vigil_revoke_Set__Versions : XFn := ⟨
    .seq
    (.ops [.op ⟨(some 2), (.alloc [(.int .i64 0), (.int .i64 0), (.int .i64 0), (.int .i64 0)]), none⟩])
    (.seq
    (.ops [.op ⟨(some 3), (.alloc [(.int .i64 0), (.int .i64 0), (.int .i64 0), (.int .i64 0)]), none⟩])
    (.seq
    (.seq
    (.ops [.op ⟨(some 5), (.mv (.k (.raw (.int .i64 0)))), none⟩])
    (.block 0
     (.loop
      (.seq
      (.ops [.op ⟨(some 6), (.bin .lss (.t 5) (.k (.raw (.int .i64 4)))), none⟩])
      (.seq
      (.cond (.t 6)
       (.skip)
       (.exit 0))
      (.seq
      (.block 1
       (.seq
       (.ops [.op ⟨(some 7), (.mv (.t 5)), none⟩,
         .op ⟨(some 4), (.mv (.t 7)), none⟩])
       (.ops [.op ⟨(some 8), (.mv (.t 4)), none⟩,
         .op ⟨(some 9), (.mv (.t 0)), none⟩,
         .op ⟨(some 10), (.mv (.t 4)), none⟩,
         .op ⟨(some 11), (.call f___vigil_revoke_Set__Log [(.t 9), (.t 10)]), none⟩,
         .op ⟨(some 12), (.len (.t 11)), none⟩,
         .op ⟨(some 13), (.idxAddrArr 4 1 (.t 3) (.t 8)), none⟩,
         .op ⟨none, (.store 1 (.t 13) (.t 12)), none⟩])))
      (.ops [.op ⟨(some 14), (.bin .add (.t 5) (.k (.raw (.int .i64 1)))), none⟩,
        .op ⟨(some 5), (.mv (.t 14)), none⟩])))))))
    (.seq
    (.ops [.op ⟨(some 15), (.load (some 4) (.t 3)), none⟩,
      .op ⟨none, (.store 4 (.t 2) (.t 15)), none⟩])
    (.ret)))),
    [.cell 2 (some 4)], 16⟩
theorem c___vigil_revoke_Set__Versions : compFn Tryz.prog f___vigil_revoke_Set__Versions = some x___vigil_revoke_Set__Versions := by kernel_rfl

/- slices.Concat[[]byte,byte] -/
def x_slices_Concat___byte_byte_ : XFn := ⟨
    .seq
    (.ops [.op ⟨(some 2), (.mv (.k (.raw (.slice none 0 0)))), none⟩])
    (.seq
    (.ops [.op ⟨(some 3), (.mv (.k (.raw (.int .i64 0)))), none⟩])
    (.seq
    (.seq
    (.ops [.op ⟨(some 9), (.mv (.t 0)), none⟩,
      .op ⟨(some 10), (.len (.t 9)), none⟩,
      .op ⟨(some 11), (.mv (.k (.raw (.int .i64 0)))), none⟩])
    (.block 0
     (.loop
      (.seq
      (.ops [.op ⟨(some 12), (.bin .lss (.t 11) (.t 10)), none⟩])
      (.seq
      (.cond (.t 12)
       (.skip)
       (.exit 0))
      (.seq
      (.block 1
       (.seq
       (.ops [.op ⟨(some 13), (.idxAddr 1 (.t 9) (.t 11)), none⟩,
         .op ⟨(some 14), (.load none (.t 13)), none⟩,
         .op ⟨(some 5), (.mv (.t 14)), none⟩])
       (.seq
       (.ops [.op ⟨(some 15), (.mv (.t 3)), none⟩,
         .op ⟨(some 16), (.mv (.t 5)), none⟩,
         .op ⟨(some 17), (.len (.t 16)), none⟩,
         .op ⟨(some 18), (.bin .add (.t 15) (.t 17)), none⟩,
         .op ⟨(some 3), (.mv (.t 18)), none⟩])
       (.seq
       (.ops [.op ⟨(some 19), (.mv (.t 3)), none⟩,
         .op ⟨(some 20), (.bin .lss (.t 19) (.k (.raw (.int .i64 0)))), none⟩])
       (.cond (.t 20)
        (.ops [.op ⟨(some 21), .die, none⟩,
          .op ⟨none, .die, none⟩])
        (.skip))))))
      (.ops [.op ⟨(some 22), (.bin .add (.t 11) (.k (.raw (.int .i64 1)))), none⟩,
        .op ⟨(some 11), (.mv (.t 22)), none⟩])))))))
    (.seq
    (.ops [.op ⟨(some 23), (.mv (.t 3)), none⟩,
      .op ⟨(some 24), (.call f_slices_Grow___byte_byte_ [(.k (.raw (.slice none 0 0))), (.t 23)]), none⟩,
      .op ⟨(some 6), (.mv (.t 24)), none⟩])
    (.seq
    (.seq
    (.ops [.op ⟨(some 25), (.mv (.t 0)), none⟩,
      .op ⟨(some 26), (.len (.t 25)), none⟩,
      .op ⟨(some 27), (.mv (.k (.raw (.int .i64 0)))), none⟩])
    (.block 2
     (.loop
      (.seq
      (.ops [.op ⟨(some 28), (.bin .lss (.t 27) (.t 26)), none⟩])
      (.seq
      (.cond (.t 28)
       (.skip)
       (.exit 2))
      (.seq
      (.block 3
       (.seq
       (.ops [.op ⟨(some 29), (.idxAddr 1 (.t 25) (.t 27)), none⟩,
         .op ⟨(some 30), (.load none (.t 29)), none⟩,
         .op ⟨(some 8), (.mv (.t 30)), none⟩])
       (.ops [.op ⟨(some 31), (.mv (.t 6)), none⟩,
         .op ⟨(some 32), (.mv (.t 8)), none⟩,
         .op ⟨(some 33), (.append 1 1 (.t 31) (.t 32)), none⟩,
         .op ⟨(some 6), (.mv (.t 33)), none⟩])))
      (.ops [.op ⟨(some 34), (.bin .add (.t 27) (.k (.raw (.int .i64 1)))), none⟩,
        .op ⟨(some 27), (.mv (.t 34)), none⟩])))))))
    (.seq
    (.ops [.op ⟨(some 35), (.mv (.t 6)), none⟩,
      .op ⟨(some 2), (.mv (.t 35)), none⟩])
    (.ret)))))),
    [.tmp 2], 36⟩
theorem c_slices_Concat___byte_byte_ : compFn Tryz.prog f_slices_Concat___byte_byte_ = some x_slices_Concat___byte_byte_ := by kernel_rfl

/- vigil/fresh.numbers -/
def x_vigil_fresh_numbers : XFn := ⟨
    .seq
    (.ops [.op ⟨(some 2), (.mv (.k (.raw (.slice none 0 0)))), none⟩])
    (.seq
    (.ops [.op ⟨(some 3), (.alloc [(.slice none 0 0), (.int .i64 0)]), none⟩])
    (.seq
    (.ops [.op ⟨(some 7), (.mv (.t 0)), none⟩,
      .op ⟨(some 8), (.call f___vigil_wire_Writer__Number [(.t 3), (.k (.raw (.int .i64 1))), (.t 7)]), none⟩,
      .op ⟨(some 9), (.call f___vigil_wire_Writer__Out [(.t 8)]), none⟩,
      .op ⟨(some 6), (.mv (.t 9)), none⟩,
      .op ⟨(some 10), (.extract (.t 6) 0), none⟩,
      .op ⟨(some 11), (.extract (.t 6) 1), none⟩,
      .op ⟨(some 4), (.mv (.t 10)), none⟩,
      .op ⟨(some 5), (.mv (.t 11)), none⟩])
    (.seq
    (.ops [.op ⟨(some 12), (.mv (.t 4)), none⟩,
      .op ⟨(some 2), (.mv (.t 12)), none⟩])
    (.ret)))),
    [.tmp 2], 13⟩
theorem c_vigil_fresh_numbers : compFn Tryz.prog f_vigil_fresh_numbers = some x_vigil_fresh_numbers := by kernel_rfl

/- (*vigil/revoke.Set).Apply -/
def x___vigil_revoke_Set__Apply : XFn := ⟨
    .seq
    (.ops [.op ⟨(some 3), (.box (.t 1)), none⟩,
      .op ⟨(some 4), (.mv (.k (.raw (.int .i64 0)))), none⟩,
      .op ⟨(some 5), (.mv (.k (.raw (.int .i64 0)))), none⟩])
    (.seq
    (.seq
    (.ops [.op ⟨(some 13), (.mv (.t 0)), none⟩,
      .op ⟨(some 14), (.eq .ptr false (.t 13) (.k (.raw (.pointer none)))), none⟩])
    (.cond (.t 14)
     (.seq
     (.ops [.op ⟨(some 4), (.mv (.k (.raw (.int .i64 0)))), none⟩,
       .op ⟨(some 5), (.mv (.k (.raw (.int .i64 11)))), none⟩])
     (.ret))
     (.skip)))
    (.seq
    (.seq
    (.ops [.op ⟨(some 15), (.load (some 8) (.t 3)), none⟩,
      .op ⟨(some 16), (.call f__vigil_revoke_Delta__check [(.t 15)]), none⟩,
      .op ⟨(some 6), (.mv (.t 16)), none⟩])
    (.seq
    (.ops [.op ⟨(some 17), (.mv (.t 6)), none⟩,
      .op ⟨(some 18), (.bin .neq (.t 17) (.k (.raw (.int .i64 0)))), none⟩])
    (.cond (.t 18)
     (.seq
     (.ops [.op ⟨(some 19), (.mv (.t 6)), none⟩,
       .op ⟨(some 4), (.mv (.k (.raw (.int .i64 0)))), none⟩,
       .op ⟨(some 5), (.mv (.t 19)), none⟩])
     (.ret))
     (.skip))))
    (.seq
    (.seq
    (.draw [⟨(some 20), (.mv (.t 0)), none⟩,
      ⟨(some 21), (.call f___vigil_revoke_Set__Versions [(.t 20)]), none⟩,
      ⟨(some 22), (.fieldAddr 0 (.t 3)), none⟩,
      ⟨(some 23), (.load (some 4) (.t 22)), none⟩,
      ⟨(some 24), (.call f_vigil_revoke_Covers [(.t 21), (.t 23)]), none⟩,
      ⟨(some 25), (.un .not (.t 24)), none⟩]
      [[], [0], [], [2], [2, 3, 0, 1], [1, 0, 3, 2, 4]]
      [.q 0, .q 2, .q 3, .eff 1, .eff 4, .q 5])
    (.cond (.t 25)
     (.seq
     (.ops [.op ⟨(some 4), (.mv (.k (.raw (.int .i64 0)))), none⟩,
       .op ⟨(some 5), (.mv (.k (.raw (.int .i64 9)))), none⟩])
     (.ret))
     (.skip)))
    (.seq
    (.ops [.op ⟨(some 26), (.call f_vigil_revoke_New []), none⟩,
      .op ⟨(some 7), (.mv (.t 26)), none⟩,
      .op ⟨(some 8), (.mv (.k (.raw (.int .i64 0)))), none⟩,
      .op ⟨(some 9), (.mv (.k (.raw (.bool false)))), none⟩])
    (.seq
    (.seq
    (.ops [.op ⟨(some 27), (.mv (.k (.raw (.int .i64 0)))), none⟩])
    (.block 0
     (.loop
      (.seq
      (.ops [.op ⟨(some 28), (.bin .lss (.t 27) (.k (.raw (.int .i64 4)))), none⟩])
      (.seq
      (.cond (.t 28)
       (.skip)
       (.exit 0))
      (.seq
      (.block 1
       (.seq
       (.ops [.op ⟨(some 29), (.mv (.t 27)), none⟩,
         .op ⟨(some 10), (.mv (.t 29)), none⟩])
       (.seq
       (.draw [⟨(some 31), (.mv (.t 0)), none⟩,
         ⟨(some 32), (.mv (.t 10)), none⟩,
         ⟨(some 33), (.nilCheck (.t 31)), none⟩,
         ⟨(some 34), (.fieldAddr 0 (.t 33)), none⟩,
         ⟨(some 35), (.idxAddrArr 4 1 (.t 34) (.t 32)), none⟩,
         ⟨(some 36), (.load none (.t 35)), none⟩,
         ⟨(some 37), (.mv (.t 10)), none⟩,
         ⟨(some 38), (.fieldAddr 0 (.t 3)), none⟩,
         ⟨(some 39), (.idxAddrArr 4 1 (.t 38) (.t 37)), none⟩,
         ⟨(some 40), (.load none (.t 39)), none⟩,
         ⟨(some 41), (.mv (.t 10)), none⟩,
         ⟨(some 42), (.fieldAddr 4 (.t 3)), none⟩,
         ⟨(some 43), (.idxAddrArr 4 1 (.t 42) (.t 41)), none⟩,
         ⟨(some 44), (.load none (.t 43)), none⟩,
         ⟨(some 45), (.call f_vigil_revoke_joined [(.t 36), (.t 40), (.t 44)]), none⟩,
         ⟨(some 30), (.mv (.t 45)), none⟩,
         ⟨(some 46), (.extract (.t 30) 0), none⟩,
         ⟨(some 47), (.extract (.t 30) 1), none⟩,
         ⟨(some 11), (.mv (.t 46)), none⟩,
         ⟨(some 12), (.mv (.t 47)), none⟩]
         [[], [], [0], [0, 2], [1, 2, 0, 3], [3, 0, 2, 1, 4], [], [], [6, 7], [7, 6, 8], [], [], [10, 11], [11, 10, 12], [12, 10, 11, 13, 8, 6, 7, 9, 4, 1, 2, 0, 3, 5], [5, 3, 0, 2, 1, 4, 9, 7, 6, 8, 13, 11, 10, 12, 14], [14, 12, 10, 11, 13, 8, 6, 7, 9, 4, 1, 2, 0, 3, 5, 15], [14, 12, 10, 11, 13, 8, 6, 7, 9, 4, 1, 2, 0, 3, 5, 15], [15, 5, 3, 0, 2, 1, 4, 9, 7, 6, 8, 13, 11, 10, 12, 14, 16], [16, 18, 15, 5, 3, 0, 2, 1, 4, 9, 7, 6, 8, 13, 11, 10, 12, 14, 17]]
         [.q 0, .q 1, .q 2, .q 3, .q 4, .q 5, .q 6, .q 7, .q 8, .q 9, .q 10, .q 11, .q 12, .q 13, .eff 14, .q 15, .q 16, .q 17, .q 18, .q 19])
       (.seq
       (.seq
       (.ops [.op ⟨(some 48), (.mv (.t 12)), none⟩])
       (.block 2
        (.seq
        (.ops [.op ⟨(some 50), (.bin .eql (.t 48) (.k (.raw (.int .i64 3)))), none⟩,
          .op ⟨(some 49), (.mv (.t 50)), none⟩])
        (.cond (.t 49)
         (.seq
         (.ops [.op ⟨(some 51), (.mv (.t 12)), none⟩,
           .op ⟨(some 4), (.mv (.k (.raw (.int .i64 0)))), none⟩,
           .op ⟨(some 5), (.mv (.t 51)), none⟩])
         (.ret))
         (.seq
         (.ops [.op ⟨(some 53), (.bin .eql (.t 48) (.k (.raw (.int .i64 6)))), none⟩,
           .op ⟨(some 52), (.mv (.t 53)), none⟩])
         (.cond (.t 52)
          (.ops [.op ⟨(some 9), (.mv (.k (.raw (.bool true)))), none⟩])
          (.skip)))))))
       (.seq
       (.ops [.op ⟨(some 54), (.mv (.t 7)), none⟩,
         .op ⟨(some 55), (.mv (.t 10)), none⟩,
         .op ⟨(some 56), (.mv (.t 11)), none⟩,
         .op ⟨(some 57), (.nilCheck (.t 54)), none⟩,
         .op ⟨(some 58), (.fieldAddr 0 (.t 57)), none⟩,
         .op ⟨(some 59), (.idxAddrArr 4 1 (.t 58) (.t 55)), none⟩,
         .op ⟨none, (.store 1 (.t 59) (.t 56)), none⟩])
       (.ops [.op ⟨(some 60), (.mv (.t 8)), none⟩,
         .op ⟨(some 61), (.mv (.t 11)), none⟩,
         .op ⟨(some 62), (.len (.t 61)), none⟩,
         .op ⟨(some 63), (.mv (.t 0)), none⟩,
         .op ⟨(some 64), (.mv (.t 10)), none⟩,
         .op ⟨(some 65), (.nilCheck (.t 63)), none⟩,
         .op ⟨(some 66), (.fieldAddr 0 (.t 65)), none⟩,
         .op ⟨(some 67), (.idxAddrArr 4 1 (.t 66) (.t 64)), none⟩,
         .op ⟨(some 68), (.load none (.t 67)), none⟩,
         .op ⟨(some 69), (.len (.t 68)), none⟩,
         .op ⟨(some 70), (.bin .sub (.t 62) (.t 69)), none⟩,
         .op ⟨(some 71), (.bin .add (.t 60) (.t 70)), none⟩,
         .op ⟨(some 8), (.mv (.t 71)), none⟩]))))))
      (.ops [.op ⟨(some 72), (.bin .add (.t 27) (.k (.raw (.int .i64 1)))), none⟩,
        .op ⟨(some 27), (.mv (.t 72)), none⟩])))))))
    (.seq
    (.seq
    (.ops [.op ⟨(some 73), (.mv (.t 9)), none⟩])
    (.cond (.t 73)
     (.seq
     (.ops [.op ⟨(some 4), (.mv (.k (.raw (.int .i64 0)))), none⟩,
       .op ⟨(some 5), (.mv (.k (.raw (.int .i64 6)))), none⟩])
     (.ret))
     (.skip)))
    (.seq
    (.ops [.op ⟨(some 74), (.mv (.t 0)), none⟩,
      .op ⟨(some 75), (.mv (.t 7)), none⟩,
      .op ⟨(some 76), (.nilCheck (.t 75)), none⟩,
      .op ⟨(some 77), (.fieldAddr 0 (.t 76)), none⟩,
      .op ⟨(some 78), (.load (some 4) (.t 77)), none⟩,
      .op ⟨(some 79), (.nilCheck (.t 74)), none⟩,
      .op ⟨(some 80), (.fieldAddr 0 (.t 79)), none⟩,
      .op ⟨none, (.store 4 (.t 80) (.t 78)), none⟩])
    (.seq
    (.ops [.op ⟨(some 81), (.mv (.t 8)), none⟩,
      .op ⟨(some 4), (.mv (.t 81)), none⟩,
      .op ⟨(some 5), (.mv (.k (.raw (.int .i64 0)))), none⟩])
    (.ret))))))))),
    [.tmp 4, .tmp 5], 82⟩
theorem c___vigil_revoke_Set__Apply : compFn Tryz.prog f___vigil_revoke_Set__Apply = some x___vigil_revoke_Set__Apply := by kernel_rfl

/- slices.Delete[[]vigil/fresh.ask,vigil/fresh.ask] -/
def x_slices_Delete___vigil_fresh_ask_vigil_fresh_ask_ : XFn := ⟨
    .seq
    (.ops [.op ⟨(some 6), (.mv (.k (.raw (.slice none 0 0)))), none⟩])
    (.seq
    (.ops [.op ⟨(some 8), (.mv (.t 0)), none⟩,
      .op ⟨(some 9), (.mv (.t 1)), none⟩,
      .op ⟨(some 10), (.mv (.t 2)), none⟩,
      .op ⟨(some 11), (.mv (.t 0)), none⟩,
      .op ⟨(some 12), (.len (.t 11)), none⟩,
      .op ⟨(some 13), (.slice 10 (.t 8) (some (.t 9)) (some (.t 10)) (some (.t 12))), none⟩])
    (.seq
    (.seq
    (.ops [.op ⟨(some 14), (.mv (.t 1)), none⟩,
      .op ⟨(some 15), (.mv (.t 2)), none⟩,
      .op ⟨(some 16), (.bin .eql (.t 14) (.t 15)), none⟩])
    (.cond (.t 16)
     (.seq
     (.ops [.op ⟨(some 17), (.mv (.t 0)), none⟩,
       .op ⟨(some 6), (.mv (.t 17)), none⟩])
     (.ret))
     (.skip)))
    (.seq
    (.ops [.op ⟨(some 18), (.mv (.t 0)), none⟩,
      .op ⟨(some 19), (.len (.t 18)), none⟩,
      .op ⟨(some 7), (.mv (.t 19)), none⟩])
    (.seq
    (.draw [⟨(some 20), (.mv (.t 0)), none⟩,
      ⟨(some 21), (.mv (.t 1)), none⟩,
      ⟨(some 22), (.slice 10 (.t 20) none (some (.t 21)) none), none⟩,
      ⟨(some 23), (.mv (.t 0)), none⟩,
      ⟨(some 24), (.mv (.t 2)), none⟩,
      ⟨(some 25), (.slice 10 (.t 23) (some (.t 24)) none none), none⟩,
      ⟨(some 26), (.append 10 24 (.t 22) (.t 25)), none⟩,
      ⟨(some 0), (.mv (.t 26)), none⟩]
      [[], [], [1, 0], [], [], [4, 3], [3, 4, 5, 0, 1, 2], [2, 1, 0, 5, 4, 3, 6]]
      [.q 0, .q 1, .q 2, .q 3, .q 4, .q 5, .eff 6, .q 7])
    (.seq
    (.ops [.op ⟨(some 27), (.mv (.t 0)), none⟩,
      .op ⟨(some 28), (.mv (.t 0)), none⟩,
      .op ⟨(some 29), (.len (.t 28)), none⟩,
      .op ⟨(some 30), (.mv (.t 7)), none⟩,
      .op ⟨(some 31), (.slice 10 (.t 27) (some (.t 29)) (some (.t 30)) none), none⟩,
      .op ⟨none, (.clear [(.int .i64 0), (.int .i64 0), (.int .u8 0), (.int .u8 0), (.int .u8 0), (.int .u8 0), (.int .u8 0), (.int .u8 0), (.int .u8 0), (.int .u8 0)] (.t 31)), none⟩])
    (.seq
    (.ops [.op ⟨(some 32), (.mv (.t 0)), none⟩,
      .op ⟨(some 6), (.mv (.t 32)), none⟩])
    (.ret))))))),
    [.tmp 6], 33⟩
theorem c_slices_Delete___vigil_fresh_ask_vigil_fresh_ask_ : compFn Tryz.prog f_slices_Delete___vigil_fresh_ask_vigil_fresh_ask_ = some x_slices_Delete___vigil_fresh_ask_vigil_fresh_ask_ := by kernel_rfl

/- vigil/revoke.Covers -/
def x_vigil_revoke_Covers : XFn := ⟨
    .seq
    (.ops [.op ⟨(some 2), (.box (.t 0)), none⟩,
      .op ⟨(some 3), (.box (.t 1)), none⟩,
      .op ⟨(some 4), (.mv (.k (.raw (.bool false)))), none⟩])
    (.seq
    (.draw [⟨(some 5), (.load (some 4) (.t 2)), none⟩,
      ⟨(some 6), (.load (some 4) (.t 3)), none⟩,
      ⟨(some 7), (.call f_vigil_revoke_Join [(.t 5), (.t 6)]), none⟩,
      ⟨(some 8), (.load (some 4) (.t 2)), none⟩,
      ⟨(some 9), (.eq (.plain [true, true, true, true]) false (.t 7) (.t 8)), none⟩,
      ⟨(some 4), (.mv (.t 9)), none⟩]
      [[], [], [1, 0], [], [3, 0, 1, 2], [2, 1, 0, 3, 4]]
      [.q 0, .q 1, .q 3, .eff 2, .q 4, .q 5])
    (.ret)),
    [.tmp 4], 10⟩
theorem c_vigil_revoke_Covers : compFn Tryz.prog f_vigil_revoke_Covers = some x_vigil_revoke_Covers := by kernel_rfl

/- (*vigil/wire.Reader).Number -/
def x___vigil_wire_Reader__Number : XFn := ⟨
    .seq
    (.ops [.op ⟨(some 4), (.mv (.k (.raw (.int .i64 0)))), none⟩])
    (.seq
    (.seq
    (.ops [.op ⟨(some 5), (.mv (.t 0)), none⟩,
      .op ⟨(some 6), (.eq .ptr true (.t 5) (.k (.raw (.pointer none)))), none⟩,
      .op ⟨(some 7), (.mv (.t 6)), none⟩,
      .split 7,
      .op ⟨(some 8), (.mv (.t 1)), (some (7, true))⟩,
      .op ⟨(some 9), (.bin .eql (.t 8) (.k (.raw (.int .i64 4)))), (some (7, true))⟩,
      .op ⟨(some 10), (.pick (.t 7) (.t 9) (.k (.raw (.bool false)))), none⟩])
    (.cond (.t 10)
     (.ops [.op ⟨(some 11), (.mv (.t 0)), none⟩,
       .op ⟨(some 12), (.nilCheck (.t 11)), none⟩,
       .op ⟨(some 13), (.fieldAddr 0 (.t 12)), none⟩,
       .op ⟨(some 14), (.call f___vigil_wire_rest__fail [(.t 13), (.k (.raw (.int .i64 13)))]), none⟩])
     (.skip)))
    (.seq
    (.ops [.op ⟨(some 15), (.mv (.t 0)), none⟩,
      .op ⟨(some 16), (.mv (.t 1)), none⟩,
      .op ⟨(some 17), (.call f___vigil_wire_Reader__Get [(.t 15), (.t 16)]), none⟩,
      .op ⟨(some 18), (.field 1 none (.t 17)), none⟩,
      .op ⟨(some 4), (.mv (.t 18)), none⟩])
    (.ret))),
    [.tmp 4], 19⟩
theorem c___vigil_wire_Reader__Number : compFn Tryz.prog f___vigil_wire_Reader__Number = some x___vigil_wire_Reader__Number := by kernel_rfl

/- vigil/delta.Answer -/
def x_vigil_delta_Answer : XFn := ⟨
    .seq
    (.ops [.op ⟨(some 4), (.box (.t 1)), none⟩,
      .op ⟨(some 5), (.box (.t 2)), none⟩,
      .op ⟨(some 6), (.alloc [(.int .i64 0), (.int .i64 0), (.int .i64 0), (.int .i64 0), (.slice none 0 0), (.slice none 0 0), (.slice none 0 0), (.slice none 0 0)]), none⟩,
      .op ⟨(some 7), (.mv (.k (.raw (.int .i64 0)))), none⟩])
    (.seq
    (.block 0
     (.seq
     (.ops [.op ⟨(some 17), (.mv (.t 0)), none⟩,
       .op ⟨(some 18), (.eq .ptr false (.t 17) (.k (.raw (.pointer none)))), none⟩,
       .op ⟨(some 16), (.mv (.t 18)), none⟩])
     (.cond (.t 16)
      (.seq
      (.ops [.op ⟨(some 19), (.build [(.int .i64 0), (.int .i64 0), (.int .i64 0), (.int .i64 0), (.slice none 0 0), (.slice none 0 0), (.slice none 0 0), (.slice none 0 0)] []), none⟩,
        .op ⟨none, (.store 8 (.t 6) (.t 19)), none⟩,
        .op ⟨(some 7), (.mv (.k (.raw (.int .i64 11)))), none⟩])
      (.ret))
      (.seq
      (.ops [.op ⟨(some 21), (.load (some 4) (.t 4)), none⟩,
        .op ⟨(some 22), (.call f_vigil_delta_right [(.t 21)]), none⟩,
        .op ⟨(some 23), (.un .not (.t 22)), none⟩,
        .op ⟨(some 20), (.mv (.t 23)), none⟩])
      (.cond (.t 20)
       (.seq
       (.ops [.op ⟨(some 24), (.build [(.int .i64 0), (.int .i64 0), (.int .i64 0), (.int .i64 0), (.slice none 0 0), (.slice none 0 0), (.slice none 0 0), (.slice none 0 0)] []), none⟩,
         .op ⟨none, (.store 8 (.t 6) (.t 24)), none⟩,
         .op ⟨(some 7), (.mv (.k (.raw (.int .i64 10)))), none⟩])
       (.ret))
       (.seq
       (.ops [.op ⟨(some 26), (.load none (.t 5)), none⟩,
         .op ⟨(some 27), (.bin .lss (.t 26) (.k (.raw (.int .i64 16)))), none⟩,
         .op ⟨(some 25), (.mv (.t 27)), none⟩])
       (.cond (.t 25)
        (.seq
        (.ops [.op ⟨(some 28), (.build [(.int .i64 0), (.int .i64 0), (.int .i64 0), (.int .i64 0), (.slice none 0 0), (.slice none 0 0), (.slice none 0 0), (.slice none 0 0)] []), none⟩,
          .op ⟨none, (.store 8 (.t 6) (.t 28)), none⟩,
          .op ⟨(some 7), (.mv (.k (.raw (.int .i64 2)))), none⟩])
        (.ret))
        (.skip))))))))
    (.seq
    (.seq
    (.ops [.op ⟨(some 29), (.mv (.t 0)), none⟩,
      .op ⟨(some 30), (.call f___vigil_revoke_Set__Versions [(.t 29)]), none⟩,
      .op ⟨(some 31), (.mv (.k (.raw (.int .i64 0)))), none⟩])
    (.block 1
     (.loop
      (.seq
      (.ops [.op ⟨(some 32), (.bin .lss (.t 31) (.k (.raw (.int .i64 4)))), none⟩])
      (.seq
      (.cond (.t 32)
       (.skip)
       (.exit 1))
      (.seq
      (.block 2
       (.seq
       (.ops [.op ⟨(some 33), (.mv (.t 31)), none⟩,
         .op ⟨(some 34), (.idxArr 4 1 none (.t 30) (.t 31)), none⟩,
         .op ⟨(some 8), (.mv (.t 33)), none⟩,
         .op ⟨(some 9), (.mv (.t 34)), none⟩])
       (.ops [.op ⟨(some 35), (.mv (.t 8)), none⟩,
         .op ⟨(some 36), (.mv (.t 8)), none⟩,
         .op ⟨(some 37), (.idxAddrArr 4 1 (.t 4) (.t 36)), none⟩,
         .op ⟨(some 38), (.load none (.t 37)), none⟩,
         .op ⟨(some 39), (.mv (.t 9)), none⟩,
         .op ⟨(some 40), (.minMax false (.t 38) [(.t 39)]), none⟩,
         .op ⟨(some 41), (.idxAddrArr 4 1 (.t 4) (.t 35)), none⟩,
         .op ⟨none, (.store 1 (.t 41) (.t 40)), none⟩])))
      (.ops [.op ⟨(some 42), (.bin .add (.t 31) (.k (.raw (.int .i64 1)))), none⟩,
        .op ⟨(some 31), (.mv (.t 42)), none⟩])))))))
    (.seq
    (.ops [.op ⟨(some 44), (.mv (.t 0)), none⟩,
      .op ⟨(some 45), (.load (some 4) (.t 4)), none⟩,
      .op ⟨(some 46), (.call f___vigil_revoke_Set__Since [(.t 44), (.t 45)]), none⟩,
      .op ⟨(some 43), (.mv (.t 46)), none⟩,
      .op ⟨(some 47), (.extract (.t 43) 0), none⟩,
      .op ⟨(some 48), (.extract (.t 43) 1), none⟩,
      .op ⟨(some 10), (.alloc [(.int .i64 0), (.int .i64 0), (.int .i64 0), (.int .i64 0), (.slice none 0 0), (.slice none 0 0), (.slice none 0 0), (.slice none 0 0)]), none⟩,
      .op ⟨none, (.store 8 (.t 10) (.t 47)), none⟩,
      .op ⟨(some 11), (.mv (.t 48)), none⟩])
    (.seq
    (.seq
    (.ops [.op ⟨(some 49), (.mv (.t 11)), none⟩,
      .op ⟨(some 50), (.bin .neq (.t 49) (.k (.raw (.int .i64 0)))), none⟩])
    (.cond (.t 50)
     (.seq
     (.ops [.op ⟨(some 51), (.build [(.int .i64 0), (.int .i64 0), (.int .i64 0), (.int .i64 0), (.slice none 0 0), (.slice none 0 0), (.slice none 0 0), (.slice none 0 0)] []), none⟩,
       .op ⟨(some 52), (.mv (.t 11)), none⟩,
       .op ⟨none, (.store 8 (.t 6) (.t 51)), none⟩,
       .op ⟨(some 7), (.mv (.t 52)), none⟩])
     (.ret))
     (.skip)))
    (.seq
    (.seq
    (.ops [.op ⟨(some 53), (.fieldAddr 4 (.t 10)), none⟩,
      .op ⟨(some 54), (.sliceArr 4 1 (.t 53) none none none), none⟩,
      .op ⟨(some 55), (.call f_slices_Backward_____int___int_ [(.t 54)]), none⟩])
    (.block 3
     (.rangeFunc (.t 55) #[56, 57]
      (.seq
      (.ops [.op ⟨(some 12), (.mv (.t 56)), none⟩])
      (.ops [.op ⟨(some 13), (.mv (.t 57)), none⟩]))
      (.block 4
       (.seq
       (.draw [⟨(some 58), (.load (some 8) (.t 10)), none⟩,
         ⟨(some 59), (.call f_vigil_delta_Size [(.t 58)]), none⟩,
         ⟨(some 60), (.load none (.t 5)), none⟩,
         ⟨(some 61), (.bin .sub (.t 59) (.t 60)), none⟩,
         ⟨(some 62), (.minMax true (.t 61) [(.k (.raw (.int .i64 0)))]), none⟩,
         ⟨(some 63), (.bin .add (.t 62) (.k (.raw (.int .i64 1)))), none⟩,
         ⟨(some 64), (.bin .quo (.t 63) (.k (.raw (.int .i64 2)))), none⟩,
         ⟨(some 14), (.mv (.t 64)), none⟩]
         [[], [0], [], [2, 0, 1], [1, 0, 2, 3], [3, 2, 0, 1, 4], [4, 1, 0, 2, 3, 5], [5, 3, 2, 0, 1, 4, 6]]
         [.q 0, .q 2, .eff 1, .q 3, .q 4, .q 5, .q 6, .q 7])
       (.seq
       (.ops [.op ⟨(some 65), (.mv (.t 13)), none⟩,
         .op ⟨(some 66), (.len (.t 65)), none⟩,
         .op ⟨(some 67), (.mv (.t 14)), none⟩,
         .op ⟨(some 68), (.bin .sub (.t 66) (.t 67)), none⟩,
         .op ⟨(some 69), (.minMax true (.t 68) [(.k (.raw (.int .i64 0)))]), none⟩,
         .op ⟨(some 15), (.mv (.t 69)), none⟩])
       (.ops [.op ⟨(some 70), (.mv (.t 12)), none⟩,
         .op ⟨(some 71), (.mv (.t 13)), none⟩,
         .op ⟨(some 72), (.mv (.t 15)), none⟩,
         .op ⟨(some 73), (.mv (.t 15)), none⟩,
         .op ⟨(some 74), (.slice 1 (.t 71) none (some (.t 72)) (some (.t 73))), none⟩,
         .op ⟨(some 75), (.fieldAddr 4 (.t 10)), none⟩,
         .op ⟨(some 76), (.idxAddrArr 4 1 (.t 75) (.t 70)), none⟩,
         .op ⟨none, (.store 1 (.t 76) (.t 74)), none⟩])))))))
    (.seq
    (.ops [.op ⟨(some 77), (.load (some 8) (.t 10)), none⟩,
      .op ⟨none, (.store 8 (.t 6) (.t 77)), none⟩,
      .op ⟨(some 7), (.mv (.k (.raw (.int .i64 0)))), none⟩])
    (.ret))))))),
    [.cell 6 (some 8), .tmp 7], 78⟩
theorem c_vigil_delta_Answer : compFn Tryz.prog f_vigil_delta_Answer = some x_vigil_delta_Answer := by kernel_rfl

/- vigil/delta.Bytes -/
def x_vigil_delta_Bytes : XFn := ⟨
    .seq
    (.ops [.op ⟨(some 1), (.box (.t 0)), none⟩,
      .op ⟨(some 2), (.mv (.k (.raw (.slice none 0 0)))), none⟩,
      .op ⟨(some 3), (.mv (.k (.raw (.int .i64 0)))), none⟩])
    (.seq
    (.seq
    (.ops [.op ⟨(some 7), (.fieldAddr 0 (.t 1)), none⟩,
      .op ⟨(some 8), (.load (some 4) (.t 7)), none⟩,
      .op ⟨(some 9), (.call f_vigil_delta_right [(.t 8)]), none⟩,
      .op ⟨(some 10), (.un .not (.t 9)), none⟩])
    (.cond (.t 10)
     (.seq
     (.ops [.op ⟨(some 2), (.mv (.k (.raw (.slice none 0 0)))), none⟩,
       .op ⟨(some 3), (.mv (.k (.raw (.int .i64 10)))), none⟩])
     (.ret))
     (.skip)))
    (.seq
    (.ops [.op ⟨(some 4), (.alloc [(.slice none 0 0), (.int .i64 0)]), none⟩])
    (.seq
    (.ops [.op ⟨(some 11), (.fieldAddr 0 (.t 1)), none⟩,
      .op ⟨(some 12), (.sliceArr 4 1 (.t 11) none none none), none⟩,
      .op ⟨(some 13), (.call f___vigil_wire_Writer__Number [(.t 4), (.k (.raw (.int .i64 1))), (.t 12)]), none⟩])
    (.seq
    (.seq
    (.ops [.op ⟨(some 14), (.fieldAddr 4 (.t 1)), none⟩,
      .op ⟨(some 15), (.load (some 8) (.t 14)), none⟩,
      .op ⟨(some 16), (.mv (.k (.raw (.int .i64 0)))), none⟩])
    (.block 0
     (.loop
      (.seq
      (.ops [.op ⟨(some 17), (.bin .lss (.t 16) (.k (.raw (.int .i64 8)))), none⟩])
      (.seq
      (.cond (.t 17)
       (.skip)
       (.exit 0))
      (.seq
      (.block 1
       (.seq
       (.ops [.op ⟨(some 18), (.idxArr 8 1 none (.t 15) (.t 16)), none⟩,
         .op ⟨(some 6), (.mv (.t 18)), none⟩])
       (.ops [.op ⟨(some 19), (.mv (.t 6)), none⟩,
         .op ⟨(some 20), (.conv .i64 (.t 19)), none⟩,
         .op ⟨(some 21), (.buildF 1 [(.int .i64 0)] [(0, 1, (.t 20))]), none⟩,
         .op ⟨(some 22), (.call f___vigil_wire_Writer__Number [(.t 4), (.k (.raw (.int .i64 0))), (.t 21)]), none⟩])))
      (.ops [.op ⟨(some 23), (.bin .add (.t 16) (.k (.raw (.int .i64 1)))), none⟩,
        .op ⟨(some 16), (.mv (.t 23)), none⟩])))))))
    (.seq
    (.ops [.op ⟨(some 24), (.call f___vigil_wire_Writer__Out [(.t 4)]), none⟩,
      .op ⟨(some 25), (.extract (.t 24) 0), none⟩,
      .op ⟨(some 26), (.extract (.t 24) 1), none⟩,
      .op ⟨(some 2), (.mv (.t 25)), none⟩,
      .op ⟨(some 3), (.mv (.t 26)), none⟩])
    (.ret)))))),
    [.tmp 2, .tmp 3], 27⟩
theorem c_vigil_delta_Bytes : compFn Tryz.prog f_vigil_delta_Bytes = some x_vigil_delta_Bytes := by kernel_rfl

/- vigil/delta.Of -/
def x_vigil_delta_Of : XFn := ⟨
    .seq
    (.ops [.op ⟨(some 2), (.alloc [(.int .i64 0), (.int .i64 0), (.int .i64 0), (.int .i64 0), (.int .u8 0), (.int .u8 0), (.int .u8 0), (.int .u8 0), (.int .u8 0), (.int .u8 0), (.int .u8 0), (.int .u8 0)]), none⟩])
    (.seq
    (.ops [.op ⟨(some 4), (.mv (.t 0)), none⟩,
      .op ⟨(some 5), (.call f___vigil_revoke_Set__Print [(.t 4)]), none⟩,
      .op ⟨(some 3), (.alloc [(.int .u8 0), (.int .u8 0), (.int .u8 0), (.int .u8 0), (.int .u8 0), (.int .u8 0), (.int .u8 0), (.int .u8 0), (.int .u8 0), (.int .u8 0), (.int .u8 0), (.int .u8 0), (.int .u8 0), (.int .u8 0), (.int .u8 0), (.int .u8 0), (.int .u8 0), (.int .u8 0), (.int .u8 0), (.int .u8 0), (.int .u8 0), (.int .u8 0), (.int .u8 0), (.int .u8 0), (.int .u8 0), (.int .u8 0), (.int .u8 0), (.int .u8 0), (.int .u8 0), (.int .u8 0), (.int .u8 0), (.int .u8 0)]), none⟩,
      .op ⟨none, (.store 32 (.t 3) (.t 5)), none⟩])
    (.seq
    (.draw [⟨(some 6), (.mv (.t 0)), none⟩,
      ⟨(some 7), (.call f___vigil_revoke_Set__Versions [(.t 6)]), none⟩,
      ⟨(some 8), (.sliceArr 32 1 (.t 3) none (some (.k (.raw (.int .i64 8)))) none), none⟩,
      ⟨(some 9), (.arrPtr 8 1 (.t 8)), none⟩,
      ⟨(some 10), (.load (some 8) (.t 9)), none⟩,
      ⟨(some 11), (.build [(.int .i64 0), (.int .i64 0), (.int .i64 0), (.int .i64 0), (.int .u8 0), (.int .u8 0), (.int .u8 0), (.int .u8 0), (.int .u8 0), (.int .u8 0), (.int .u8 0), (.int .u8 0)] [(0, 4, (.t 7)), (4, 8, (.t 10))]), none⟩,
      ⟨none, (.store 12 (.t 2) (.t 11)), none⟩]
      [[], [0], [], [2], [2, 3], [3, 2, 4, 0, 1], [1, 0, 4, 2, 3, 5]]
      [.q 0, .q 2, .q 3, .q 4, .eff 1, .q 5, .eff 6])
    (.ret))),
    [.cell 2 (some 12)], 12⟩
theorem c_vigil_delta_Of : compFn Tryz.prog f_vigil_delta_Of = some x_vigil_delta_Of := by kernel_rfl

/- vigil/revoke.Bytes -/
def x_vigil_revoke_Bytes : XFn := ⟨
    .seq
    (.ops [.op ⟨(some 1), (.box (.t 0)), none⟩,
      .op ⟨(some 2), (.mv (.k (.raw (.slice none 0 0)))), none⟩,
      .op ⟨(some 3), (.mv (.k (.raw (.int .i64 0)))), none⟩])
    (.seq
    (.seq
    (.ops [.op ⟨(some 8), (.load (some 8) (.t 1)), none⟩,
      .op ⟨(some 9), (.call f__vigil_revoke_Delta__check [(.t 8)]), none⟩,
      .op ⟨(some 4), (.mv (.t 9)), none⟩])
    (.seq
    (.ops [.op ⟨(some 10), (.mv (.t 4)), none⟩,
      .op ⟨(some 11), (.bin .neq (.t 10) (.k (.raw (.int .i64 0)))), none⟩])
    (.cond (.t 11)
     (.seq
     (.ops [.op ⟨(some 12), (.mv (.t 4)), none⟩,
       .op ⟨(some 2), (.mv (.k (.raw (.slice none 0 0)))), none⟩,
       .op ⟨(some 3), (.mv (.t 12)), none⟩])
     (.ret))
     (.skip))))
    (.seq
    (.ops [.op ⟨(some 5), (.alloc [(.slice none 0 0), (.int .i64 0)]), none⟩])
    (.seq
    (.seq
    (.ops [.op ⟨(some 13), (.fieldAddr 0 (.t 1)), none⟩,
      .op ⟨(some 14), (.load (some 4) (.t 13)), none⟩,
      .op ⟨(some 15), (.mv (.k (.raw (.int .i64 0)))), none⟩])
    (.block 0
     (.loop
      (.seq
      (.ops [.op ⟨(some 16), (.bin .lss (.t 15) (.k (.raw (.int .i64 4)))), none⟩])
      (.seq
      (.cond (.t 16)
       (.skip)
       (.exit 0))
      (.seq
      (.block 1
       (.seq
       (.ops [.op ⟨(some 17), (.mv (.t 15)), none⟩,
         .op ⟨(some 18), (.idxArr 4 1 none (.t 14) (.t 15)), none⟩,
         .op ⟨(some 6), (.mv (.t 17)), none⟩,
         .op ⟨(some 7), (.mv (.t 18)), none⟩])
       (.draw [⟨(some 19), (.mv (.t 7)), none⟩,
         ⟨(some 20), (.mv (.t 6)), none⟩,
         ⟨(some 21), (.fieldAddr 4 (.t 1)), none⟩,
         ⟨(some 22), (.idxAddrArr 4 1 (.t 21) (.t 20)), none⟩,
         ⟨(some 23), (.load none (.t 22)), none⟩,
         ⟨(some 24), (.len (.t 23)), none⟩,
         ⟨(some 25), (.buildF 2 [(.int .i64 0), (.int .i64 0)] [(0, 1, (.t 19)), (1, 1, (.t 24))]), none⟩,
         ⟨(some 26), (.call f___vigil_wire_Writer__Number [(.t 5), (.k (.raw (.int .i64 1))), (.t 25)]), none⟩,
         ⟨(some 27), (.mv (.t 6)), none⟩,
         ⟨(some 28), (.fieldAddr 4 (.t 1)), none⟩,
         ⟨(some 29), (.idxAddrArr 4 1 (.t 28) (.t 27)), none⟩,
         ⟨(some 30), (.load none (.t 29)), none⟩,
         ⟨(some 31), (.call f___vigil_wire_Writer__Number [(.t 26), (.k (.raw (.int .i64 1))), (.t 30)]), none⟩]
         [[], [], [], [1, 2], [2, 1, 3], [3, 1, 2, 4], [4, 2, 1, 3, 5, 0], [0, 5, 3, 1, 2, 4, 6], [], [], [8, 9], [9, 8, 10], [10, 8, 9, 11, 6, 4, 2, 1, 3, 5, 0, 7]]
         [.q 0, .q 1, .q 2, .q 3, .q 4, .q 5, .q 6, .q 8, .q 9, .q 10, .q 11, .eff 7, .eff 12])))
      (.ops [.op ⟨(some 32), (.bin .add (.t 15) (.k (.raw (.int .i64 1)))), none⟩,
        .op ⟨(some 15), (.mv (.t 32)), none⟩])))))))
    (.seq
    (.ops [.op ⟨(some 33), (.call f___vigil_wire_Writer__Out [(.t 5)]), none⟩,
      .op ⟨(some 34), (.extract (.t 33) 0), none⟩,
      .op ⟨(some 35), (.extract (.t 33) 1), none⟩,
      .op ⟨(some 2), (.mv (.t 34)), none⟩,
      .op ⟨(some 3), (.mv (.t 35)), none⟩])
    (.ret))))),
    [.tmp 2, .tmp 3], 36⟩
theorem c_vigil_revoke_Bytes : compFn Tryz.prog f_vigil_revoke_Bytes = some x_vigil_revoke_Bytes := by kernel_rfl

/- (*vigil/revoke.Set).Copy -/
def x___vigil_revoke_Set__Copy : XFn := ⟨
    .seq
    (.ops [.op ⟨(some 2), (.mv (.k (.raw (.pointer none)))), none⟩])
    (.seq
    (.seq
    (.ops [.op ⟨(some 5), (.mv (.t 0)), none⟩,
      .op ⟨(some 6), (.eq .ptr false (.t 5) (.k (.raw (.pointer none)))), none⟩])
    (.cond (.t 6)
     (.seq
     (.ops [.op ⟨(some 2), (.mv (.k (.raw (.pointer none)))), none⟩])
     (.ret))
     (.skip)))
    (.seq
    (.ops [.op ⟨(some 7), (.call f_vigil_revoke_New []), none⟩,
      .op ⟨(some 3), (.mv (.t 7)), none⟩])
    (.seq
    (.seq
    (.ops [.op ⟨(some 8), (.mv (.k (.raw (.int .i64 0)))), none⟩])
    (.block 0
     (.loop
      (.seq
      (.ops [.op ⟨(some 9), (.bin .lss (.t 8) (.k (.raw (.int .i64 4)))), none⟩])
      (.seq
      (.cond (.t 9)
       (.skip)
       (.exit 0))
      (.seq
      (.block 1
       (.seq
       (.ops [.op ⟨(some 10), (.mv (.t 8)), none⟩,
         .op ⟨(some 4), (.mv (.t 10)), none⟩])
       (.draw [⟨(some 11), (.mv (.t 3)), none⟩,
         ⟨(some 12), (.mv (.t 4)), none⟩,
         ⟨(some 13), (.mv (.t 0)), none⟩,
         ⟨(some 14), (.mv (.t 4)), none⟩,
         ⟨(some 15), (.call f___vigil_revoke_Set__Log [(.t 13), (.t 14)]), none⟩,
         ⟨(some 16), (.nilCheck (.t 11)), none⟩,
         ⟨(some 17), (.fieldAddr 0 (.t 16)), none⟩,
         ⟨(some 18), (.idxAddrArr 4 1 (.t 17) (.t 12)), none⟩,
         ⟨none, (.store 1 (.t 18) (.t 15)), none⟩]
         [[], [], [], [], [3, 2], [0], [0, 5], [4, 3, 2, 1, 5, 0, 6], [6, 0, 5, 1, 2, 3, 4, 7]]
         [.q 0, .q 1, .q 2, .q 3, .q 5, .q 6, .eff 4, .q 7, .eff 8])))
      (.ops [.op ⟨(some 19), (.bin .add (.t 8) (.k (.raw (.int .i64 1)))), none⟩,
        .op ⟨(some 8), (.mv (.t 19)), none⟩])))))))
    (.seq
    (.ops [.op ⟨(some 20), (.mv (.t 3)), none⟩,
      .op ⟨(some 2), (.mv (.t 20)), none⟩])
    (.ret))))),
    [.tmp 2], 21⟩
theorem c___vigil_revoke_Set__Copy : compFn Tryz.prog f___vigil_revoke_Set__Copy = some x___vigil_revoke_Set__Copy := by kernel_rfl

/- vigil/vigilref01.root -/
def x_vigilref01_root : XFn := ⟨
    .seq
    (.ops [.op ⟨(some 4), (.mv (.k (.raw (.int .u32 0)))), none⟩])
    (.seq
    (.ops [.op ⟨(some 5), (.mv (.k (.raw (.int .u64 0)))), none⟩])
    (.seq
    (.seq
    (.ops [.op ⟨(some 6), (.mv (.k (.raw (.int .i64 35)))), none⟩])
    (.block 0
     (.loop
      (.seq
      (.seq
      (.ops [.op ⟨(some 8), (.mv (.t 6)), none⟩,
        .op ⟨(some 9), (.bin .geq (.t 8) (.k (.raw (.int .i64 0)))), none⟩])
      (.cond (.t 9)
       (.skip)
       (.exit 0)))
      (.seq
      (.block 1
       (.seq
       (.ops [.op ⟨(some 12), (.mv (.t 5)), none⟩,
         .op ⟨(some 13), (.mv (.t 6)), none⟩,
         .op ⟨(some 14), (.bin .shl (.k (.raw (.int .u64 1))) (.t 13)), none⟩,
         .op ⟨(some 15), (.bin .add (.t 12) (.t 14)), none⟩,
         .op ⟨(some 7), (.mv (.t 15)), none⟩])
       (.seq
       (.ops [.op ⟨(some 16), (.mv (.t 7)), none⟩,
         .op ⟨(some 17), (.mv (.t 1)), none⟩,
         .op ⟨(some 18), (.mv (.t 0)), none⟩,
         .op ⟨(some 19), (.call f_vigilref01_small [(.t 16), (.t 17), (.t 18)]), none⟩])
       (.cond (.t 19)
        (.ops [.op ⟨(some 20), (.mv (.t 7)), none⟩,
          .op ⟨(some 5), (.mv (.t 20)), none⟩])
        (.skip)))))
      (.ops [.op ⟨(some 10), (.mv (.t 6)), none⟩,
        .op ⟨(some 11), (.bin .sub (.t 10) (.k (.raw (.int .i64 1)))), none⟩,
        .op ⟨(some 6), (.mv (.t 11)), none⟩]))))))
    (.seq
    (.ops [.op ⟨(some 21), (.mv (.t 5)), none⟩,
      .op ⟨(some 22), (.bin .rem (.t 21) (.k (.raw (.int .u64 4294967296)))), none⟩,
      .op ⟨(some 23), (.conv .u32 (.t 22)), none⟩,
      .op ⟨(some 4), (.mv (.t 23)), none⟩])
    (.ret)))),
    [.tmp 4], 24⟩
theorem c_vigilref01_root : compFn Tryz.prog f_vigilref01_root = some x_vigilref01_root := by kernel_rfl

/- vigil/vigilref17.open -/
def x_vigilref17_open : XFn := ⟨
    .seq
    (.ops [.op ⟨(some 4), (.mv (.k (.raw (.slice none 0 0)))), none⟩])
    (.seq
    (.ops [.op ⟨(some 5), (.mv (.k (.raw (.slice none 0 0)))), none⟩])
    (.seq
    (.seq
    (.ops [.op ⟨(some 6), (.mv (.k (.raw (.int .i64 0)))), none⟩])
    (.block 0
     (.loop
      (.seq
      (.seq
      (.ops [.op ⟨(some 7), (.mv (.t 6)), none⟩,
        .op ⟨(some 8), (.mv (.t 0)), none⟩,
        .op ⟨(some 9), (.len (.t 8)), none⟩,
        .op ⟨(some 10), (.bin .lss (.t 7) (.t 9)), none⟩])
      (.cond (.t 10)
       (.skip)
       (.exit 0)))
      (.seq
      (.block 1
       (.seq
       (.ops [.op ⟨(some 13), (.mv (.t 1)), none⟩,
         .op ⟨(some 14), (.mv (.t 0)), none⟩,
         .op ⟨(some 15), (.mv (.t 6)), none⟩,
         .op ⟨(some 16), (.idxAddr 10 (.t 14) (.t 15)), none⟩,
         .op ⟨(some 17), (.fieldAddr 1 (.t 16)), none⟩,
         .op ⟨(some 18), (.load none (.t 17)), none⟩,
         .op ⟨(some 19), (.bin .sub (.t 13) (.t 18)), none⟩,
         .op ⟨(some 20), (.bin .lss (.t 19) (.k (.raw (.int .i64 64)))), none⟩])
       (.cond (.t 20)
        (.ops [.op ⟨(some 21), (.mv (.t 5)), none⟩,
          .op ⟨(some 22), (.mv (.t 0)), none⟩,
          .op ⟨(some 23), (.mv (.t 6)), none⟩,
          .op ⟨(some 24), (.idxAddr 10 (.t 22) (.t 23)), none⟩,
          .op ⟨(some 25), (.load (some 10) (.t 24)), none⟩,
          .op ⟨(some 26), (.buildF 1 [(.int .i64 0), (.int .i64 0), (.int .u8 0), (.int .u8 0), (.int .u8 0), (.int .u8 0), (.int .u8 0), (.int .u8 0), (.int .u8 0), (.int .u8 0)] [(0, 10, (.t 25))]), none⟩,
          .op ⟨(some 27), (.append 10 24 (.t 21) (.t 26)), none⟩,
          .op ⟨(some 5), (.mv (.t 27)), none⟩])
        (.skip))))
      (.ops [.op ⟨(some 11), (.mv (.t 6)), none⟩,
        .op ⟨(some 12), (.bin .add (.t 11) (.k (.raw (.int .i64 1)))), none⟩,
        .op ⟨(some 6), (.mv (.t 12)), none⟩]))))))
    (.seq
    (.ops [.op ⟨(some 28), (.mv (.t 5)), none⟩,
      .op ⟨(some 4), (.mv (.t 28)), none⟩])
    (.ret)))),
    [.tmp 4], 29⟩
theorem c_vigilref17_open : compFn Tryz.prog f_vigilref17_open = some x_vigilref17_open := by kernel_rfl

/- vigil/vigilref17.find -/
def x_vigilref17_find : XFn := ⟨
    .seq
    (.ops [.op ⟨(some 7), (.box (.t 3)), none⟩,
      .op ⟨(some 8), (.mv (.k (.raw (.int .i64 0)))), none⟩])
    (.seq
    (.seq
    (.ops [.op ⟨(some 9), (.mv (.k (.raw (.int .i64 0)))), none⟩])
    (.block 0
     (.loop
      (.seq
      (.seq
      (.ops [.op ⟨(some 10), (.mv (.t 9)), none⟩,
        .op ⟨(some 11), (.mv (.t 0)), none⟩,
        .op ⟨(some 12), (.len (.t 11)), none⟩,
        .op ⟨(some 13), (.bin .lss (.t 10) (.t 12)), none⟩])
      (.cond (.t 13)
       (.skip)
       (.exit 0)))
      (.seq
      (.block 1
       (.seq
       (.draw [⟨(some 16), (.mv (.t 0)), none⟩,
         ⟨(some 17), (.mv (.t 9)), none⟩,
         ⟨(some 18), (.idxAddr 10 (.t 16) (.t 17)), none⟩,
         ⟨(some 19), (.fieldAddr 0 (.t 18)), none⟩,
         ⟨(some 20), (.load none (.t 19)), none⟩,
         ⟨(some 21), (.mv (.t 1)), none⟩,
         ⟨(some 22), (.bin .eql (.t 20) (.t 21)), none⟩,
         ⟨(some 23), (.mv (.t 22)), none⟩,
         ⟨(some 24), (.mv (.t 0)), (some (23, true))⟩,
         ⟨(some 25), (.mv (.t 9)), (some (23, true))⟩,
         ⟨(some 26), (.idxAddr 10 (.t 24) (.t 25)), (some (23, true))⟩,
         ⟨(some 27), (.fieldAddr 2 (.t 26)), (some (23, true))⟩,
         ⟨(some 28), (.load (some 8) (.t 27)), (some (23, true))⟩,
         ⟨(some 29), (.load (some 8) (.t 7)), (some (23, true))⟩,
         ⟨(some 30), (.eq (.plain [true, true, true, true, true, true, true, true]) false (.t 28) (.t 29)), (some (23, true))⟩,
         ⟨(some 31), (.pick (.t 23) (.t 30) (.k (.raw (.bool false)))), none⟩,
         ⟨(some 32), (.mv (.t 31)), none⟩,
         ⟨(some 33), (.mv (.t 2)), (some (32, true))⟩,
         ⟨(some 34), (.mv (.t 0)), (some (32, true))⟩,
         ⟨(some 35), (.mv (.t 9)), (some (32, true))⟩,
         ⟨(some 36), (.idxAddr 10 (.t 34) (.t 35)), (some (32, true))⟩,
         ⟨(some 37), (.fieldAddr 1 (.t 36)), (some (32, true))⟩,
         ⟨(some 38), (.load none (.t 37)), (some (32, true))⟩,
         ⟨(some 39), (.bin .sub (.t 33) (.t 38)), (some (32, true))⟩,
         ⟨(some 40), (.bin .lss (.t 39) (.k (.raw (.int .i64 64)))), (some (32, true))⟩,
         ⟨(some 41), (.pick (.t 32) (.t 40) (.k (.raw (.bool false)))), none⟩]
         [[], [], [1, 0], [0, 1, 2], [2, 1, 0, 3], [], [5, 3, 0, 1, 2, 4], [4, 2, 1, 0, 3, 5, 6], [6, 5, 3, 0, 1, 2, 4, 7], [6, 5, 3, 0, 1, 2, 4, 7], [9, 7, 4, 2, 1, 0, 3, 5, 6, 8], [8, 6, 5, 3, 0, 1, 2, 4, 7, 9, 10], [10, 9, 7, 4, 2, 1, 0, 3, 5, 6, 8, 11], [6, 5, 3, 0, 1, 2, 4, 7], [13, 11, 8, 6, 5, 3, 0, 1, 2, 4, 7, 9, 10, 12], [12, 10, 9, 8, 11, 13, 14, 6, 5, 3, 0, 1, 2, 4, 7], [7, 4, 2, 1, 0, 3, 5, 6, 14, 13, 11, 8, 9, 10, 12, 15], [15, 12, 10, 9, 8, 11, 13, 14, 6, 5, 3, 0, 1, 2, 4, 7, 16], [15, 12, 10, 9, 8, 11, 13, 14, 6, 5, 3, 0, 1, 2, 4, 7, 16], [15, 12, 10, 9, 8, 11, 13, 14, 6, 5, 3, 0, 1, 2, 4, 7, 16], [19, 16, 7, 4, 2, 1, 0, 3, 5, 6, 14, 13, 11, 8, 9, 10, 12, 15, 18], [18, 15, 12, 10, 9, 8, 11, 13, 14, 6, 5, 3, 0, 1, 2, 4, 7, 16, 19, 20], [20, 19, 16, 7, 4, 2, 1, 0, 3, 5, 6, 14, 13, 11, 8, 9, 10, 12, 15, 18, 21], [21, 18, 19, 20, 22, 16, 7, 4, 2, 1, 0, 3, 5, 6, 14, 13, 11, 8, 9, 10, 12, 15, 17], [17, 15, 12, 10, 9, 8, 11, 13, 14, 6, 5, 3, 0, 1, 2, 4, 7, 16, 22, 20, 19, 18, 21, 23], [23, 21, 18, 19, 20, 22, 17, 24, 15, 12, 10, 9, 8, 11, 13, 14, 6, 5, 3, 0, 1, 2, 4, 7, 16]]
         [.q 0, .q 1, .q 2, .q 3, .q 4, .q 5, .q 6, .q 7, .split 23, .q 8, .q 9, .q 10, .q 11, .q 12, .q 13, .q 14, .q 15, .q 16, .split 32, .q 17, .q 18, .q 19, .q 20, .q 21, .q 22, .q 23, .q 24, .q 25])
       (.cond (.t 41)
        (.seq
        (.ops [.op ⟨(some 42), (.mv (.t 9)), none⟩,
          .op ⟨(some 8), (.mv (.t 42)), none⟩])
        (.ret))
        (.skip))))
      (.ops [.op ⟨(some 14), (.mv (.t 9)), none⟩,
        .op ⟨(some 15), (.bin .add (.t 14) (.k (.raw (.int .i64 1)))), none⟩,
        .op ⟨(some 9), (.mv (.t 15)), none⟩]))))))
    (.seq
    (.ops [.op ⟨(some 8), (.mv (.k (.raw (.int .i64 (-1))))), none⟩])
    (.ret))),
    [.tmp 8], 43⟩
theorem c_vigilref17_find : compFn Tryz.prog f_vigilref17_find = some x_vigilref17_find := by kernel_rfl

/- vigil/vigilref04.Out -/
def x_vigilref04_Out : XFn := ⟨
    .seq
    (.ops [.op ⟨(some 1), (.box (.t 0)), none⟩,
      .op ⟨(some 2), (.mv (.k (.raw (.slice none 0 0)))), none⟩])
    (.seq
    (.seq
    (.ops [.op ⟨(some 6), (.fieldAddr 0 (.t 1)), none⟩,
      .op ⟨(some 7), (.load none (.t 6)), none⟩,
      .op ⟨(some 8), (.bin .eql (.t 7) (.k (.raw (.int .i64 4)))), none⟩])
    (.cond (.t 8)
     (.seq
     (.ops [.op ⟨(some 9), (.fieldAddr 2 (.t 1)), none⟩,
       .op ⟨(some 10), (.load none (.t 9)), none⟩,
       .op ⟨(some 11), (.len (.t 10)), none⟩,
       .op ⟨(some 12), (.bin .quo (.t 11) (.k (.raw (.int .i64 256)))), none⟩,
       .op ⟨(some 13), (.conv .u8 (.t 12)), none⟩,
       .op ⟨(some 14), (.fieldAddr 2 (.t 1)), none⟩,
       .op ⟨(some 15), (.load none (.t 14)), none⟩,
       .op ⟨(some 16), (.len (.t 15)), none⟩,
       .op ⟨(some 17), (.bin .rem (.t 16) (.k (.raw (.int .i64 256)))), none⟩,
       .op ⟨(some 18), (.conv .u8 (.t 17)), none⟩,
       .op ⟨(some 19), (.buildF 2 [(.int .u8 0), (.int .u8 0)] [(0, 1, (.t 13)), (1, 1, (.t 18))]), none⟩,
       .op ⟨(some 20), (.fieldAddr 2 (.t 1)), none⟩,
       .op ⟨(some 21), (.load none (.t 20)), none⟩,
       .op ⟨(some 22), (.append 1 1 (.t 19) (.t 21)), none⟩,
       .op ⟨(some 2), (.mv (.t 22)), none⟩])
     (.ret))
     (.skip)))
    (.seq
    (.ops [.op ⟨(some 3), (.mv (.k (.raw (.slice none 0 0)))), none⟩])
    (.seq
    (.ops [.op ⟨(some 23), (.fieldAddr 1 (.t 1)), none⟩,
      .op ⟨(some 24), (.load none (.t 23)), none⟩,
      .op ⟨(some 4), (.mv (.t 24)), none⟩])
    (.seq
    (.seq
    (.ops [.op ⟨(some 5), (.mv (.k (.raw (.int .i64 0)))), none⟩])
    (.block 0
     (.loop
      (.seq
      (.seq
      (.ops [.op ⟨(some 25), (.mv (.t 5)), none⟩,
        .op ⟨(some 26), (.fieldAddr 0 (.t 1)), none⟩,
        .op ⟨(some 27), (.load none (.t 26)), none⟩,
        .op ⟨(some 28), (.call f_vigilref04_Width [(.t 27)]), none⟩,
        .op ⟨(some 29), (.bin .lss (.t 25) (.t 28)), none⟩])
      (.cond (.t 29)
       (.skip)
       (.exit 0)))
      (.seq
      (.block 1
       (.seq
       (.ops [.op ⟨(some 32), (.mv (.t 4)), none⟩,
         .op ⟨(some 33), (.bin .rem (.t 32) (.k (.raw (.int .i64 256)))), none⟩,
         .op ⟨(some 34), (.conv .u8 (.t 33)), none⟩,
         .op ⟨(some 35), (.buildF 1 [(.int .u8 0)] [(0, 1, (.t 34))]), none⟩,
         .op ⟨(some 36), (.mv (.t 3)), none⟩,
         .op ⟨(some 37), (.append 1 1 (.t 35) (.t 36)), none⟩,
         .op ⟨(some 3), (.mv (.t 37)), none⟩])
       (.ops [.op ⟨(some 38), (.mv (.t 4)), none⟩,
         .op ⟨(some 39), (.bin .quo (.t 38) (.k (.raw (.int .i64 256)))), none⟩,
         .op ⟨(some 4), (.mv (.t 39)), none⟩])))
      (.ops [.op ⟨(some 30), (.mv (.t 5)), none⟩,
        .op ⟨(some 31), (.bin .add (.t 30) (.k (.raw (.int .i64 1)))), none⟩,
        .op ⟨(some 5), (.mv (.t 31)), none⟩]))))))
    (.seq
    (.ops [.op ⟨(some 40), (.mv (.t 3)), none⟩,
      .op ⟨(some 2), (.mv (.t 40)), none⟩])
    (.ret)))))),
    [.tmp 2], 41⟩
theorem c_vigilref04_Out : compFn Tryz.prog f_vigilref04_Out = some x_vigilref04_Out := by kernel_rfl

/- vigil/revoke.serials -/
def x_vigil_revoke_serials : XFn := ⟨
    .seq
    (.ops [.op ⟨(some 2), (.mv (.k (.raw (.bool false)))), none⟩])
    (.seq
    (.ops [.op ⟨(some 3), (.mv (.t 0)), none⟩,
      .op ⟨(some 4), (.call f_slices_ContainsFunc___int_int_ [(.t 3), (.k (.func (.func f_vigil_revoke_serials_1) [] []))]), none⟩,
      .op ⟨(some 5), (.un .not (.t 4)), none⟩,
      .op ⟨(some 2), (.mv (.t 5)), none⟩])
    (.ret)),
    [.tmp 2], 6⟩
theorem c_vigil_revoke_serials : compFn Tryz.prog f_vigil_revoke_serials = some x_vigil_revoke_serials := by kernel_rfl

/- slices.Concat[[]int,int] -/
def x_slices_Concat___int_int_ : XFn := ⟨
    .seq
    (.ops [.op ⟨(some 2), (.mv (.k (.raw (.slice none 0 0)))), none⟩])
    (.seq
    (.ops [.op ⟨(some 3), (.mv (.k (.raw (.int .i64 0)))), none⟩])
    (.seq
    (.seq
    (.ops [.op ⟨(some 9), (.mv (.t 0)), none⟩,
      .op ⟨(some 10), (.len (.t 9)), none⟩,
      .op ⟨(some 11), (.mv (.k (.raw (.int .i64 0)))), none⟩])
    (.block 0
     (.loop
      (.seq
      (.ops [.op ⟨(some 12), (.bin .lss (.t 11) (.t 10)), none⟩])
      (.seq
      (.cond (.t 12)
       (.skip)
       (.exit 0))
      (.seq
      (.block 1
       (.seq
       (.ops [.op ⟨(some 13), (.idxAddr 1 (.t 9) (.t 11)), none⟩,
         .op ⟨(some 14), (.load none (.t 13)), none⟩,
         .op ⟨(some 5), (.mv (.t 14)), none⟩])
       (.seq
       (.ops [.op ⟨(some 15), (.mv (.t 3)), none⟩,
         .op ⟨(some 16), (.mv (.t 5)), none⟩,
         .op ⟨(some 17), (.len (.t 16)), none⟩,
         .op ⟨(some 18), (.bin .add (.t 15) (.t 17)), none⟩,
         .op ⟨(some 3), (.mv (.t 18)), none⟩])
       (.seq
       (.ops [.op ⟨(some 19), (.mv (.t 3)), none⟩,
         .op ⟨(some 20), (.bin .lss (.t 19) (.k (.raw (.int .i64 0)))), none⟩])
       (.cond (.t 20)
        (.ops [.op ⟨(some 21), .die, none⟩,
          .op ⟨none, .die, none⟩])
        (.skip))))))
      (.ops [.op ⟨(some 22), (.bin .add (.t 11) (.k (.raw (.int .i64 1)))), none⟩,
        .op ⟨(some 11), (.mv (.t 22)), none⟩])))))))
    (.seq
    (.ops [.op ⟨(some 23), (.mv (.t 3)), none⟩,
      .op ⟨(some 24), (.call f_slices_Grow___int_int_ [(.k (.raw (.slice none 0 0))), (.t 23)]), none⟩,
      .op ⟨(some 6), (.mv (.t 24)), none⟩])
    (.seq
    (.seq
    (.ops [.op ⟨(some 25), (.mv (.t 0)), none⟩,
      .op ⟨(some 26), (.len (.t 25)), none⟩,
      .op ⟨(some 27), (.mv (.k (.raw (.int .i64 0)))), none⟩])
    (.block 2
     (.loop
      (.seq
      (.ops [.op ⟨(some 28), (.bin .lss (.t 27) (.t 26)), none⟩])
      (.seq
      (.cond (.t 28)
       (.skip)
       (.exit 2))
      (.seq
      (.block 3
       (.seq
       (.ops [.op ⟨(some 29), (.idxAddr 1 (.t 25) (.t 27)), none⟩,
         .op ⟨(some 30), (.load none (.t 29)), none⟩,
         .op ⟨(some 8), (.mv (.t 30)), none⟩])
       (.ops [.op ⟨(some 31), (.mv (.t 6)), none⟩,
         .op ⟨(some 32), (.mv (.t 8)), none⟩,
         .op ⟨(some 33), (.append 1 8 (.t 31) (.t 32)), none⟩,
         .op ⟨(some 6), (.mv (.t 33)), none⟩])))
      (.ops [.op ⟨(some 34), (.bin .add (.t 27) (.k (.raw (.int .i64 1)))), none⟩,
        .op ⟨(some 27), (.mv (.t 34)), none⟩])))))))
    (.seq
    (.ops [.op ⟨(some 35), (.mv (.t 6)), none⟩,
      .op ⟨(some 2), (.mv (.t 35)), none⟩])
    (.ret)))))),
    [.tmp 2], 36⟩
theorem c_slices_Concat___int_int_ : compFn Tryz.prog f_slices_Concat___int_int_ = some x_slices_Concat___int_int_ := by kernel_rfl

/- vigil/revoke.twice -/
def x_vigil_revoke_twice : XFn := ⟨
    .seq
    (.ops [.op ⟨(some 2), (.mv (.k (.raw (.bool false)))), none⟩])
    (.seq
    (.ops [.op ⟨(some 3), (.mv (.t 0)), none⟩,
      .op ⟨(some 4), (.call f_slices_Values___int_int_ [(.t 3)]), none⟩,
      .op ⟨(some 5), (.call f_slices_Sorted_int_ [(.t 4)]), none⟩,
      .op ⟨(some 6), (.call f_slices_Compact___int_int_ [(.t 5)]), none⟩,
      .op ⟨(some 7), (.len (.t 6)), none⟩,
      .op ⟨(some 8), (.mv (.t 0)), none⟩,
      .op ⟨(some 9), (.len (.t 8)), none⟩,
      .op ⟨(some 10), (.bin .neq (.t 7) (.t 9)), none⟩,
      .op ⟨(some 2), (.mv (.t 10)), none⟩])
    (.ret)),
    [.tmp 2], 11⟩
theorem c_vigil_revoke_twice : compFn Tryz.prog f_vigil_revoke_twice = some x_vigil_revoke_twice := by kernel_rfl

/- vigil/vigilref08.Right -/
def x_vigilref08_Right : XFn := ⟨
    .seq
    (.ops [.op ⟨(some 2), (.mv (.k (.raw (.bool false)))), none⟩])
    (.seq
    (.seq
    (.ops [.op ⟨(some 3), (.mv (.k (.raw (.int .i64 0)))), none⟩])
    (.block 0
     (.loop
      (.seq
      (.seq
      (.ops [.op ⟨(some 4), (.mv (.t 3)), none⟩,
        .op ⟨(some 5), (.mv (.t 0)), none⟩,
        .op ⟨(some 6), (.len (.t 5)), none⟩,
        .op ⟨(some 7), (.bin .lss (.t 4) (.t 6)), none⟩])
      (.cond (.t 7)
       (.skip)
       (.exit 0)))
      (.seq
      (.block 1
       (.seq
       (.ops [.op ⟨(some 10), (.mv (.t 0)), none⟩,
         .op ⟨(some 11), (.mv (.t 3)), none⟩,
         .op ⟨(some 12), (.idxAddr 1 (.t 10) (.t 11)), none⟩,
         .op ⟨(some 13), (.load none (.t 12)), none⟩,
         .op ⟨(some 14), (.bin .lss (.t 13) (.k (.raw (.int .i64 1)))), none⟩,
         .op ⟨(some 15), (.mv (.t 14)), none⟩,
         .split 15,
         .op ⟨(some 16), (.mv (.t 0)), (some (15, false))⟩,
         .op ⟨(some 17), (.mv (.t 3)), (some (15, false))⟩,
         .op ⟨(some 18), (.idxAddr 1 (.t 16) (.t 17)), (some (15, false))⟩,
         .op ⟨(some 19), (.load none (.t 18)), (some (15, false))⟩,
         .op ⟨(some 20), (.bin .gtr (.t 19) (.k (.raw (.int .i64 65535)))), (some (15, false))⟩,
         .op ⟨(some 21), (.pick (.t 15) (.k (.raw (.bool true))) (.t 20)), none⟩])
       (.cond (.t 21)
        (.seq
        (.ops [.op ⟨(some 2), (.mv (.k (.raw (.bool false)))), none⟩])
        (.ret))
        (.skip))))
      (.ops [.op ⟨(some 8), (.mv (.t 3)), none⟩,
        .op ⟨(some 9), (.bin .add (.t 8) (.k (.raw (.int .i64 1)))), none⟩,
        .op ⟨(some 3), (.mv (.t 9)), none⟩]))))))
    (.seq
    (.ops [.op ⟨(some 2), (.mv (.k (.raw (.bool true)))), none⟩])
    (.ret))),
    [.tmp 2], 22⟩
theorem c_vigilref08_Right : compFn Tryz.prog f_vigilref08_Right = some x_vigilref08_Right := by kernel_rfl

/- vigil/vigilref08.Twice -/
def x_vigilref08_Twice : XFn := ⟨
    .seq
    (.ops [.op ⟨(some 2), (.mv (.k (.raw (.bool false)))), none⟩])
    (.seq
    (.seq
    (.ops [.op ⟨(some 3), (.mv (.k (.raw (.int .i64 0)))), none⟩])
    (.block 0
     (.loop
      (.seq
      (.seq
      (.ops [.op ⟨(some 5), (.mv (.t 3)), none⟩,
        .op ⟨(some 6), (.mv (.t 0)), none⟩,
        .op ⟨(some 7), (.len (.t 6)), none⟩,
        .op ⟨(some 8), (.bin .lss (.t 5) (.t 7)), none⟩])
      (.cond (.t 8)
       (.skip)
       (.exit 0)))
      (.seq
      (.block 1
       (.seq
       (.ops [.op ⟨(some 4), (.mv (.k (.raw (.int .i64 0)))), none⟩])
       (.block 2
        (.loop
         (.seq
         (.seq
         (.ops [.op ⟨(some 11), (.mv (.t 4)), none⟩,
           .op ⟨(some 12), (.mv (.t 3)), none⟩,
           .op ⟨(some 13), (.bin .lss (.t 11) (.t 12)), none⟩])
         (.cond (.t 13)
          (.skip)
          (.exit 2)))
         (.seq
         (.block 3
          (.seq
          (.draw [⟨(some 16), (.mv (.t 0)), none⟩,
            ⟨(some 17), (.mv (.t 3)), none⟩,
            ⟨(some 18), (.idxAddr 1 (.t 16) (.t 17)), none⟩,
            ⟨(some 19), (.load none (.t 18)), none⟩,
            ⟨(some 20), (.mv (.t 0)), none⟩,
            ⟨(some 21), (.mv (.t 4)), none⟩,
            ⟨(some 22), (.idxAddr 1 (.t 20) (.t 21)), none⟩,
            ⟨(some 23), (.load none (.t 22)), none⟩,
            ⟨(some 24), (.bin .eql (.t 19) (.t 23)), none⟩]
            [[], [], [1, 0], [0, 1, 2], [], [], [5, 4], [4, 5, 6], [6, 5, 4, 7, 2, 1, 0, 3]]
            [.q 0, .q 1, .q 2, .q 3, .q 4, .q 5, .q 6, .q 7, .q 8])
          (.cond (.t 24)
           (.seq
           (.ops [.op ⟨(some 2), (.mv (.k (.raw (.bool true)))), none⟩])
           (.ret))
           (.skip))))
         (.ops [.op ⟨(some 14), (.mv (.t 4)), none⟩,
           .op ⟨(some 15), (.bin .add (.t 14) (.k (.raw (.int .i64 1)))), none⟩,
           .op ⟨(some 4), (.mv (.t 15)), none⟩])))))))
      (.ops [.op ⟨(some 9), (.mv (.t 3)), none⟩,
        .op ⟨(some 10), (.bin .add (.t 9) (.k (.raw (.int .i64 1)))), none⟩,
        .op ⟨(some 3), (.mv (.t 10)), none⟩]))))))
    (.seq
    (.ops [.op ⟨(some 2), (.mv (.k (.raw (.bool false)))), none⟩])
    (.ret))),
    [.tmp 2], 25⟩
theorem c_vigilref08_Twice : compFn Tryz.prog f_vigilref08_Twice = some x_vigilref08_Twice := by kernel_rfl

/- vigil/vigilref09.Right -/
def x_vigilref09_Right : XFn := ⟨
    .seq
    (.ops [.op ⟨(some 1), (.box (.t 0)), none⟩,
      .op ⟨(some 2), (.mv (.k (.raw (.bool false)))), none⟩])
    (.seq
    (.seq
    (.ops [.op ⟨(some 3), (.mv (.k (.raw (.int .i64 0)))), none⟩])
    (.block 0
     (.loop
      (.seq
      (.seq
      (.ops [.op ⟨(some 4), (.mv (.t 3)), none⟩,
        .op ⟨(some 5), (.bin .lss (.t 4) (.k (.raw (.int .i64 4)))), none⟩])
      (.cond (.t 5)
       (.skip)
       (.exit 0)))
      (.seq
      (.block 1
       (.seq
       (.ops [.op ⟨(some 8), (.mv (.t 3)), none⟩,
         .op ⟨(some 9), (.idxAddrArr 4 1 (.t 1) (.t 8)), none⟩,
         .op ⟨(some 10), (.load none (.t 9)), none⟩,
         .op ⟨(some 11), (.bin .lss (.t 10) (.k (.raw (.int .i64 0)))), none⟩,
         .op ⟨(some 12), (.mv (.t 11)), none⟩,
         .split 12,
         .op ⟨(some 13), (.mv (.t 3)), (some (12, false))⟩,
         .op ⟨(some 14), (.idxAddrArr 4 1 (.t 1) (.t 13)), (some (12, false))⟩,
         .op ⟨(some 15), (.load none (.t 14)), (some (12, false))⟩,
         .op ⟨(some 16), (.bin .gtr (.t 15) (.k (.raw (.int .i64 256)))), (some (12, false))⟩,
         .op ⟨(some 17), (.pick (.t 12) (.k (.raw (.bool true))) (.t 16)), none⟩])
       (.cond (.t 17)
        (.seq
        (.ops [.op ⟨(some 2), (.mv (.k (.raw (.bool false)))), none⟩])
        (.ret))
        (.skip))))
      (.ops [.op ⟨(some 6), (.mv (.t 3)), none⟩,
        .op ⟨(some 7), (.bin .add (.t 6) (.k (.raw (.int .i64 1)))), none⟩,
        .op ⟨(some 3), (.mv (.t 7)), none⟩]))))))
    (.seq
    (.ops [.op ⟨(some 2), (.mv (.k (.raw (.bool true)))), none⟩])
    (.ret))),
    [.tmp 2], 18⟩
theorem c_vigilref09_Right : compFn Tryz.prog f_vigilref09_Right = some x_vigilref09_Right := by kernel_rfl

/- vigil/vigilref09.Answer -/
def x_vigilref09_Answer : XFn := ⟨
    .seq
    (.ops [.op ⟨(some 4), (.box (.t 1)), none⟩,
      .op ⟨(some 6), (.alloc [(.int .i64 0), (.int .i64 0), (.int .i64 0), (.int .i64 0), (.slice none 0 0), (.slice none 0 0), (.slice none 0 0), (.slice none 0 0)]), none⟩])
    (.seq
    (.ops [.op ⟨(some 11), (.build [(.int .i64 0), (.int .i64 0), (.int .i64 0), (.int .i64 0), (.slice none 0 0), (.slice none 0 0), (.slice none 0 0), (.slice none 0 0)] []), none⟩,
      .op ⟨(some 7), (.alloc [(.int .i64 0), (.int .i64 0), (.int .i64 0), (.int .i64 0), (.slice none 0 0), (.slice none 0 0), (.slice none 0 0), (.slice none 0 0)]), none⟩,
      .op ⟨none, (.store 8 (.t 7) (.t 11)), none⟩])
    (.seq
    (.ops [.op ⟨(some 12), (.mv (.t 2)), none⟩,
      .op ⟨(some 13), (.bin .sub (.t 12) (.k (.raw (.int .i64 16)))), none⟩,
      .op ⟨(some 14), (.bin .quo (.t 13) (.k (.raw (.int .i64 2)))), none⟩,
      .op ⟨(some 8), (.mv (.t 14)), none⟩])
    (.seq
    (.seq
    (.ops [.op ⟨(some 9), (.mv (.k (.raw (.int .i64 0)))), none⟩])
    (.block 0
     (.loop
      (.seq
      (.seq
      (.ops [.op ⟨(some 15), (.mv (.t 9)), none⟩,
        .op ⟨(some 16), (.bin .lss (.t 15) (.k (.raw (.int .i64 4)))), none⟩])
      (.cond (.t 16)
       (.skip)
       (.exit 0)))
      (.seq
      (.block 1
       (.seq
       (.draw [⟨(some 19), (.mv (.t 9)), none⟩,
         ⟨(some 20), (.mv (.t 9)), none⟩,
         ⟨(some 21), (.idxAddrArr 4 1 (.t 4) (.t 20)), none⟩,
         ⟨(some 22), (.load none (.t 21)), none⟩,
         ⟨(some 23), (.mv (.t 0)), none⟩,
         ⟨(some 24), (.mv (.t 9)), none⟩,
         ⟨(some 25), (.nilCheck (.t 23)), none⟩,
         ⟨(some 26), (.fieldAddr 0 (.t 25)), none⟩,
         ⟨(some 27), (.idxAddrArr 4 1 (.t 26) (.t 24)), none⟩,
         ⟨(some 28), (.load none (.t 27)), none⟩,
         ⟨(some 29), (.len (.t 28)), none⟩,
         ⟨(some 30), (.minMax false (.t 22) [(.t 29)]), none⟩,
         ⟨(some 31), (.fieldAddr 0 (.t 7)), none⟩,
         ⟨(some 32), (.idxAddrArr 4 1 (.t 31) (.t 19)), none⟩,
         ⟨none, (.store 1 (.t 32) (.t 30)), none⟩]
         [[], [], [1], [1, 2], [], [], [4], [4, 6], [5, 6, 4, 7], [7, 4, 6, 5, 8], [8, 5, 6, 4, 7, 9], [9, 7, 4, 6, 5, 8, 10, 2, 1, 3], [], [11, 10, 9, 8, 7, 6, 5, 4, 3, 2, 1, 0, 12], [12, 0, 1, 2, 3, 4, 5, 6, 7, 8, 9, 10, 11, 13]]
         [.q 0, .q 1, .q 2, .q 3, .q 4, .q 5, .q 6, .q 7, .q 8, .q 9, .q 10, .q 11, .q 12, .q 13, .eff 14])
       (.seq
       (.ops [.op ⟨(some 33), (.mv (.t 9)), none⟩,
         .op ⟨(some 34), (.fieldAddr 0 (.t 7)), none⟩,
         .op ⟨(some 35), (.idxAddrArr 4 1 (.t 34) (.t 33)), none⟩,
         .op ⟨(some 36), (.load none (.t 35)), none⟩,
         .op ⟨(some 10), (.mv (.t 36)), none⟩])
       (.block 2
        (.loop
         (.seq
         (.seq
         (.ops [.op ⟨(some 37), (.mv (.t 10)), none⟩,
           .op ⟨(some 38), (.mv (.t 0)), none⟩,
           .op ⟨(some 39), (.mv (.t 9)), none⟩,
           .op ⟨(some 40), (.nilCheck (.t 38)), none⟩,
           .op ⟨(some 41), (.fieldAddr 0 (.t 40)), none⟩,
           .op ⟨(some 42), (.idxAddrArr 4 1 (.t 41) (.t 39)), none⟩,
           .op ⟨(some 43), (.load none (.t 42)), none⟩,
           .op ⟨(some 44), (.len (.t 43)), none⟩,
           .op ⟨(some 45), (.bin .lss (.t 37) (.t 44)), none⟩,
           .op ⟨(some 46), (.mv (.t 45)), none⟩,
           .split 46,
           .op ⟨(some 47), (.mv (.t 8)), (some (46, true))⟩,
           .op ⟨(some 48), (.bin .gtr (.t 47) (.k (.raw (.int .i64 0)))), (some (46, true))⟩,
           .op ⟨(some 49), (.pick (.t 46) (.t 48) (.k (.raw (.bool false)))), none⟩])
         (.cond (.t 49)
          (.skip)
          (.exit 2)))
         (.seq
         (.block 3
          (.seq
          (.draw [⟨(some 52), (.mv (.t 9)), none⟩,
            ⟨(some 53), (.mv (.t 9)), none⟩,
            ⟨(some 54), (.fieldAddr 4 (.t 7)), none⟩,
            ⟨(some 55), (.idxAddrArr 4 1 (.t 54) (.t 53)), none⟩,
            ⟨(some 56), (.load none (.t 55)), none⟩,
            ⟨(some 57), (.mv (.t 0)), none⟩,
            ⟨(some 58), (.mv (.t 9)), none⟩,
            ⟨(some 59), (.nilCheck (.t 57)), none⟩,
            ⟨(some 60), (.fieldAddr 0 (.t 59)), none⟩,
            ⟨(some 61), (.idxAddrArr 4 1 (.t 60) (.t 58)), none⟩,
            ⟨(some 62), (.load none (.t 61)), none⟩,
            ⟨(some 63), (.mv (.t 10)), none⟩,
            ⟨(some 64), (.idxAddr 1 (.t 62) (.t 63)), none⟩,
            ⟨(some 65), (.load none (.t 64)), none⟩,
            ⟨(some 66), (.buildF 1 [(.int .i64 0)] [(0, 1, (.t 65))]), none⟩,
            ⟨(some 67), (.append 1 8 (.t 56) (.t 66)), none⟩,
            ⟨(some 68), (.fieldAddr 4 (.t 7)), none⟩,
            ⟨(some 69), (.idxAddrArr 4 1 (.t 68) (.t 52)), none⟩,
            ⟨none, (.store 1 (.t 69) (.t 67)), none⟩]
            [[], [], [], [1, 2], [2, 1, 3], [], [], [5], [5, 7], [6, 7, 5, 8], [8, 5, 7, 6, 9], [], [11, 9, 6, 7, 5, 8, 10], [10, 8, 5, 7, 6, 9, 11, 12], [12, 11, 9, 6, 7, 5, 8, 10, 13], [13, 10, 8, 5, 7, 6, 9, 11, 12, 14, 3, 1, 2, 4], [], [15, 14, 13, 12, 11, 10, 9, 8, 7, 6, 5, 4, 3, 2, 1, 0, 16], [16, 0, 1, 2, 3, 4, 5, 6, 7, 8, 9, 10, 11, 12, 13, 14, 15, 17]]
            [.q 0, .q 1, .q 2, .q 3, .q 4, .q 5, .q 6, .q 7, .q 8, .q 9, .q 10, .q 11, .q 12, .q 13, .q 14, .q 16, .eff 15, .q 17, .eff 18])
          (.ops [.op ⟨(some 70), (.mv (.t 8)), none⟩,
            .op ⟨(some 71), (.bin .sub (.t 70) (.k (.raw (.int .i64 1)))), none⟩,
            .op ⟨(some 8), (.mv (.t 71)), none⟩])))
         (.ops [.op ⟨(some 50), (.mv (.t 10)), none⟩,
           .op ⟨(some 51), (.bin .add (.t 50) (.k (.raw (.int .i64 1)))), none⟩,
           .op ⟨(some 10), (.mv (.t 51)), none⟩]))))))))
      (.ops [.op ⟨(some 17), (.mv (.t 9)), none⟩,
        .op ⟨(some 18), (.bin .add (.t 17) (.k (.raw (.int .i64 1)))), none⟩,
        .op ⟨(some 9), (.mv (.t 18)), none⟩]))))))
    (.seq
    (.ops [.op ⟨(some 72), (.load (some 8) (.t 7)), none⟩,
      .op ⟨none, (.store 8 (.t 6) (.t 72)), none⟩])
    (.ret))))),
    [.cell 6 (some 8)], 73⟩
theorem c_vigilref09_Answer : compFn Tryz.prog f_vigilref09_Answer = some x_vigilref09_Answer := by kernel_rfl

/- vigil/vigilref09.Bytes -/
def x_vigilref09_Bytes : XFn := ⟨
    .seq
    (.ops [.op ⟨(some 1), (.box (.t 0)), none⟩,
      .op ⟨(some 2), (.mv (.k (.raw (.slice none 0 0)))), none⟩])
    (.seq
    (.ops [.op ⟨(some 3), (.mv (.k (.raw (.slice none 0 0)))), none⟩])
    (.seq
    (.seq
    (.ops [.op ⟨(some 4), (.mv (.k (.raw (.int .i64 0)))), none⟩])
    (.block 0
     (.loop
      (.seq
      (.seq
      (.ops [.op ⟨(some 5), (.mv (.t 4)), none⟩,
        .op ⟨(some 6), (.bin .lss (.t 5) (.k (.raw (.int .i64 4)))), none⟩])
      (.cond (.t 6)
       (.skip)
       (.exit 0)))
      (.seq
      (.block 1
       (.ops [.op ⟨(some 9), (.mv (.t 3)), none⟩,
         .op ⟨(some 10), (.mv (.t 4)), none⟩,
         .op ⟨(some 11), (.fieldAddr 0 (.t 1)), none⟩,
         .op ⟨(some 12), (.idxAddrArr 4 1 (.t 11) (.t 10)), none⟩,
         .op ⟨(some 13), (.load none (.t 12)), none⟩,
         .op ⟨(some 14), (.build [(.int .i64 0), (.int .i64 0), (.slice none 0 0)] [(0, 1, (.k (.raw (.int .i64 1)))), (1, 1, (.t 13))]), none⟩,
         .op ⟨(some 15), (.call f_vigilref04_Out [(.t 14)]), none⟩,
         .op ⟨(some 16), (.append 1 1 (.t 9) (.t 15)), none⟩,
         .op ⟨(some 3), (.mv (.t 16)), none⟩]))
      (.ops [.op ⟨(some 7), (.mv (.t 4)), none⟩,
        .op ⟨(some 8), (.bin .add (.t 7) (.k (.raw (.int .i64 1)))), none⟩,
        .op ⟨(some 4), (.mv (.t 8)), none⟩]))))))
    (.seq
    (.ops [.op ⟨(some 17), (.mv (.t 3)), none⟩,
      .op ⟨(some 18), (.fieldAddr 4 (.t 1)), none⟩,
      .op ⟨(some 19), (.sliceArr 8 1 (.t 18) none none none), none⟩,
      .op ⟨(some 20), (.append 1 1 (.t 17) (.t 19)), none⟩,
      .op ⟨(some 2), (.mv (.t 20)), none⟩])
    (.ret)))),
    [.tmp 2], 21⟩
theorem c_vigilref09_Bytes : compFn Tryz.prog f_vigilref09_Bytes = some x_vigilref09_Bytes := by kernel_rfl

/- vigil/vigilref09.Of -/
def x_vigilref09_Of : XFn := ⟨
    .seq
    (.ops [.op ⟨(some 2), (.box (.t 0)), none⟩,
      .op ⟨(some 4), (.alloc [(.int .i64 0), (.int .i64 0), (.int .i64 0), (.int .i64 0), (.int .u8 0), (.int .u8 0), (.int .u8 0), (.int .u8 0), (.int .u8 0), (.int .u8 0), (.int .u8 0), (.int .u8 0)]), none⟩])
    (.seq
    (.ops [.op ⟨(some 9), (.build [(.int .i64 0), (.int .i64 0), (.int .i64 0), (.int .i64 0), (.int .u8 0), (.int .u8 0), (.int .u8 0), (.int .u8 0), (.int .u8 0), (.int .u8 0), (.int .u8 0), (.int .u8 0)] []), none⟩,
      .op ⟨(some 5), (.alloc [(.int .i64 0), (.int .i64 0), (.int .i64 0), (.int .i64 0), (.int .u8 0), (.int .u8 0), (.int .u8 0), (.int .u8 0), (.int .u8 0), (.int .u8 0), (.int .u8 0), (.int .u8 0)]), none⟩,
      .op ⟨none, (.store 12 (.t 5) (.t 9)), none⟩])
    (.seq
    (.ops [.op ⟨(some 10), (.mv (.t 1)), none⟩,
      .op ⟨(some 11), (.load (some 72) (.t 2)), none⟩,
      .op ⟨(some 12), (.call f_vigilref08_Set__Print [(.t 10), (.t 11)]), none⟩,
      .op ⟨(some 6), (.alloc [(.int .u8 0), (.int .u8 0), (.int .u8 0), (.int .u8 0), (.int .u8 0), (.int .u8 0), (.int .u8 0), (.int .u8 0), (.int .u8 0), (.int .u8 0), (.int .u8 0), (.int .u8 0), (.int .u8 0), (.int .u8 0), (.int .u8 0), (.int .u8 0), (.int .u8 0), (.int .u8 0), (.int .u8 0), (.int .u8 0), (.int .u8 0), (.int .u8 0), (.int .u8 0), (.int .u8 0), (.int .u8 0), (.int .u8 0), (.int .u8 0), (.int .u8 0), (.int .u8 0), (.int .u8 0), (.int .u8 0), (.int .u8 0)]), none⟩,
      .op ⟨none, (.store 32 (.t 6) (.t 12)), none⟩])
    (.seq
    (.seq
    (.ops [.op ⟨(some 7), (.mv (.k (.raw (.int .i64 0)))), none⟩])
    (.block 0
     (.loop
      (.seq
      (.seq
      (.ops [.op ⟨(some 13), (.mv (.t 7)), none⟩,
        .op ⟨(some 14), (.bin .lss (.t 13) (.k (.raw (.int .i64 4)))), none⟩])
      (.cond (.t 14)
       (.skip)
       (.exit 0)))
      (.seq
      (.block 1
       (.ops [.op ⟨(some 17), (.mv (.t 7)), none⟩,
         .op ⟨(some 18), (.mv (.t 1)), none⟩,
         .op ⟨(some 19), (.mv (.t 7)), none⟩,
         .op ⟨(some 20), (.nilCheck (.t 18)), none⟩,
         .op ⟨(some 21), (.fieldAddr 0 (.t 20)), none⟩,
         .op ⟨(some 22), (.idxAddrArr 4 1 (.t 21) (.t 19)), none⟩,
         .op ⟨(some 23), (.load none (.t 22)), none⟩,
         .op ⟨(some 24), (.len (.t 23)), none⟩,
         .op ⟨(some 25), (.fieldAddr 0 (.t 5)), none⟩,
         .op ⟨(some 26), (.idxAddrArr 4 1 (.t 25) (.t 17)), none⟩,
         .op ⟨none, (.store 1 (.t 26) (.t 24)), none⟩]))
      (.ops [.op ⟨(some 15), (.mv (.t 7)), none⟩,
        .op ⟨(some 16), (.bin .add (.t 15) (.k (.raw (.int .i64 1)))), none⟩,
        .op ⟨(some 7), (.mv (.t 16)), none⟩]))))))
    (.seq
    (.seq
    (.ops [.op ⟨(some 8), (.mv (.k (.raw (.int .i64 0)))), none⟩])
    (.block 2
     (.loop
      (.seq
      (.seq
      (.ops [.op ⟨(some 27), (.mv (.t 8)), none⟩,
        .op ⟨(some 28), (.bin .lss (.t 27) (.k (.raw (.int .i64 8)))), none⟩])
      (.cond (.t 28)
       (.skip)
       (.exit 2)))
      (.seq
      (.block 3
       (.ops [.op ⟨(some 31), (.mv (.t 8)), none⟩,
         .op ⟨(some 32), (.mv (.t 8)), none⟩,
         .op ⟨(some 33), (.idxAddrArr 32 1 (.t 6) (.t 32)), none⟩,
         .op ⟨(some 34), (.load none (.t 33)), none⟩,
         .op ⟨(some 35), (.fieldAddr 4 (.t 5)), none⟩,
         .op ⟨(some 36), (.idxAddrArr 8 1 (.t 35) (.t 31)), none⟩,
         .op ⟨none, (.store 1 (.t 36) (.t 34)), none⟩]))
      (.ops [.op ⟨(some 29), (.mv (.t 8)), none⟩,
        .op ⟨(some 30), (.bin .add (.t 29) (.k (.raw (.int .i64 1)))), none⟩,
        .op ⟨(some 8), (.mv (.t 30)), none⟩]))))))
    (.seq
    (.ops [.op ⟨(some 37), (.load (some 12) (.t 5)), none⟩,
      .op ⟨none, (.store 12 (.t 4) (.t 37)), none⟩])
    (.ret)))))),
    [.cell 4 (some 12)], 38⟩
theorem c_vigilref09_Of : compFn Tryz.prog f_vigilref09_Of = some x_vigilref09_Of := by kernel_rfl

/- vigil/vigilref08.Bytes -/
def x_vigilref08_Bytes : XFn := ⟨
    .seq
    (.ops [.op ⟨(some 1), (.box (.t 0)), none⟩,
      .op ⟨(some 2), (.mv (.k (.raw (.slice none 0 0)))), none⟩])
    (.seq
    (.ops [.op ⟨(some 3), (.mv (.k (.raw (.slice none 0 0)))), none⟩])
    (.seq
    (.seq
    (.ops [.op ⟨(some 4), (.mv (.k (.raw (.int .i64 0)))), none⟩])
    (.block 0
     (.loop
      (.seq
      (.seq
      (.ops [.op ⟨(some 6), (.mv (.t 4)), none⟩,
        .op ⟨(some 7), (.bin .lss (.t 6) (.k (.raw (.int .i64 4)))), none⟩])
      (.cond (.t 7)
       (.skip)
       (.exit 0)))
      (.seq
      (.block 1
       (.seq
       (.ops [.op ⟨(some 10), (.mv (.t 3)), none⟩,
         .op ⟨(some 11), (.mv (.t 4)), none⟩,
         .op ⟨(some 12), (.fieldAddr 0 (.t 1)), none⟩,
         .op ⟨(some 13), (.idxAddrArr 4 1 (.t 12) (.t 11)), none⟩,
         .op ⟨(some 14), (.load none (.t 13)), none⟩,
         .op ⟨(some 15), (.build [(.int .i64 0), (.int .i64 0), (.slice none 0 0)] [(0, 1, (.k (.raw (.int .i64 1)))), (1, 1, (.t 14))]), none⟩,
         .op ⟨(some 16), (.call f_vigilref04_Out [(.t 15)]), none⟩,
         .op ⟨(some 17), (.append 1 1 (.t 10) (.t 16)), none⟩,
         .op ⟨(some 3), (.mv (.t 17)), none⟩])
       (.seq
       (.ops [.op ⟨(some 18), (.mv (.t 3)), none⟩,
         .op ⟨(some 19), (.mv (.t 4)), none⟩,
         .op ⟨(some 20), (.fieldAddr 4 (.t 1)), none⟩,
         .op ⟨(some 21), (.idxAddrArr 4 1 (.t 20) (.t 19)), none⟩,
         .op ⟨(some 22), (.load none (.t 21)), none⟩,
         .op ⟨(some 23), (.len (.t 22)), none⟩,
         .op ⟨(some 24), (.build [(.int .i64 0), (.int .i64 0), (.slice none 0 0)] [(0, 1, (.k (.raw (.int .i64 1)))), (1, 1, (.t 23))]), none⟩,
         .op ⟨(some 25), (.call f_vigilref04_Out [(.t 24)]), none⟩,
         .op ⟨(some 26), (.append 1 1 (.t 18) (.t 25)), none⟩,
         .op ⟨(some 3), (.mv (.t 26)), none⟩])
       (.seq
       (.ops [.op ⟨(some 5), (.mv (.k (.raw (.int .i64 0)))), none⟩])
       (.block 2
        (.loop
         (.seq
         (.seq
         (.ops [.op ⟨(some 27), (.mv (.t 5)), none⟩,
           .op ⟨(some 28), (.mv (.t 4)), none⟩,
           .op ⟨(some 29), (.fieldAddr 4 (.t 1)), none⟩,
           .op ⟨(some 30), (.idxAddrArr 4 1 (.t 29) (.t 28)), none⟩,
           .op ⟨(some 31), (.load none (.t 30)), none⟩,
           .op ⟨(some 32), (.len (.t 31)), none⟩,
           .op ⟨(some 33), (.bin .lss (.t 27) (.t 32)), none⟩])
         (.cond (.t 33)
          (.skip)
          (.exit 2)))
         (.seq
         (.block 3
          (.ops [.op ⟨(some 36), (.mv (.t 3)), none⟩,
            .op ⟨(some 37), (.mv (.t 4)), none⟩,
            .op ⟨(some 38), (.fieldAddr 4 (.t 1)), none⟩,
            .op ⟨(some 39), (.idxAddrArr 4 1 (.t 38) (.t 37)), none⟩,
            .op ⟨(some 40), (.load none (.t 39)), none⟩,
            .op ⟨(some 41), (.mv (.t 5)), none⟩,
            .op ⟨(some 42), (.idxAddr 1 (.t 40) (.t 41)), none⟩,
            .op ⟨(some 43), (.load none (.t 42)), none⟩,
            .op ⟨(some 44), (.build [(.int .i64 0), (.int .i64 0), (.slice none 0 0)] [(0, 1, (.k (.raw (.int .i64 1)))), (1, 1, (.t 43))]), none⟩,
            .op ⟨(some 45), (.call f_vigilref04_Out [(.t 44)]), none⟩,
            .op ⟨(some 46), (.append 1 1 (.t 36) (.t 45)), none⟩,
            .op ⟨(some 3), (.mv (.t 46)), none⟩]))
         (.ops [.op ⟨(some 34), (.mv (.t 5)), none⟩,
           .op ⟨(some 35), (.bin .add (.t 34) (.k (.raw (.int .i64 1)))), none⟩,
           .op ⟨(some 5), (.mv (.t 35)), none⟩])))))))))
      (.ops [.op ⟨(some 8), (.mv (.t 4)), none⟩,
        .op ⟨(some 9), (.bin .add (.t 8) (.k (.raw (.int .i64 1)))), none⟩,
        .op ⟨(some 4), (.mv (.t 9)), none⟩]))))))
    (.seq
    (.ops [.op ⟨(some 47), (.mv (.t 3)), none⟩,
      .op ⟨(some 2), (.mv (.t 47)), none⟩])
    (.ret)))),
    [.tmp 2], 48⟩
theorem c_vigilref08_Bytes : compFn Tryz.prog f_vigilref08_Bytes = some x_vigilref08_Bytes := by kernel_rfl

/- (*vigil/wire.Reader).Err -/
def x___vigil_wire_Reader__Err : XFn := ⟨
    .seq
    (.ops [.op ⟨(some 2), (.mv (.k (.raw (.int .i64 0)))), none⟩])
    (.seq
    (.seq
    (.ops [.op ⟨(some 3), (.mv (.t 0)), none⟩,
      .op ⟨(some 4), (.eq .ptr false (.t 3) (.k (.raw (.pointer none)))), none⟩])
    (.cond (.t 4)
     (.seq
     (.ops [.op ⟨(some 2), (.mv (.k (.raw (.int .i64 11)))), none⟩])
     (.ret))
     (.skip)))
    (.seq
    (.ops [.op ⟨(some 5), (.mv (.t 0)), none⟩,
      .op ⟨(some 6), (.nilCheck (.t 5)), none⟩,
      .op ⟨(some 7), (.fieldAddr 0 (.t 6)), none⟩,
      .op ⟨(some 8), (.fieldAddr 1 (.t 7)), none⟩,
      .op ⟨(some 9), (.load none (.t 8)), none⟩,
      .op ⟨(some 2), (.mv (.t 9)), none⟩])
    (.ret))),
    [.tmp 2], 10⟩
theorem c___vigil_wire_Reader__Err : compFn Tryz.prog f___vigil_wire_Reader__Err = some x___vigil_wire_Reader__Err := by kernel_rfl

/- vigil/delta.right -/
def x_vigil_delta_right : XFn := ⟨
    .seq
    (.ops [.op ⟨(some 1), (.box (.t 0)), none⟩,
      .op ⟨(some 2), (.mv (.k (.raw (.bool false)))), none⟩])
    (.seq
    (.ops [.op ⟨(some 3), (.sliceArr 4 1 (.t 1) none none none), none⟩,
      .op ⟨(some 4), (.call f_slices_ContainsFunc___int_int_ [(.t 3), (.k (.func (.func f_vigil_delta_right_1) [] []))]), none⟩,
      .op ⟨(some 5), (.un .not (.t 4)), none⟩,
      .op ⟨(some 2), (.mv (.t 5)), none⟩])
    (.ret)),
    [.tmp 2], 6⟩
theorem c_vigil_delta_right : compFn Tryz.prog f_vigil_delta_right = some x_vigil_delta_right := by kernel_rfl

/- bytes.Clone -/
def x_bytes_Clone : XFn := ⟨
    .seq
    (.ops [.op ⟨(some 2), (.mv (.k (.raw (.slice none 0 0)))), none⟩])
    (.seq
    (.seq
    (.ops [.op ⟨(some 3), (.mv (.t 0)), none⟩,
      .op ⟨(some 4), (.isNil false (.t 3)), none⟩])
    (.cond (.t 4)
     (.seq
     (.ops [.op ⟨(some 2), (.mv (.k (.raw (.slice none 0 0)))), none⟩])
     (.ret))
     (.skip)))
    (.seq
    (.ops [.op ⟨(some 5), (.buildF 0 [] []), none⟩,
      .op ⟨(some 6), (.mv (.t 0)), none⟩,
      .op ⟨(some 7), (.append 1 1 (.t 5) (.t 6)), none⟩,
      .op ⟨(some 2), (.mv (.t 7)), none⟩])
    (.ret))),
    [.tmp 2], 8⟩
theorem c_bytes_Clone : compFn Tryz.prog f_bytes_Clone = some x_bytes_Clone := by kernel_rfl

/- (*vigil/wire.rest).fail -/
def x___vigil_wire_rest__fail : XFn := ⟨
    .seq
    (.ops [.op ⟨(some 4), (.mv (.t 0)), none⟩,
      .op ⟨(some 5), (.nilCheck (.t 4)), none⟩,
      .op ⟨(some 6), (.fieldAddr 1 (.t 5)), none⟩,
      .op ⟨(some 7), (.load none (.t 6)), none⟩,
      .op ⟨(some 8), (.bin .eql (.t 7) (.k (.raw (.int .i64 0)))), none⟩])
    (.cond (.t 8)
     (.ops [.op ⟨(some 9), (.mv (.t 0)), none⟩,
       .op ⟨(some 10), (.mv (.t 0)), none⟩,
       .op ⟨(some 11), (.mv (.t 1)), none⟩,
       .op ⟨(some 12), (.nilCheck (.t 9)), none⟩,
       .op ⟨(some 13), (.fieldAddr 0 (.t 12)), none⟩,
       .op ⟨none, (.store 1 (.t 13) (.k (.raw (.slice none 0 0)))), none⟩,
       .op ⟨(some 14), (.nilCheck (.t 10)), none⟩,
       .op ⟨(some 15), (.fieldAddr 1 (.t 14)), none⟩,
       .op ⟨none, (.store 1 (.t 15) (.t 11)), none⟩])
     (.skip)),
    [], 16⟩
theorem c___vigil_wire_rest__fail : compFn Tryz.prog f___vigil_wire_rest__fail = some x___vigil_wire_rest__fail := by kernel_rfl

/- (*vigil/wire.Reader).End -/
def x___vigil_wire_Reader__End : XFn := ⟨
    .seq
    (.ops [.op ⟨(some 2), (.mv (.k (.raw (.int .i64 0)))), none⟩])
    (.seq
    (.seq
    (.ops [.op ⟨(some 4), (.mv (.t 0)), none⟩,
      .op ⟨(some 5), (.call f___vigil_wire_Reader__Err [(.t 4)]), none⟩,
      .op ⟨(some 3), (.mv (.t 5)), none⟩])
    (.seq
    (.ops [.op ⟨(some 6), (.mv (.t 3)), none⟩,
      .op ⟨(some 7), (.bin .neq (.t 6) (.k (.raw (.int .i64 0)))), none⟩])
    (.cond (.t 7)
     (.seq
     (.ops [.op ⟨(some 8), (.mv (.t 3)), none⟩,
       .op ⟨(some 2), (.mv (.t 8)), none⟩])
     (.ret))
     (.skip))))
    (.seq
    (.seq
    (.ops [.op ⟨(some 9), (.mv (.t 0)), none⟩,
      .op ⟨(some 10), (.call f___vigil_wire_Reader__Left [(.t 9)]), none⟩,
      .op ⟨(some 11), (.bin .gtr (.t 10) (.k (.raw (.int .i64 0)))), none⟩])
    (.cond (.t 11)
     (.seq
     (.ops [.op ⟨(some 2), (.mv (.k (.raw (.int .i64 3)))), none⟩])
     (.ret))
     (.skip)))
    (.seq
    (.ops [.op ⟨(some 2), (.mv (.k (.raw (.int .i64 0)))), none⟩])
    (.ret)))),
    [.tmp 2], 12⟩
theorem c___vigil_wire_Reader__End : compFn Tryz.prog f___vigil_wire_Reader__End = some x___vigil_wire_Reader__End := by kernel_rfl

/- (vigil/revoke.Delta).check -/
def x__vigil_revoke_Delta__check : XFn := ⟨
    .seq
    (.ops [.op ⟨(some 1), (.box (.t 0)), none⟩,
      .op ⟨(some 2), (.mv (.k (.raw (.int .i64 0)))), none⟩])
    (.seq
    (.seq
    (.ops [.op ⟨(some 5), (.fieldAddr 0 (.t 1)), none⟩,
      .op ⟨(some 6), (.load (some 4) (.t 5)), none⟩,
      .op ⟨(some 7), (.mv (.k (.raw (.int .i64 0)))), none⟩])
    (.block 0
     (.loop
      (.seq
      (.ops [.op ⟨(some 8), (.bin .lss (.t 7) (.k (.raw (.int .i64 4)))), none⟩])
      (.seq
      (.cond (.t 8)
       (.skip)
       (.exit 0))
      (.seq
      (.block 1
       (.seq
       (.ops [.op ⟨(some 9), (.mv (.t 7)), none⟩,
         .op ⟨(some 10), (.idxArr 4 1 none (.t 6) (.t 7)), none⟩,
         .op ⟨(some 3), (.mv (.t 9)), none⟩,
         .op ⟨(some 4), (.mv (.t 10)), none⟩])
       (.seq
       (.ops [.op ⟨(some 11), (.mv (.t 4)), none⟩,
         .op ⟨(some 12), (.bin .lss (.t 11) (.k (.raw (.int .i64 0)))), none⟩,
         .op ⟨(some 13), (.mv (.t 12)), none⟩,
         .split 13,
         .op ⟨(some 14), (.mv (.t 4)), (some (13, false))⟩,
         .op ⟨(some 15), (.bin .gtr (.t 14) (.k (.raw (.int .i64 256)))), (some (13, false))⟩,
         .op ⟨(some 16), (.pick (.t 13) (.k (.raw (.bool true))) (.t 15)), none⟩,
         .op ⟨(some 17), (.mv (.t 16)), none⟩,
         .split 17,
         .op ⟨(some 18), (.mv (.t 3)), (some (17, false))⟩,
         .op ⟨(some 19), (.fieldAddr 4 (.t 1)), (some (17, false))⟩,
         .op ⟨(some 20), (.idxAddrArr 4 1 (.t 19) (.t 18)), (some (17, false))⟩,
         .op ⟨(some 21), (.load none (.t 20)), (some (17, false))⟩,
         .op ⟨(some 22), (.len (.t 21)), (some (17, false))⟩,
         .op ⟨(some 23), (.bin .gtr (.t 22) (.k (.raw (.int .i64 256)))), (some (17, false))⟩,
         .op ⟨(some 24), (.pick (.t 17) (.k (.raw (.bool true))) (.t 23)), none⟩,
         .op ⟨(some 25), (.mv (.t 24)), none⟩,
         .split 25,
         .op ⟨(some 26), (.mv (.t 3)), (some (25, false))⟩,
         .op ⟨(some 27), (.fieldAddr 4 (.t 1)), (some (25, false))⟩,
         .op ⟨(some 28), (.idxAddrArr 4 1 (.t 27) (.t 26)), (some (25, false))⟩,
         .op ⟨(some 29), (.load none (.t 28)), (some (25, false))⟩,
         .op ⟨(some 30), (.call f_vigil_revoke_serials [(.t 29)]), (some (25, false))⟩,
         .op ⟨(some 31), (.un .not (.t 30)), (some (25, false))⟩,
         .op ⟨(some 32), (.pick (.t 25) (.k (.raw (.bool true))) (.t 31)), none⟩])
       (.cond (.t 32)
        (.seq
        (.ops [.op ⟨(some 2), (.mv (.k (.raw (.int .i64 10)))), none⟩])
        (.ret))
        (.skip)))))
      (.ops [.op ⟨(some 33), (.bin .add (.t 7) (.k (.raw (.int .i64 1)))), none⟩,
        .op ⟨(some 7), (.mv (.t 33)), none⟩])))))))
    (.seq
    (.ops [.op ⟨(some 2), (.mv (.k (.raw (.int .i64 0)))), none⟩])
    (.ret))),
    [.tmp 2], 34⟩
theorem c__vigil_revoke_Delta__check : compFn Tryz.prog f__vigil_revoke_Delta__check = some x__vigil_revoke_Delta__check := by kernel_rfl

/- (*vigil/vigilref08.Set).Apply -/
def x_vigilref08_Set__Apply : XFn := ⟨
    .seq
    (.ops [.op ⟨(some 3), (.box (.t 1)), none⟩,
      .op ⟨(some 4), (.mv (.k (.raw (.int .i64 0)))), none⟩,
      .op ⟨(some 5), (.mv (.k (.raw (.int .i64 0)))), none⟩])
    (.seq
    (.seq
    (.ops [.op ⟨(some 14), (.load (some 8) (.t 3)), none⟩,
      .op ⟨(some 15), (.call f_vigilref08_Check [(.t 14)]), none⟩,
      .op ⟨(some 16), (.un .not (.t 15)), none⟩])
    (.cond (.t 16)
     (.seq
     (.ops [.op ⟨(some 4), (.mv (.k (.raw (.int .i64 0)))), none⟩,
       .op ⟨(some 5), (.mv (.k (.raw (.int .i64 10)))), none⟩])
     (.ret))
     (.skip)))
    (.seq
    (.ops [.op ⟨(some 17), (.build [(.slice none 0 0), (.slice none 0 0), (.slice none 0 0), (.slice none 0 0)] []), none⟩,
      .op ⟨(some 6), (.alloc [(.slice none 0 0), (.slice none 0 0), (.slice none 0 0), (.slice none 0 0)]), none⟩,
      .op ⟨none, (.store 4 (.t 6) (.t 17)), none⟩])
    (.seq
    (.ops [.op ⟨(some 7), (.mv (.k (.raw (.int .i64 0)))), none⟩,
      .op ⟨(some 8), (.mv (.k (.raw (.int .i64 0)))), none⟩])
    (.seq
    (.seq
    (.ops [.op ⟨(some 9), (.mv (.k (.raw (.int .i64 0)))), none⟩])
    (.block 0
     (.loop
      (.seq
      (.seq
      (.ops [.op ⟨(some 18), (.mv (.t 9)), none⟩,
        .op ⟨(some 19), (.bin .lss (.t 18) (.k (.raw (.int .i64 4)))), none⟩])
      (.cond (.t 19)
       (.skip)
       (.exit 0)))
      (.seq
      (.block 1
       (.seq
       (.draw [⟨(some 22), (.mv (.t 9)), none⟩,
         ⟨(some 23), (.fieldAddr 0 (.t 3)), none⟩,
         ⟨(some 24), (.idxAddrArr 4 1 (.t 23) (.t 22)), none⟩,
         ⟨(some 25), (.load none (.t 24)), none⟩,
         ⟨(some 26), (.mv (.t 0)), none⟩,
         ⟨(some 27), (.mv (.t 9)), none⟩,
         ⟨(some 28), (.nilCheck (.t 26)), none⟩,
         ⟨(some 29), (.fieldAddr 0 (.t 28)), none⟩,
         ⟨(some 30), (.idxAddrArr 4 1 (.t 29) (.t 27)), none⟩,
         ⟨(some 31), (.load none (.t 30)), none⟩,
         ⟨(some 32), (.len (.t 31)), none⟩,
         ⟨(some 33), (.bin .gtr (.t 25) (.t 32)), none⟩]
         [[], [], [0, 1], [1, 0, 2], [], [], [4], [4, 6], [5, 6, 4, 7], [7, 4, 6, 5, 8], [8, 5, 6, 4, 7, 9], [9, 7, 4, 6, 5, 8, 10, 2, 0, 1, 3]]
         [.q 0, .q 1, .q 2, .q 3, .q 4, .q 5, .q 6, .q 7, .q 8, .q 9, .q 10, .q 11])
       (.cond (.t 33)
        (.seq
        (.ops [.op ⟨(some 4), (.mv (.k (.raw (.int .i64 0)))), none⟩,
          .op ⟨(some 5), (.mv (.k (.raw (.int .i64 9)))), none⟩])
        (.ret))
        (.skip))))
      (.ops [.op ⟨(some 20), (.mv (.t 9)), none⟩,
        .op ⟨(some 21), (.bin .add (.t 20) (.k (.raw (.int .i64 1)))), none⟩,
        .op ⟨(some 9), (.mv (.t 21)), none⟩]))))))
    (.seq
    (.seq
    (.ops [.op ⟨(some 10), (.mv (.k (.raw (.int .i64 0)))), none⟩])
    (.block 2
     (.loop
      (.seq
      (.seq
      (.ops [.op ⟨(some 34), (.mv (.t 10)), none⟩,
        .op ⟨(some 35), (.bin .lss (.t 34) (.k (.raw (.int .i64 4)))), none⟩])
      (.cond (.t 35)
       (.skip)
       (.exit 2)))
      (.seq
      (.block 3
       (.seq
       (.ops [.op ⟨(some 38), (.buildF 0 [] []), none⟩,
         .op ⟨(some 39), (.mv (.t 0)), none⟩,
         .op ⟨(some 40), (.mv (.t 10)), none⟩,
         .op ⟨(some 41), (.nilCheck (.t 39)), none⟩,
         .op ⟨(some 42), (.fieldAddr 0 (.t 41)), none⟩,
         .op ⟨(some 43), (.idxAddrArr 4 1 (.t 42) (.t 40)), none⟩,
         .op ⟨(some 44), (.load none (.t 43)), none⟩,
         .op ⟨(some 45), (.append 1 8 (.t 38) (.t 44)), none⟩,
         .op ⟨(some 11), (.mv (.t 45)), none⟩])
       (.seq
       (.seq
       (.ops [.op ⟨(some 12), (.mv (.k (.raw (.int .i64 0)))), none⟩])
       (.block 4
        (.loop
         (.seq
         (.seq
         (.ops [.op ⟨(some 46), (.mv (.t 12)), none⟩,
           .op ⟨(some 47), (.mv (.t 10)), none⟩,
           .op ⟨(some 48), (.fieldAddr 4 (.t 3)), none⟩,
           .op ⟨(some 49), (.idxAddrArr 4 1 (.t 48) (.t 47)), none⟩,
           .op ⟨(some 50), (.load none (.t 49)), none⟩,
           .op ⟨(some 51), (.len (.t 50)), none⟩,
           .op ⟨(some 52), (.bin .lss (.t 46) (.t 51)), none⟩])
         (.cond (.t 52)
          (.skip)
          (.exit 4)))
         (.seq
         (.block 5
          (.seq
          (.ops [.op ⟨(some 55), (.mv (.t 10)), none⟩,
            .op ⟨(some 56), (.fieldAddr 0 (.t 3)), none⟩,
            .op ⟨(some 57), (.idxAddrArr 4 1 (.t 56) (.t 55)), none⟩,
            .op ⟨(some 58), (.load none (.t 57)), none⟩,
            .op ⟨(some 59), (.mv (.t 12)), none⟩,
            .op ⟨(some 60), (.bin .add (.t 58) (.t 59)), none⟩,
            .op ⟨(some 13), (.mv (.t 60)), none⟩])
          (.seq
          (.ops [.op ⟨(some 61), (.mv (.t 13)), none⟩,
            .op ⟨(some 62), (.mv (.t 0)), none⟩,
            .op ⟨(some 63), (.mv (.t 10)), none⟩,
            .op ⟨(some 64), (.nilCheck (.t 62)), none⟩,
            .op ⟨(some 65), (.fieldAddr 0 (.t 64)), none⟩,
            .op ⟨(some 66), (.idxAddrArr 4 1 (.t 65) (.t 63)), none⟩,
            .op ⟨(some 67), (.load none (.t 66)), none⟩,
            .op ⟨(some 68), (.len (.t 67)), none⟩,
            .op ⟨(some 69), (.bin .geq (.t 61) (.t 68)), none⟩])
          (.cond (.t 69)
           (.seq
           (.ops [.op ⟨(some 70), (.mv (.t 11)), none⟩,
             .op ⟨(some 71), (.mv (.t 10)), none⟩,
             .op ⟨(some 72), (.fieldAddr 4 (.t 3)), none⟩,
             .op ⟨(some 73), (.idxAddrArr 4 1 (.t 72) (.t 71)), none⟩,
             .op ⟨(some 74), (.load none (.t 73)), none⟩,
             .op ⟨(some 75), (.mv (.t 12)), none⟩,
             .op ⟨(some 76), (.idxAddr 1 (.t 74) (.t 75)), none⟩,
             .op ⟨(some 77), (.load none (.t 76)), none⟩,
             .op ⟨(some 78), (.buildF 1 [(.int .i64 0)] [(0, 1, (.t 77))]), none⟩,
             .op ⟨(some 79), (.append 1 8 (.t 70) (.t 78)), none⟩,
             .op ⟨(some 11), (.mv (.t 79)), none⟩])
           (.ops [.op ⟨(some 80), (.mv (.t 7)), none⟩,
             .op ⟨(some 81), (.bin .add (.t 80) (.k (.raw (.int .i64 1)))), none⟩,
             .op ⟨(some 7), (.mv (.t 81)), none⟩]))
           (.seq
           (.draw [⟨(some 82), (.mv (.t 0)), none⟩,
             ⟨(some 83), (.mv (.t 10)), none⟩,
             ⟨(some 84), (.nilCheck (.t 82)), none⟩,
             ⟨(some 85), (.fieldAddr 0 (.t 84)), none⟩,
             ⟨(some 86), (.idxAddrArr 4 1 (.t 85) (.t 83)), none⟩,
             ⟨(some 87), (.load none (.t 86)), none⟩,
             ⟨(some 88), (.mv (.t 13)), none⟩,
             ⟨(some 89), (.idxAddr 1 (.t 87) (.t 88)), none⟩,
             ⟨(some 90), (.load none (.t 89)), none⟩,
             ⟨(some 91), (.mv (.t 10)), none⟩,
             ⟨(some 92), (.fieldAddr 4 (.t 3)), none⟩,
             ⟨(some 93), (.idxAddrArr 4 1 (.t 92) (.t 91)), none⟩,
             ⟨(some 94), (.load none (.t 93)), none⟩,
             ⟨(some 95), (.mv (.t 12)), none⟩,
             ⟨(some 96), (.idxAddr 1 (.t 94) (.t 95)), none⟩,
             ⟨(some 97), (.load none (.t 96)), none⟩,
             ⟨(some 98), (.bin .neq (.t 90) (.t 97)), none⟩]
             [[], [], [0], [0, 2], [1, 2, 0, 3], [3, 0, 2, 1, 4], [], [6, 4, 1, 2, 0, 3, 5], [5, 3, 0, 2, 1, 4, 6, 7], [], [], [9, 10], [10, 9, 11], [], [13, 11, 9, 10, 12], [12, 10, 9, 11, 13, 14], [14, 13, 11, 9, 10, 12, 15, 7, 6, 4, 1, 2, 0, 3, 5, 8]]
             [.q 0, .q 1, .q 2, .q 3, .q 4, .q 5, .q 6, .q 7, .q 8, .q 9, .q 10, .q 11, .q 12, .q 13, .q 14, .q 15, .q 16])
           (.cond (.t 98)
            (.seq
            (.ops [.op ⟨(some 4), (.mv (.k (.raw (.int .i64 0)))), none⟩,
              .op ⟨(some 5), (.mv (.k (.raw (.int .i64 3)))), none⟩])
            (.ret))
            (.skip)))))))
         (.ops [.op ⟨(some 53), (.mv (.t 12)), none⟩,
           .op ⟨(some 54), (.bin .add (.t 53) (.k (.raw (.int .i64 1)))), none⟩,
           .op ⟨(some 12), (.mv (.t 54)), none⟩]))))))
       (.seq
       (.seq
       (.ops [.op ⟨(some 99), (.mv (.t 11)), none⟩,
         .op ⟨(some 100), (.call f_vigilref08_Twice [(.t 99)]), none⟩])
       (.cond (.t 100)
        (.seq
        (.ops [.op ⟨(some 4), (.mv (.k (.raw (.int .i64 0)))), none⟩,
          .op ⟨(some 5), (.mv (.k (.raw (.int .i64 3)))), none⟩])
        (.ret))
        (.skip)))
       (.seq
       (.seq
       (.ops [.op ⟨(some 101), (.mv (.t 11)), none⟩,
         .op ⟨(some 102), (.len (.t 101)), none⟩,
         .op ⟨(some 103), (.bin .gtr (.t 102) (.k (.raw (.int .i64 256)))), none⟩])
       (.cond (.t 103)
        (.ops [.op ⟨(some 8), (.mv (.k (.raw (.int .i64 6)))), none⟩])
        (.skip)))
       (.ops [.op ⟨(some 104), (.mv (.t 10)), none⟩,
         .op ⟨(some 105), (.mv (.t 11)), none⟩,
         .op ⟨(some 106), (.fieldAddr 0 (.t 6)), none⟩,
         .op ⟨(some 107), (.idxAddrArr 4 1 (.t 106) (.t 104)), none⟩,
         .op ⟨none, (.store 1 (.t 107) (.t 105)), none⟩]))))))
      (.ops [.op ⟨(some 36), (.mv (.t 10)), none⟩,
        .op ⟨(some 37), (.bin .add (.t 36) (.k (.raw (.int .i64 1)))), none⟩,
        .op ⟨(some 10), (.mv (.t 37)), none⟩]))))))
    (.seq
    (.seq
    (.ops [.op ⟨(some 108), (.mv (.t 8)), none⟩,
      .op ⟨(some 109), (.bin .neq (.t 108) (.k (.raw (.int .i64 0)))), none⟩])
    (.cond (.t 109)
     (.seq
     (.ops [.op ⟨(some 110), (.mv (.t 8)), none⟩,
       .op ⟨(some 4), (.mv (.k (.raw (.int .i64 0)))), none⟩,
       .op ⟨(some 5), (.mv (.t 110)), none⟩])
     (.ret))
     (.skip)))
    (.seq
    (.ops [.op ⟨(some 111), (.mv (.t 0)), none⟩,
      .op ⟨(some 112), (.load (some 4) (.t 6)), none⟩,
      .op ⟨(some 113), (.nilCheck (.t 111)), none⟩,
      .op ⟨none, (.store 4 (.t 113) (.t 112)), none⟩])
    (.seq
    (.ops [.op ⟨(some 114), (.mv (.t 7)), none⟩,
      .op ⟨(some 4), (.mv (.t 114)), none⟩,
      .op ⟨(some 5), (.mv (.k (.raw (.int .i64 0)))), none⟩])
    (.ret))))))))),
    [.tmp 4, .tmp 5], 115⟩
theorem c_vigilref08_Set__Apply : compFn Tryz.prog f_vigilref08_Set__Apply = some x_vigilref08_Set__Apply := by kernel_rfl

/- (*vigil/revoke.Set).Print -/
def x___vigil_revoke_Set__Print : XFn := ⟨
    .seq
    (.ops [.op ⟨(some 2), (.alloc [(.int .u8 0), (.int .u8 0), (.int .u8 0), (.int .u8 0), (.int .u8 0), (.int .u8 0), (.int .u8 0), (.int .u8 0), (.int .u8 0), (.int .u8 0), (.int .u8 0), (.int .u8 0), (.int .u8 0), (.int .u8 0), (.int .u8 0), (.int .u8 0), (.int .u8 0), (.int .u8 0), (.int .u8 0), (.int .u8 0), (.int .u8 0), (.int .u8 0), (.int .u8 0), (.int .u8 0), (.int .u8 0), (.int .u8 0), (.int .u8 0), (.int .u8 0), (.int .u8 0), (.int .u8 0), (.int .u8 0), (.int .u8 0)]), none⟩])
    (.seq
    (.ops [.op ⟨(some 3), (.alloc [(.int .u32 0), (.int .u32 0), (.int .u32 0), (.int .u32 0), (.int .u32 0), (.int .u32 0), (.int .u32 0), (.int .u32 0), (.bool false), (.slice none 0 0), (.int .i64 0)]), none⟩])
    (.seq
    (.seq
    (.ops [.op ⟨(some 8), (.mv (.k (.raw (.int .i64 0)))), none⟩])
    (.block 0
     (.loop
      (.seq
      (.ops [.op ⟨(some 9), (.bin .lss (.t 8) (.k (.raw (.int .i64 4)))), none⟩])
      (.seq
      (.cond (.t 9)
       (.skip)
       (.exit 0))
      (.seq
      (.block 1
       (.seq
       (.ops [.op ⟨(some 10), (.mv (.t 8)), none⟩,
         .op ⟨(some 4), (.mv (.t 10)), none⟩])
       (.seq
       (.ops [.op ⟨(some 11), (.mv (.t 0)), none⟩,
         .op ⟨(some 12), (.mv (.t 4)), none⟩,
         .op ⟨(some 13), (.call f___vigil_revoke_Set__Log [(.t 11), (.t 12)]), none⟩,
         .op ⟨(some 5), (.mv (.t 13)), none⟩])
       (.seq
       (.ops [.op ⟨(some 14), (.mv (.t 5)), none⟩,
         .op ⟨(some 15), (.len (.t 14)), none⟩,
         .op ⟨(some 16), (.buildF 1 [(.int .i64 0)] [(0, 1, (.t 15))]), none⟩,
         .op ⟨(some 17), (.mv (.t 5)), none⟩,
         .op ⟨(some 18), (.buildF 2 [(.slice none 0 0), (.slice none 0 0)] [(0, 1, (.t 16)), (1, 1, (.t 17))]), none⟩,
         .op ⟨(some 19), (.call f_slices_Concat___int_int_ [(.t 18)]), none⟩,
         .op ⟨(some 20), (.len (.t 19)), none⟩,
         .op ⟨(some 21), (.mv (.k (.raw (.int .i64 0)))), none⟩])
       (.block 2
        (.loop
         (.seq
         (.ops [.op ⟨(some 22), (.bin .lss (.t 21) (.t 20)), none⟩])
         (.seq
         (.cond (.t 22)
          (.skip)
          (.exit 2))
         (.seq
         (.block 3
          (.seq
          (.ops [.op ⟨(some 23), (.idxAddr 1 (.t 19) (.t 21)), none⟩,
            .op ⟨(some 24), (.load none (.t 23)), none⟩,
            .op ⟨(some 7), (.mv (.t 24)), none⟩])
          (.ops [.op ⟨(some 25), (.mv (.t 7)), none⟩,
            .op ⟨(some 26), (.bin .shr (.t 25) (.k (.raw (.int .u64 8)))), none⟩,
            .op ⟨(some 27), (.conv .u8 (.t 26)), none⟩,
            .op ⟨(some 28), (.mv (.t 7)), none⟩,
            .op ⟨(some 29), (.conv .u8 (.t 28)), none⟩,
            .op ⟨(some 30), (.buildF 2 [(.int .u8 0), (.int .u8 0)] [(0, 1, (.t 27)), (1, 1, (.t 29))]), none⟩,
            .op ⟨(some 31), (.buildF 1 [(.slice none 0 0)] [(0, 1, (.t 30))]), none⟩,
            .op ⟨(some 32), (.call f___vigil_digest_Running__Add [(.t 3), (.t 31)]), none⟩])))
         (.ops [.op ⟨(some 33), (.bin .add (.t 21) (.k (.raw (.int .i64 1)))), none⟩,
           .op ⟨(some 21), (.mv (.t 33)), none⟩]))))))))))
      (.ops [.op ⟨(some 34), (.bin .add (.t 8) (.k (.raw (.int .i64 1)))), none⟩,
        .op ⟨(some 8), (.mv (.t 34)), none⟩])))))))
    (.seq
    (.ops [.op ⟨(some 35), (.call f___vigil_digest_Running__Sum [(.t 3)]), none⟩,
      .op ⟨none, (.store 32 (.t 2) (.t 35)), none⟩])
    (.ret)))),
    [.cell 2 (some 32)], 36⟩
theorem c___vigil_revoke_Set__Print : compFn Tryz.prog f___vigil_revoke_Set__Print = some x___vigil_revoke_Set__Print := by kernel_rfl

/- (*vigil/vigilref08.Set).Print -/
def x_vigilref08_Set__Print : XFn := ⟨
    .seq
    (.ops [.op ⟨(some 3), (.box (.t 1)), none⟩,
      .op ⟨(some 4), (.alloc [(.int .u8 0), (.int .u8 0), (.int .u8 0), (.int .u8 0), (.int .u8 0), (.int .u8 0), (.int .u8 0), (.int .u8 0), (.int .u8 0), (.int .u8 0), (.int .u8 0), (.int .u8 0), (.int .u8 0), (.int .u8 0), (.int .u8 0), (.int .u8 0), (.int .u8 0), (.int .u8 0), (.int .u8 0), (.int .u8 0), (.int .u8 0), (.int .u8 0), (.int .u8 0), (.int .u8 0), (.int .u8 0), (.int .u8 0), (.int .u8 0), (.int .u8 0), (.int .u8 0), (.int .u8 0), (.int .u8 0), (.int .u8 0)]), none⟩])
    (.seq
    (.ops [.op ⟨(some 5), (.mv (.k (.raw (.slice none 0 0)))), none⟩])
    (.seq
    (.seq
    (.ops [.op ⟨(some 6), (.mv (.k (.raw (.int .i64 0)))), none⟩])
    (.block 0
     (.loop
      (.seq
      (.seq
      (.ops [.op ⟨(some 8), (.mv (.t 6)), none⟩,
        .op ⟨(some 9), (.bin .lss (.t 8) (.k (.raw (.int .i64 4)))), none⟩])
      (.cond (.t 9)
       (.skip)
       (.exit 0)))
      (.seq
      (.block 1
       (.seq
       (.draw [⟨(some 12), (.mv (.t 5)), none⟩,
         ⟨(some 13), (.mv (.t 0)), none⟩,
         ⟨(some 14), (.mv (.t 6)), none⟩,
         ⟨(some 15), (.nilCheck (.t 13)), none⟩,
         ⟨(some 16), (.fieldAddr 0 (.t 15)), none⟩,
         ⟨(some 17), (.idxAddrArr 4 1 (.t 16) (.t 14)), none⟩,
         ⟨(some 18), (.load none (.t 17)), none⟩,
         ⟨(some 19), (.len (.t 18)), none⟩,
         ⟨(some 20), (.bin .quo (.t 19) (.k (.raw (.int .i64 256)))), none⟩,
         ⟨(some 21), (.conv .u8 (.t 20)), none⟩,
         ⟨(some 22), (.mv (.t 0)), none⟩,
         ⟨(some 23), (.mv (.t 6)), none⟩,
         ⟨(some 24), (.nilCheck (.t 22)), none⟩,
         ⟨(some 25), (.fieldAddr 0 (.t 24)), none⟩,
         ⟨(some 26), (.idxAddrArr 4 1 (.t 25) (.t 23)), none⟩,
         ⟨(some 27), (.load none (.t 26)), none⟩,
         ⟨(some 28), (.len (.t 27)), none⟩,
         ⟨(some 29), (.bin .rem (.t 28) (.k (.raw (.int .i64 256)))), none⟩,
         ⟨(some 30), (.conv .u8 (.t 29)), none⟩,
         ⟨(some 31), (.buildF 2 [(.int .u8 0), (.int .u8 0)] [(0, 1, (.t 21)), (1, 1, (.t 30))]), none⟩,
         ⟨(some 32), (.append 1 1 (.t 12) (.t 31)), none⟩,
         ⟨(some 5), (.mv (.t 32)), none⟩]
         [[], [], [], [1], [1, 3], [2, 3, 1, 4], [4, 1, 3, 2, 5], [5, 2, 3, 1, 4, 6], [6, 4, 1, 3, 2, 5, 7], [7, 5, 2, 3, 1, 4, 6, 8], [], [], [10], [10, 12], [11, 12, 10, 13], [13, 10, 12, 11, 14], [14, 11, 12, 10, 13, 15], [15, 13, 10, 12, 11, 14, 16], [16, 14, 11, 12, 10, 13, 15, 17], [17, 15, 13, 10, 12, 11, 14, 16, 18, 8, 6, 4, 1, 3, 2, 5, 7, 9], [9, 7, 5, 2, 3, 1, 4, 6, 8, 18, 16, 14, 11, 12, 10, 13, 15, 17, 19, 0], [0, 19, 17, 15, 13, 10, 12, 11, 14, 16, 18, 8, 6, 4, 1, 3, 2, 5, 7, 9, 20]]
         [.q 0, .q 1, .q 2, .q 3, .q 4, .q 5, .q 6, .q 7, .q 8, .q 9, .q 10, .q 11, .q 12, .q 13, .q 14, .q 15, .q 16, .q 17, .q 18, .q 19, .eff 20, .q 21])
       (.seq
       (.ops [.op ⟨(some 7), (.mv (.k (.raw (.int .i64 0)))), none⟩])
       (.block 2
        (.loop
         (.seq
         (.seq
         (.ops [.op ⟨(some 33), (.mv (.t 7)), none⟩,
           .op ⟨(some 34), (.mv (.t 0)), none⟩,
           .op ⟨(some 35), (.mv (.t 6)), none⟩,
           .op ⟨(some 36), (.nilCheck (.t 34)), none⟩,
           .op ⟨(some 37), (.fieldAddr 0 (.t 36)), none⟩,
           .op ⟨(some 38), (.idxAddrArr 4 1 (.t 37) (.t 35)), none⟩,
           .op ⟨(some 39), (.load none (.t 38)), none⟩,
           .op ⟨(some 40), (.len (.t 39)), none⟩,
           .op ⟨(some 41), (.bin .lss (.t 33) (.t 40)), none⟩])
         (.cond (.t 41)
          (.skip)
          (.exit 2)))
         (.seq
         (.block 3
          (.draw [⟨(some 44), (.mv (.t 5)), none⟩,
            ⟨(some 45), (.mv (.t 0)), none⟩,
            ⟨(some 46), (.mv (.t 6)), none⟩,
            ⟨(some 47), (.nilCheck (.t 45)), none⟩,
            ⟨(some 48), (.fieldAddr 0 (.t 47)), none⟩,
            ⟨(some 49), (.idxAddrArr 4 1 (.t 48) (.t 46)), none⟩,
            ⟨(some 50), (.load none (.t 49)), none⟩,
            ⟨(some 51), (.mv (.t 7)), none⟩,
            ⟨(some 52), (.idxAddr 1 (.t 50) (.t 51)), none⟩,
            ⟨(some 53), (.load none (.t 52)), none⟩,
            ⟨(some 54), (.bin .quo (.t 53) (.k (.raw (.int .i64 256)))), none⟩,
            ⟨(some 55), (.conv .u8 (.t 54)), none⟩,
            ⟨(some 56), (.mv (.t 0)), none⟩,
            ⟨(some 57), (.mv (.t 6)), none⟩,
            ⟨(some 58), (.nilCheck (.t 56)), none⟩,
            ⟨(some 59), (.fieldAddr 0 (.t 58)), none⟩,
            ⟨(some 60), (.idxAddrArr 4 1 (.t 59) (.t 57)), none⟩,
            ⟨(some 61), (.load none (.t 60)), none⟩,
            ⟨(some 62), (.mv (.t 7)), none⟩,
            ⟨(some 63), (.idxAddr 1 (.t 61) (.t 62)), none⟩,
            ⟨(some 64), (.load none (.t 63)), none⟩,
            ⟨(some 65), (.bin .rem (.t 64) (.k (.raw (.int .i64 256)))), none⟩,
            ⟨(some 66), (.conv .u8 (.t 65)), none⟩,
            ⟨(some 67), (.buildF 2 [(.int .u8 0), (.int .u8 0)] [(0, 1, (.t 55)), (1, 1, (.t 66))]), none⟩,
            ⟨(some 68), (.append 1 1 (.t 44) (.t 67)), none⟩,
            ⟨(some 5), (.mv (.t 68)), none⟩]
            [[], [], [], [1], [1, 3], [2, 3, 1, 4], [4, 1, 3, 2, 5], [], [7, 5, 2, 3, 1, 4, 6], [6, 4, 1, 3, 2, 5, 7, 8], [8, 7, 5, 2, 3, 1, 4, 6, 9], [9, 6, 4, 1, 3, 2, 5, 7, 8, 10], [], [], [12], [12, 14], [13, 14, 12, 15], [15, 12, 14, 13, 16], [], [18, 16, 13, 14, 12, 15, 17], [17, 15, 12, 14, 13, 16, 18, 19], [19, 18, 16, 13, 14, 12, 15, 17, 20], [20, 17, 15, 12, 14, 13, 16, 18, 19, 21], [21, 19, 18, 16, 13, 14, 12, 15, 17, 20, 22, 10, 8, 7, 5, 2, 3, 1, 4, 6, 9, 11], [11, 9, 6, 4, 1, 3, 2, 5, 7, 8, 10, 22, 20, 17, 15, 12, 14, 13, 16, 18, 19, 21, 23, 0], [0, 23, 21, 19, 18, 16, 13, 14, 12, 15, 17, 20, 22, 10, 8, 7, 5, 2, 3, 1, 4, 6, 9, 11, 24]]
            [.q 0, .q 1, .q 2, .q 3, .q 4, .q 5, .q 6, .q 7, .q 8, .q 9, .q 10, .q 11, .q 12, .q 13, .q 14, .q 15, .q 16, .q 17, .q 18, .q 19, .q 20, .q 21, .q 22, .q 23, .eff 24, .q 25]))
         (.ops [.op ⟨(some 42), (.mv (.t 7)), none⟩,
           .op ⟨(some 43), (.bin .add (.t 42) (.k (.raw (.int .i64 1)))), none⟩,
           .op ⟨(some 7), (.mv (.t 43)), none⟩]))))))))
      (.ops [.op ⟨(some 10), (.mv (.t 6)), none⟩,
        .op ⟨(some 11), (.bin .add (.t 10) (.k (.raw (.int .i64 1)))), none⟩,
        .op ⟨(some 6), (.mv (.t 11)), none⟩]))))))
    (.seq
    (.ops [.op ⟨(some 69), (.load (some 72) (.t 3)), none⟩,
      .op ⟨(some 70), (.mv (.t 5)), none⟩,
      .op ⟨(some 71), (.call f_vigilref01_Sum [(.t 69), (.t 70)]), none⟩,
      .op ⟨none, (.store 32 (.t 4) (.t 71)), none⟩])
    (.ret)))),
    [.cell 4 (some 32)], 72⟩
theorem c_vigilref08_Set__Print : compFn Tryz.prog f_vigilref08_Set__Print = some x_vigilref08_Set__Print := by kernel_rfl

/- (*vigil/vigilref17.Fresh).Open -/
def x_vigilref17_Fresh__Open : XFn := ⟨
    .seq
    (.ops [.op ⟨(some 4), (.mv (.k (.raw (.int .i64 0)))), none⟩])
    (.seq
    (.ops [.op ⟨(some 5), (.mv (.t 0)), none⟩,
      .op ⟨(some 6), (.nilCheck (.t 5)), none⟩,
      .op ⟨(some 7), (.fieldAddr 4 (.t 6)), none⟩,
      .op ⟨(some 8), (.load none (.t 7)), none⟩,
      .op ⟨(some 9), (.mv (.t 1)), none⟩,
      .op ⟨(some 10), (.call f_vigilref17_open [(.t 8), (.t 9)]), none⟩,
      .op ⟨(some 11), (.len (.t 10)), none⟩,
      .op ⟨(some 4), (.mv (.t 11)), none⟩])
    (.ret)),
    [.tmp 4], 12⟩
theorem c_vigilref17_Fresh__Open : compFn Tryz.prog f_vigilref17_Fresh__Open = some x_vigilref17_Fresh__Open := by kernel_rfl

/- (*vigil/revoke.Set).Log -/
def x___vigil_revoke_Set__Log : XFn := ⟨
    .seq
    (.ops [.op ⟨(some 4), (.mv (.k (.raw (.slice none 0 0)))), none⟩])
    (.seq
    (.seq
    (.ops [.op ⟨(some 5), (.mv (.t 0)), none⟩,
      .op ⟨(some 6), (.eq .ptr false (.t 5) (.k (.raw (.pointer none)))), none⟩,
      .op ⟨(some 7), (.mv (.t 6)), none⟩,
      .split 7,
      .op ⟨(some 8), (.mv (.t 1)), (some (7, false))⟩,
      .op ⟨(some 9), (.bin .lss (.t 8) (.k (.raw (.int .i64 0)))), (some (7, false))⟩,
      .op ⟨(some 10), (.pick (.t 7) (.k (.raw (.bool true))) (.t 9)), none⟩,
      .op ⟨(some 11), (.mv (.t 10)), none⟩,
      .split 11,
      .op ⟨(some 12), (.mv (.t 1)), (some (11, false))⟩,
      .op ⟨(some 13), (.bin .geq (.t 12) (.k (.raw (.int .i64 4)))), (some (11, false))⟩,
      .op ⟨(some 14), (.pick (.t 11) (.k (.raw (.bool true))) (.t 13)), none⟩])
    (.cond (.t 14)
     (.seq
     (.ops [.op ⟨(some 4), (.mv (.k (.raw (.slice none 0 0)))), none⟩])
     (.ret))
     (.skip)))
    (.seq
    (.ops [.op ⟨(some 15), (.mv (.t 0)), none⟩,
      .op ⟨(some 16), (.mv (.t 1)), none⟩,
      .op ⟨(some 17), (.nilCheck (.t 15)), none⟩,
      .op ⟨(some 18), (.fieldAddr 0 (.t 17)), none⟩,
      .op ⟨(some 19), (.idxAddrArr 4 1 (.t 18) (.t 16)), none⟩,
      .op ⟨(some 20), (.load none (.t 19)), none⟩,
      .op ⟨(some 21), (.call f_slices_Clone___int_int_ [(.t 20)]), none⟩,
      .op ⟨(some 4), (.mv (.t 21)), none⟩])
    (.ret))),
    [.tmp 4], 22⟩
theorem c___vigil_revoke_Set__Log : compFn Tryz.prog f___vigil_revoke_Set__Log = some x___vigil_revoke_Set__Log := by kernel_rfl

/- slices.Sort[[]int,int] -/
def x_slices_Sort___int_int_ : XFn := ⟨
    .seq
    (.ops [.op ⟨(some 3), (.mv (.t 0)), none⟩,
      .op ⟨(some 4), (.len (.t 3)), none⟩,
      .op ⟨(some 2), (.mv (.t 4)), none⟩])
    (.ops [.op ⟨(some 5), (.mv (.t 0)), none⟩,
      .op ⟨(some 6), (.mv (.t 2)), none⟩,
      .op ⟨(some 7), (.mv (.t 2)), none⟩,
      .op ⟨(some 8), (.conv .u64 (.t 7)), none⟩,
      .op ⟨(some 9), (.call f_math_bits_Len [(.t 8)]), none⟩,
      .op ⟨(some 10), (.call f_slices_pdqsortOrdered_int_ [(.t 5), (.k (.raw (.int .i64 0))), (.t 6), (.t 9)]), none⟩]),
    [], 11⟩
theorem c_slices_Sort___int_int_ : compFn Tryz.prog f_slices_Sort___int_int_ = some x_slices_Sort___int_int_ := by kernel_rfl

/- slices.Compact[[]int,int] -/
def x_slices_Compact___int_int_ : XFn := ⟨
    .seq
    (.ops [.op ⟨(some 2), (.mv (.k (.raw (.slice none 0 0)))), none⟩])
    (.seq
    (.seq
    (.ops [.op ⟨(some 6), (.mv (.t 0)), none⟩,
      .op ⟨(some 7), (.len (.t 6)), none⟩,
      .op ⟨(some 8), (.bin .lss (.t 7) (.k (.raw (.int .i64 2)))), none⟩])
    (.cond (.t 8)
     (.seq
     (.ops [.op ⟨(some 9), (.mv (.t 0)), none⟩,
       .op ⟨(some 2), (.mv (.t 9)), none⟩])
     (.ret))
     (.skip)))
    (.seq
    (.seq
    (.ops [.op ⟨(some 3), (.mv (.k (.raw (.int .i64 1)))), none⟩])
    (.block 0
     (.loop
      (.seq
      (.seq
      (.ops [.op ⟨(some 10), (.mv (.t 3)), none⟩,
        .op ⟨(some 11), (.mv (.t 0)), none⟩,
        .op ⟨(some 12), (.len (.t 11)), none⟩,
        .op ⟨(some 13), (.bin .lss (.t 10) (.t 12)), none⟩])
      (.cond (.t 13)
       (.skip)
       (.exit 0)))
      (.seq
      (.block 1
       (.seq
       (.draw [⟨(some 16), (.mv (.t 0)), none⟩,
         ⟨(some 17), (.mv (.t 3)), none⟩,
         ⟨(some 18), (.idxAddr 1 (.t 16) (.t 17)), none⟩,
         ⟨(some 19), (.load none (.t 18)), none⟩,
         ⟨(some 20), (.mv (.t 0)), none⟩,
         ⟨(some 21), (.mv (.t 3)), none⟩,
         ⟨(some 22), (.bin .sub (.t 21) (.k (.raw (.int .i64 1)))), none⟩,
         ⟨(some 23), (.idxAddr 1 (.t 20) (.t 22)), none⟩,
         ⟨(some 24), (.load none (.t 23)), none⟩,
         ⟨(some 25), (.bin .eql (.t 19) (.t 24)), none⟩]
         [[], [], [1, 0], [0, 1, 2], [], [], [5], [5, 6, 4], [4, 6, 5, 7], [7, 5, 6, 4, 8, 2, 1, 0, 3]]
         [.q 0, .q 1, .q 2, .q 3, .q 4, .q 5, .q 6, .q 7, .q 8, .q 9])
       (.cond (.t 25)
        (.seq
        (.ops [.op ⟨(some 26), (.mv (.t 0)), none⟩,
          .op ⟨(some 27), (.mv (.t 3)), none⟩,
          .op ⟨(some 28), (.slice 1 (.t 26) (some (.t 27)) none none), none⟩,
          .op ⟨(some 4), (.mv (.t 28)), none⟩])
        (.seq
        (.seq
        (.ops [.op ⟨(some 5), (.mv (.k (.raw (.int .i64 1)))), none⟩])
        (.block 2
         (.loop
          (.seq
          (.seq
          (.ops [.op ⟨(some 29), (.mv (.t 5)), none⟩,
            .op ⟨(some 30), (.mv (.t 4)), none⟩,
            .op ⟨(some 31), (.len (.t 30)), none⟩,
            .op ⟨(some 32), (.bin .lss (.t 29) (.t 31)), none⟩])
          (.cond (.t 32)
           (.skip)
           (.exit 2)))
          (.seq
          (.block 3
           (.seq
           (.draw [⟨(some 35), (.mv (.t 4)), none⟩,
             ⟨(some 36), (.mv (.t 5)), none⟩,
             ⟨(some 37), (.idxAddr 1 (.t 35) (.t 36)), none⟩,
             ⟨(some 38), (.load none (.t 37)), none⟩,
             ⟨(some 39), (.mv (.t 4)), none⟩,
             ⟨(some 40), (.mv (.t 5)), none⟩,
             ⟨(some 41), (.bin .sub (.t 40) (.k (.raw (.int .i64 1)))), none⟩,
             ⟨(some 42), (.idxAddr 1 (.t 39) (.t 41)), none⟩,
             ⟨(some 43), (.load none (.t 42)), none⟩,
             ⟨(some 44), (.bin .neq (.t 38) (.t 43)), none⟩]
             [[], [], [1, 0], [0, 1, 2], [], [], [5], [5, 6, 4], [4, 6, 5, 7], [7, 5, 6, 4, 8, 2, 1, 0, 3]]
             [.q 0, .q 1, .q 2, .q 3, .q 4, .q 5, .q 6, .q 7, .q 8, .q 9])
           (.cond (.t 44)
            (.seq
            (.ops [.op ⟨(some 45), (.mv (.t 0)), none⟩,
              .op ⟨(some 46), (.mv (.t 3)), none⟩,
              .op ⟨(some 47), (.mv (.t 4)), none⟩,
              .op ⟨(some 48), (.mv (.t 5)), none⟩,
              .op ⟨(some 49), (.idxAddr 1 (.t 47) (.t 48)), none⟩,
              .op ⟨(some 50), (.load none (.t 49)), none⟩,
              .op ⟨(some 51), (.idxAddr 1 (.t 45) (.t 46)), none⟩,
              .op ⟨none, (.store 1 (.t 51) (.t 50)), none⟩])
            (.ops [.op ⟨(some 52), (.mv (.t 3)), none⟩,
              .op ⟨(some 53), (.bin .add (.t 52) (.k (.raw (.int .i64 1)))), none⟩,
              .op ⟨(some 3), (.mv (.t 53)), none⟩]))
            (.skip))))
          (.ops [.op ⟨(some 33), (.mv (.t 5)), none⟩,
            .op ⟨(some 34), (.bin .add (.t 33) (.k (.raw (.int .i64 1)))), none⟩,
            .op ⟨(some 5), (.mv (.t 34)), none⟩]))))))
        (.seq
        (.ops [.op ⟨(some 54), (.mv (.t 0)), none⟩,
          .op ⟨(some 55), (.mv (.t 3)), none⟩,
          .op ⟨(some 56), (.slice 1 (.t 54) (some (.t 55)) none none), none⟩,
          .op ⟨none, (.clear [(.int .i64 0)] (.t 56)), none⟩])
        (.seq
        (.ops [.op ⟨(some 57), (.mv (.t 0)), none⟩,
          .op ⟨(some 58), (.mv (.t 3)), none⟩,
          .op ⟨(some 59), (.slice 1 (.t 57) none (some (.t 58)) none), none⟩,
          .op ⟨(some 2), (.mv (.t 59)), none⟩])
        (.ret)))))
        (.skip))))
      (.ops [.op ⟨(some 14), (.mv (.t 3)), none⟩,
        .op ⟨(some 15), (.bin .add (.t 14) (.k (.raw (.int .i64 1)))), none⟩,
        .op ⟨(some 3), (.mv (.t 15)), none⟩]))))))
    (.seq
    (.ops [.op ⟨(some 60), (.mv (.t 0)), none⟩,
      .op ⟨(some 2), (.mv (.t 60)), none⟩])
    (.ret)))),
    [.tmp 2], 61⟩
theorem c_slices_Compact___int_int_ : compFn Tryz.prog f_slices_Compact___int_int_ = some x_slices_Compact___int_int_ := by kernel_rfl

/- slices.Contains[[]int,int] -/
def x_slices_Contains___int_int_ : XFn := ⟨
    .seq
    (.ops [.op ⟨(some 4), (.mv (.k (.raw (.bool false)))), none⟩])
    (.seq
    (.ops [.op ⟨(some 5), (.mv (.t 0)), none⟩,
      .op ⟨(some 6), (.mv (.t 1)), none⟩,
      .op ⟨(some 7), (.call f_slices_Index___int_int_ [(.t 5), (.t 6)]), none⟩,
      .op ⟨(some 8), (.bin .geq (.t 7) (.k (.raw (.int .i64 0)))), none⟩,
      .op ⟨(some 4), (.mv (.t 8)), none⟩])
    (.ret)),
    [.tmp 4], 9⟩
theorem c_slices_Contains___int_int_ : compFn Tryz.prog f_slices_Contains___int_int_ = some x_slices_Contains___int_int_ := by kernel_rfl

/- slices.IndexFunc[[]vigil/fresh.ask,vigil/fresh.ask] -/
def x_slices_IndexFunc___vigil_fresh_ask_vigil_fresh_ask_ : XFn := ⟨
    .seq
    (.ops [.op ⟨(some 4), (.mv (.k (.raw (.int .i64 0)))), none⟩])
    (.seq
    (.seq
    (.ops [.op ⟨(some 6), (.mv (.t 0)), none⟩,
      .op ⟨(some 7), (.len (.t 6)), none⟩,
      .op ⟨(some 8), (.mv (.k (.raw (.int .i64 0)))), none⟩])
    (.block 0
     (.loop
      (.seq
      (.ops [.op ⟨(some 9), (.bin .lss (.t 8) (.t 7)), none⟩])
      (.seq
      (.cond (.t 9)
       (.skip)
       (.exit 0))
      (.seq
      (.block 1
       (.seq
       (.ops [.op ⟨(some 10), (.mv (.t 8)), none⟩,
         .op ⟨(some 5), (.mv (.t 10)), none⟩])
       (.seq
       (.ops [.op ⟨(some 11), (.mv (.t 1)), none⟩,
         .op ⟨(some 12), (.mv (.t 0)), none⟩,
         .op ⟨(some 13), (.mv (.t 5)), none⟩,
         .op ⟨(some 14), (.idxAddr 10 (.t 12) (.t 13)), none⟩,
         .op ⟨(some 15), (.load (some 10) (.t 14)), none⟩,
         .op ⟨(some 16), (.callv (.t 11) [(.t 15)]), none⟩])
       (.cond (.t 16)
        (.seq
        (.ops [.op ⟨(some 17), (.mv (.t 5)), none⟩,
          .op ⟨(some 4), (.mv (.t 17)), none⟩])
        (.ret))
        (.skip)))))
      (.ops [.op ⟨(some 18), (.bin .add (.t 8) (.k (.raw (.int .i64 1)))), none⟩,
        .op ⟨(some 8), (.mv (.t 18)), none⟩])))))))
    (.seq
    (.ops [.op ⟨(some 4), (.mv (.k (.raw (.int .i64 (-1))))), none⟩])
    (.ret))),
    [.tmp 4], 19⟩
theorem c_slices_IndexFunc___vigil_fresh_ask_vigil_fresh_ask_ : compFn Tryz.prog f_slices_IndexFunc___vigil_fresh_ask_vigil_fresh_ask_ = some x_slices_IndexFunc___vigil_fresh_ask_vigil_fresh_ask_ := by kernel_rfl

/- (*vigil/fresh.Fresh).find$1 -/
def x___vigil_fresh_Fresh__find_1 : XFn := ⟨
    .seq
    (.ops [.op ⟨(some 4), (.box (.t 0)), none⟩,
      .op ⟨(some 5), (.mv (.k (.raw (.bool false)))), none⟩])
    (.seq
    (.draw [⟨(some 6), (.fieldAddr 0 (.t 4)), none⟩,
      ⟨(some 7), (.load none (.t 6)), none⟩,
      ⟨(some 8), (.load none (.t 1)), none⟩,
      ⟨(some 9), (.bin .eql (.t 7) (.t 8)), none⟩,
      ⟨(some 10), (.mv (.t 9)), none⟩,
      ⟨(some 11), (.load (some 10) (.t 4)), (some (10, true))⟩,
      ⟨(some 12), (.load none (.t 2)), (some (10, true))⟩,
      ⟨(some 13), (.call f__vigil_fresh_ask__open [(.t 11), (.t 12)]), (some (10, true))⟩,
      ⟨(some 14), (.pick (.t 10) (.t 13) (.k (.raw (.bool false)))), none⟩,
      ⟨(some 15), (.mv (.t 14)), none⟩,
      ⟨(some 16), (.fieldAddr 2 (.t 4)), (some (15, true))⟩,
      ⟨(some 17), (.sliceArr 8 1 (.t 16) none none none), (some (15, true))⟩,
      ⟨(some 18), (.load none (.t 3)), (some (15, true))⟩,
      ⟨(some 19), (.call f_slices_Equal___byte_byte_ [(.t 17), (.t 18)]), (some (15, true))⟩,
      ⟨(some 20), (.pick (.t 15) (.t 19) (.k (.raw (.bool false)))), none⟩,
      ⟨(some 5), (.mv (.t 20)), none⟩]
      [[], [0], [], [2, 0, 1], [1, 0, 2, 3], [3, 2, 0, 1, 4], [3, 2, 0, 1, 4], [6, 4, 1, 0, 2, 3, 5], [5, 6, 7, 3, 2, 0, 1, 4], [4, 1, 0, 2, 3, 7, 6, 5, 8], [8, 5, 6, 7, 3, 2, 0, 1, 4, 9], [9, 4, 1, 0, 2, 3, 7, 6, 5, 8, 10], [8, 5, 6, 7, 3, 2, 0, 1, 4, 9], [12, 10, 8, 5, 6, 7, 3, 2, 0, 1, 4, 9, 11], [11, 10, 12, 13, 8, 5, 6, 7, 3, 2, 0, 1, 4, 9], [9, 4, 1, 0, 2, 3, 7, 6, 5, 8, 13, 12, 10, 11, 14]]
      [.q 0, .q 1, .q 2, .q 3, .q 4, .split 10, .q 5, .q 6, .eff 7, .q 8, .q 9, .split 15, .q 10, .q 11, .q 12, .eff 13, .q 14, .q 15])
    (.ret)),
    [.tmp 5], 21⟩
theorem c___vigil_fresh_Fresh__find_1 : compFn Tryz.prog f___vigil_fresh_Fresh__find_1 = some x___vigil_fresh_Fresh__find_1 := by kernel_rfl

end Go.Ab
