/- The code of some functions of the program, resolved, each checked against the program. -/
import Derived.Test.YtookmilggbnoiaaGreatT1F
import Derived.Test.YtookmilggbnoiaaGreatProg
import Derived.KernelRfl
import Derived.Test.YtookmilggbnoiaaGreatAbExec7
set_option linter.unusedSimpArgs false
set_option linter.unusedVariables false
open Go.Proofs
namespace Go.Ab
/- slices.Equal[[]byte,byte] -/
def x_slices_Equal___byte_byte_ : XFn := ⟨
    .seq
    (.ops [.op ⟨(some 4), (.mv (.k (.raw (.bool false)))), none⟩])
    (.seq
    (.seq
    (.ops [.op ⟨(some 6), (.mv (.t 0)), none⟩,
      .op ⟨(some 7), (.len (.t 6)), none⟩,
      .op ⟨(some 8), (.mv (.t 1)), none⟩,
      .op ⟨(some 9), (.len (.t 8)), none⟩,
      .op ⟨(some 10), (.bin .neq (.t 7) (.t 9)), none⟩])
    (.cond (.t 10)
     (.seq
     (.ops [.op ⟨(some 4), (.mv (.k (.raw (.bool false)))), none⟩])
     (.ret))
     (.skip)))
    (.seq
    (.seq
    (.ops [.op ⟨(some 11), (.mv (.t 0)), none⟩,
      .op ⟨(some 12), (.len (.t 11)), none⟩,
      .op ⟨(some 13), (.mv (.k (.raw (.int .i64 0)))), none⟩])
    (.block 0
     (.loop
      (.seq
      (.ops [.op ⟨(some 14), (.bin .lss (.t 13) (.t 12)), none⟩])
      (.seq
      (.cond (.t 14)
       (.skip)
       (.exit 0))
      (.seq
      (.block 1
       (.seq
       (.ops [.op ⟨(some 15), (.mv (.t 13)), none⟩,
         .op ⟨(some 5), (.mv (.t 15)), none⟩])
       (.seq
       (.draw [⟨(some 16), (.mv (.t 0)), none⟩,
         ⟨(some 17), (.mv (.t 5)), none⟩,
         ⟨(some 18), (.idxAddr 1 (.t 16) (.t 17)), none⟩,
         ⟨(some 19), (.load none (.t 18)), none⟩,
         ⟨(some 20), (.mv (.t 1)), none⟩,
         ⟨(some 21), (.mv (.t 5)), none⟩,
         ⟨(some 22), (.idxAddr 1 (.t 20) (.t 21)), none⟩,
         ⟨(some 23), (.load none (.t 22)), none⟩,
         ⟨(some 24), (.bin .neq (.t 19) (.t 23)), none⟩]
         [[], [], [1, 0], [0, 1, 2], [], [], [5, 4], [4, 5, 6], [6, 5, 4, 7, 2, 1, 0, 3]]
         [.q 0, .q 1, .q 2, .q 3, .q 4, .q 5, .q 6, .q 7, .q 8])
       (.cond (.t 24)
        (.seq
        (.ops [.op ⟨(some 4), (.mv (.k (.raw (.bool false)))), none⟩])
        (.ret))
        (.skip)))))
      (.ops [.op ⟨(some 25), (.bin .add (.t 13) (.k (.raw (.int .i64 1)))), none⟩,
        .op ⟨(some 13), (.mv (.t 25)), none⟩])))))))
    (.seq
    (.ops [.op ⟨(some 4), (.mv (.k (.raw (.bool true)))), none⟩])
    (.ret)))),
    [.tmp 4], 26⟩
theorem c_slices_Equal___byte_byte_ : compFn Tryz.prog f_slices_Equal___byte_byte_ = some x_slices_Equal___byte_byte_ := by kernel_rfl

/- slices.Grow[[]byte,byte] -/
def x_slices_Grow___byte_byte_ : XFn := ⟨
    .seq
    (.ops [.op ⟨(some 4), (.mv (.k (.raw (.slice none 0 0)))), none⟩])
    (.seq
    (.seq
    (.ops [.op ⟨(some 5), (.mv (.t 1)), none⟩,
      .op ⟨(some 6), (.bin .lss (.t 5) (.k (.raw (.int .i64 0)))), none⟩])
    (.cond (.t 6)
     (.ops [.op ⟨(some 7), .die, none⟩,
       .op ⟨none, .die, none⟩])
     (.skip)))
    (.seq
    (.seq
    (.ops [.op ⟨(some 8), (.mv (.t 1)), none⟩,
      .op ⟨(some 9), (.mv (.t 0)), none⟩,
      .op ⟨(some 10), (.cap (.t 9)), none⟩,
      .op ⟨(some 11), (.mv (.t 0)), none⟩,
      .op ⟨(some 12), (.len (.t 11)), none⟩,
      .op ⟨(some 13), (.bin .sub (.t 10) (.t 12)), none⟩,
      .op ⟨(some 14), (.bin .sub (.t 8) (.t 13)), none⟩,
      .op ⟨(some 1), (.mv (.t 14)), none⟩])
    (.seq
    (.ops [.op ⟨(some 15), (.mv (.t 1)), none⟩,
      .op ⟨(some 16), (.bin .gtr (.t 15) (.k (.raw (.int .i64 0)))), none⟩])
    (.cond (.t 16)
     (.ops [.op ⟨(some 17), (.mv (.t 0)), none⟩,
       .op ⟨(some 18), (.mv (.t 0)), none⟩,
       .op ⟨(some 19), (.cap (.t 18)), none⟩,
       .op ⟨(some 20), (.slice 1 (.t 17) none (some (.t 19)) none), none⟩,
       .op ⟨(some 21), (.mv (.t 1)), none⟩,
       .op ⟨(some 22), (.appendZ 1 1 [(.int .u8 0)] (.t 20) (.t 21)), none⟩,
       .op ⟨(some 23), (.mv (.t 0)), none⟩,
       .op ⟨(some 24), (.len (.t 23)), none⟩,
       .op ⟨(some 25), (.slice 1 (.t 22) none (some (.t 24)) none), none⟩,
       .op ⟨(some 0), (.mv (.t 25)), none⟩])
     (.skip))))
    (.seq
    (.ops [.op ⟨(some 26), (.mv (.t 0)), none⟩,
      .op ⟨(some 4), (.mv (.t 26)), none⟩])
    (.ret)))),
    [.tmp 4], 27⟩
theorem c_slices_Grow___byte_byte_ : compFn Tryz.prog f_slices_Grow___byte_byte_ = some x_slices_Grow___byte_byte_ := by kernel_rfl

/- (*vigil/wire.Writer).Number -/
def x___vigil_wire_Writer__Number : XFn := ⟨
    .seq
    (.ops [.op ⟨(some 6), (.mv (.k (.raw (.pointer none)))), none⟩])
    (.seq
    (.seq
    (.ops [.op ⟨(some 9), (.mv (.t 2)), none⟩,
      .op ⟨(some 10), (.len (.t 9)), none⟩,
      .op ⟨(some 11), (.mv (.k (.raw (.int .i64 0)))), none⟩])
    (.block 0
     (.loop
      (.seq
      (.ops [.op ⟨(some 12), (.bin .lss (.t 11) (.t 10)), none⟩])
      (.seq
      (.cond (.t 12)
       (.skip)
       (.exit 0))
      (.seq
      (.block 1
       (.seq
       (.ops [.op ⟨(some 13), (.idxAddr 1 (.t 9) (.t 11)), none⟩,
         .op ⟨(some 14), (.load none (.t 13)), none⟩,
         .op ⟨(some 8), (.mv (.t 14)), none⟩])
       (.ops [.op ⟨(some 15), (.mv (.t 0)), none⟩,
         .op ⟨(some 16), (.mv (.t 1)), none⟩,
         .op ⟨(some 17), (.mv (.t 8)), none⟩,
         .op ⟨(some 18), (.build [(.int .i64 0), (.int .i64 0), (.slice none 0 0)] [(0, 1, (.t 16)), (1, 1, (.t 17))]), none⟩,
         .op ⟨(some 19), (.buildF 1 [(.int .i64 0), (.int .i64 0), (.slice none 0 0)] [(0, 3, (.t 18))]), none⟩,
         .op ⟨(some 20), (.call f___vigil_wire_Writer__Put [(.t 15), (.t 19)]), none⟩])))
      (.ops [.op ⟨(some 21), (.bin .add (.t 11) (.k (.raw (.int .i64 1)))), none⟩,
        .op ⟨(some 11), (.mv (.t 21)), none⟩])))))))
    (.seq
    (.ops [.op ⟨(some 22), (.mv (.t 0)), none⟩,
      .op ⟨(some 6), (.mv (.t 22)), none⟩])
    (.ret))),
    [.tmp 6], 23⟩
theorem c___vigil_wire_Writer__Number : compFn Tryz.prog f___vigil_wire_Writer__Number = some x___vigil_wire_Writer__Number := by kernel_rfl

/- (*vigil/wire.Writer).Out -/
def x___vigil_wire_Writer__Out : XFn := ⟨
    .seq
    (.ops [.op ⟨(some 2), (.mv (.k (.raw (.slice none 0 0)))), none⟩,
      .op ⟨(some 3), (.mv (.k (.raw (.int .i64 0)))), none⟩])
    (.seq
    (.block 0
     (.seq
     (.ops [.op ⟨(some 5), (.mv (.t 0)), none⟩,
       .op ⟨(some 6), (.eq .ptr false (.t 5) (.k (.raw (.pointer none)))), none⟩,
       .op ⟨(some 4), (.mv (.t 6)), none⟩])
     (.cond (.t 4)
      (.seq
      (.ops [.op ⟨(some 2), (.mv (.k (.raw (.slice none 0 0)))), none⟩,
        .op ⟨(some 3), (.mv (.k (.raw (.int .i64 11)))), none⟩])
      (.ret))
      (.seq
      (.ops [.op ⟨(some 8), (.mv (.t 0)), none⟩,
        .op ⟨(some 9), (.nilCheck (.t 8)), none⟩,
        .op ⟨(some 10), (.fieldAddr 1 (.t 9)), none⟩,
        .op ⟨(some 11), (.load none (.t 10)), none⟩,
        .op ⟨(some 12), (.bin .neq (.t 11) (.k (.raw (.int .i64 0)))), none⟩,
        .op ⟨(some 7), (.mv (.t 12)), none⟩])
      (.cond (.t 7)
       (.seq
       (.draw [⟨(some 13), (.mv (.t 0)), none⟩,
         ⟨(some 14), (.nilCheck (.t 13)), none⟩,
         ⟨(some 15), (.fieldAddr 1 (.t 14)), none⟩,
         ⟨(some 16), (.load none (.t 15)), none⟩,
         ⟨(some 2), (.mv (.k (.raw (.slice none 0 0)))), none⟩,
         ⟨(some 3), (.mv (.t 16)), none⟩]
         [[], [0], [0, 1], [1, 0, 2], [], [4, 2, 0, 1, 3]]
         [.q 0, .q 1, .q 2, .q 3, .q 4, .q 5])
       (.ret))
       (.skip))))))
    (.seq
    (.ops [.op ⟨(some 17), (.mv (.t 0)), none⟩,
      .op ⟨(some 18), (.nilCheck (.t 17)), none⟩,
      .op ⟨(some 19), (.fieldAddr 0 (.t 18)), none⟩,
      .op ⟨(some 20), (.load none (.t 19)), none⟩,
      .op ⟨(some 21), (.call f_bytes_Clone [(.t 20)]), none⟩,
      .op ⟨(some 2), (.mv (.t 21)), none⟩,
      .op ⟨(some 3), (.mv (.k (.raw (.int .i64 0)))), none⟩])
    (.ret))),
    [.tmp 2, .tmp 3], 22⟩
theorem c___vigil_wire_Writer__Out : compFn Tryz.prog f___vigil_wire_Writer__Out = some x___vigil_wire_Writer__Out := by kernel_rfl

/- vigil/revoke.joined -/
def x_vigil_revoke_joined : XFn := ⟨
    .seq
    (.ops [.op ⟨(some 6), (.mv (.k (.raw (.slice none 0 0)))), none⟩,
      .op ⟨(some 7), (.mv (.k (.raw (.int .i64 0)))), none⟩])
    (.seq
    (.ops [.op ⟨(some 10), (.mv (.t 0)), none⟩,
      .op ⟨(some 11), (.len (.t 10)), none⟩,
      .op ⟨(some 12), (.mv (.t 1)), none⟩,
      .op ⟨(some 13), (.bin .sub (.t 11) (.t 12)), none⟩,
      .op ⟨(some 14), (.mv (.t 2)), none⟩,
      .op ⟨(some 15), (.len (.t 14)), none⟩,
      .op ⟨(some 16), (.minMax false (.t 13) [(.t 15)]), none⟩,
      .op ⟨(some 8), (.mv (.t 16)), none⟩])
    (.seq
    (.seq
    (.draw [⟨(some 17), (.mv (.t 0)), none⟩,
      ⟨(some 18), (.mv (.t 1)), none⟩,
      ⟨(some 19), (.mv (.t 1)), none⟩,
      ⟨(some 20), (.mv (.t 8)), none⟩,
      ⟨(some 21), (.bin .add (.t 19) (.t 20)), none⟩,
      ⟨(some 22), (.slice 1 (.t 17) (some (.t 18)) (some (.t 21)) none), none⟩,
      ⟨(some 23), (.mv (.t 2)), none⟩,
      ⟨(some 24), (.mv (.t 8)), none⟩,
      ⟨(some 25), (.slice 1 (.t 23) none (some (.t 24)) none), none⟩,
      ⟨(some 26), (.call f_slices_Equal___int_int_ [(.t 22), (.t 25)]), none⟩,
      ⟨(some 27), (.un .not (.t 26)), none⟩]
      [[], [], [], [], [3, 2], [2, 3, 4, 1, 0], [], [], [7, 6], [6, 7, 8, 0, 1, 4, 3, 2, 5], [5, 2, 3, 4, 1, 0, 8, 7, 6, 9]]
      [.q 0, .q 1, .q 2, .q 3, .q 4, .q 5, .q 6, .q 7, .q 8, .eff 9, .q 10])
    (.cond (.t 27)
     (.seq
     (.ops [.op ⟨(some 6), (.mv (.k (.raw (.slice none 0 0)))), none⟩,
       .op ⟨(some 7), (.mv (.k (.raw (.int .i64 3)))), none⟩])
     (.ret))
     (.skip)))
    (.seq
    (.ops [.op ⟨(some 28), (.mv (.t 0)), none⟩,
      .op ⟨(some 29), (.mv (.t 2)), none⟩,
      .op ⟨(some 30), (.mv (.t 8)), none⟩,
      .op ⟨(some 31), (.slice 1 (.t 29) (some (.t 30)) none none), none⟩,
      .op ⟨(some 32), (.buildF 2 [(.slice none 0 0), (.slice none 0 0)] [(0, 1, (.t 28)), (1, 1, (.t 31))]), none⟩,
      .op ⟨(some 33), (.call f_slices_Concat___int_int_ [(.t 32)]), none⟩,
      .op ⟨(some 9), (.mv (.t 33)), none⟩])
    (.seq
    (.block 0
     (.seq
     (.ops [.op ⟨(some 35), (.mv (.t 9)), none⟩,
       .op ⟨(some 36), (.call f_vigil_revoke_twice [(.t 35)]), none⟩,
       .op ⟨(some 34), (.mv (.t 36)), none⟩])
     (.cond (.t 34)
      (.seq
      (.ops [.op ⟨(some 6), (.mv (.k (.raw (.slice none 0 0)))), none⟩,
        .op ⟨(some 7), (.mv (.k (.raw (.int .i64 3)))), none⟩])
      (.ret))
      (.seq
      (.ops [.op ⟨(some 38), (.mv (.t 9)), none⟩,
        .op ⟨(some 39), (.len (.t 38)), none⟩,
        .op ⟨(some 40), (.bin .gtr (.t 39) (.k (.raw (.int .i64 256)))), none⟩,
        .op ⟨(some 37), (.mv (.t 40)), none⟩])
      (.cond (.t 37)
       (.seq
       (.ops [.op ⟨(some 6), (.mv (.k (.raw (.slice none 0 0)))), none⟩,
         .op ⟨(some 7), (.mv (.k (.raw (.int .i64 6)))), none⟩])
       (.ret))
       (.skip))))))
    (.seq
    (.ops [.op ⟨(some 41), (.mv (.t 9)), none⟩,
      .op ⟨(some 6), (.mv (.t 41)), none⟩,
      .op ⟨(some 7), (.mv (.k (.raw (.int .i64 0)))), none⟩])
    (.ret)))))),
    [.tmp 6, .tmp 7], 42⟩
theorem c_vigil_revoke_joined : compFn Tryz.prog f_vigil_revoke_joined = some x_vigil_revoke_joined := by kernel_rfl

/- vigil/revoke.Join -/
def x_vigil_revoke_Join : XFn := ⟨
    .seq
    (.ops [.op ⟨(some 2), (.box (.t 0)), none⟩,
      .op ⟨(some 3), (.box (.t 1)), none⟩,
      .op ⟨(some 4), (.alloc [(.int .i64 0), (.int .i64 0), (.int .i64 0), (.int .i64 0)]), none⟩])
    (.seq
    (.seq
    (.ops [.op ⟨(some 6), (.mv (.k (.raw (.int .i64 0)))), none⟩])
    (.block 0
     (.loop
      (.seq
      (.ops [.op ⟨(some 7), (.bin .lss (.t 6) (.k (.raw (.int .i64 4)))), none⟩])
      (.seq
      (.cond (.t 7)
       (.skip)
       (.exit 0))
      (.seq
      (.block 1
       (.seq
       (.ops [.op ⟨(some 8), (.mv (.t 6)), none⟩,
         .op ⟨(some 5), (.mv (.t 8)), none⟩])
       (.draw [⟨(some 9), (.mv (.t 5)), none⟩,
         ⟨(some 10), (.mv (.t 5)), none⟩,
         ⟨(some 11), (.idxAddrArr 4 1 (.t 2) (.t 10)), none⟩,
         ⟨(some 12), (.load none (.t 11)), none⟩,
         ⟨(some 13), (.mv (.t 5)), none⟩,
         ⟨(some 14), (.idxAddrArr 4 1 (.t 3) (.t 13)), none⟩,
         ⟨(some 15), (.load none (.t 14)), none⟩,
         ⟨(some 16), (.minMax true (.t 12) [(.t 15)]), none⟩,
         ⟨(some 17), (.idxAddrArr 4 1 (.t 2) (.t 9)), none⟩,
         ⟨none, (.store 1 (.t 17) (.t 16)), none⟩]
         [[], [], [1], [1, 2], [], [4], [4, 5], [5, 4, 6, 2, 1, 3], [7, 6, 5, 4, 3, 2, 1, 0], [0, 1, 2, 3, 4, 5, 6, 7, 8]]
         [.q 0, .q 1, .q 2, .q 3, .q 4, .q 5, .q 6, .q 7, .q 8, .eff 9])))
      (.ops [.op ⟨(some 18), (.bin .add (.t 6) (.k (.raw (.int .i64 1)))), none⟩,
        .op ⟨(some 6), (.mv (.t 18)), none⟩])))))))
    (.seq
    (.ops [.op ⟨(some 19), (.load (some 4) (.t 2)), none⟩,
      .op ⟨none, (.store 4 (.t 4) (.t 19)), none⟩])
    (.ret))),
    [.cell 4 (some 4)], 20⟩
theorem c_vigil_revoke_Join : compFn Tryz.prog f_vigil_revoke_Join = some x_vigil_revoke_Join := by kernel_rfl

/- (*vigil/wire.Reader).Get -/
def x___vigil_wire_Reader__Get : XFn := ⟨
    .seq
    (.ops [.op ⟨(some 4), (.alloc [(.int .i64 0), (.int .i64 0), (.slice none 0 0)]), none⟩])
    (.seq
    (.block 0
     (.seq
     (.ops [.op ⟨(some 11), (.mv (.t 0)), none⟩,
       .op ⟨(some 12), (.eq .ptr false (.t 11) (.k (.raw (.pointer none)))), none⟩,
       .op ⟨(some 10), (.mv (.t 12)), none⟩])
     (.cond (.t 10)
      (.seq
      (.ops [.op ⟨(some 13), (.build [(.int .i64 0), (.int .i64 0), (.slice none 0 0)] []), none⟩,
        .op ⟨none, (.store 3 (.t 4) (.t 13)), none⟩])
      (.ret))
      (.seq
      (.ops [.op ⟨(some 15), (.mv (.t 1)), none⟩,
        .op ⟨(some 16), (.bin .lss (.t 15) (.k (.raw (.int .i64 0)))), none⟩,
        .op ⟨(some 17), (.mv (.t 16)), none⟩,
        .split 17,
        .op ⟨(some 18), (.mv (.t 1)), (some (17, false))⟩,
        .op ⟨(some 19), (.bin .gtr (.t 18) (.k (.raw (.int .i64 4)))), (some (17, false))⟩,
        .op ⟨(some 20), (.pick (.t 17) (.k (.raw (.bool true))) (.t 19)), none⟩,
        .op ⟨(some 14), (.mv (.t 20)), none⟩])
      (.cond (.t 14)
       (.seq
       (.ops [.op ⟨(some 21), (.mv (.t 0)), none⟩,
         .op ⟨(some 22), (.nilCheck (.t 21)), none⟩,
         .op ⟨(some 23), (.fieldAddr 0 (.t 22)), none⟩,
         .op ⟨(some 24), (.call f___vigil_wire_rest__fail [(.t 23), (.k (.raw (.int .i64 13)))]), none⟩])
       (.seq
       (.ops [.op ⟨(some 25), (.build [(.int .i64 0), (.int .i64 0), (.slice none 0 0)] []), none⟩,
         .op ⟨none, (.store 3 (.t 4) (.t 25)), none⟩])
       (.ret)))
       (.seq
       (.ops [.op ⟨(some 27), (.mv (.t 1)), none⟩,
         .op ⟨(some 28), (.bin .lss (.t 27) (.k (.raw (.int .i64 4)))), none⟩,
         .op ⟨(some 26), (.mv (.t 28)), none⟩])
       (.cond (.t 26)
        (.seq
        (.ops [.op ⟨(some 30), (.mv (.t 0)), none⟩,
          .op ⟨(some 31), (.nilCheck (.t 30)), none⟩,
          .op ⟨(some 32), (.fieldAddr 0 (.t 31)), none⟩,
          .op ⟨(some 33), (.mv (.t 1)), none⟩,
          .op ⟨(some 34), (.call f___vigil_wire_rest__number [(.t 32), (.t 33)]), none⟩,
          .op ⟨(some 29), (.mv (.t 34)), none⟩,
          .op ⟨(some 35), (.extract (.t 29) 0), none⟩,
          .op ⟨(some 36), (.extract (.t 29) 1), none⟩,
          .op ⟨(some 5), (.mv (.t 35)), none⟩,
          .op ⟨(some 6), (.mv (.t 36)), none⟩])
        (.seq
        (.seq
        (.ops [.op ⟨(some 37), (.mv (.t 6)), none⟩,
          .op ⟨(some 38), (.un .not (.t 37)), none⟩])
        (.cond (.t 38)
         (.seq
         (.ops [.op ⟨(some 39), (.build [(.int .i64 0), (.int .i64 0), (.slice none 0 0)] []), none⟩,
           .op ⟨none, (.store 3 (.t 4) (.t 39)), none⟩])
         (.ret))
         (.skip)))
        (.seq
        (.ops [.op ⟨(some 40), (.mv (.t 1)), none⟩,
          .op ⟨(some 41), (.mv (.t 5)), none⟩,
          .op ⟨(some 42), (.build [(.int .i64 0), (.int .i64 0), (.slice none 0 0)] [(0, 1, (.t 40)), (1, 1, (.t 41))]), none⟩,
          .op ⟨none, (.store 3 (.t 4) (.t 42)), none⟩])
        (.ret))))
        (.skip))))))))
    (.seq
    (.ops [.op ⟨(some 44), (.mv (.t 0)), none⟩,
      .op ⟨(some 45), (.nilCheck (.t 44)), none⟩,
      .op ⟨(some 46), (.fieldAddr 0 (.t 45)), none⟩,
      .op ⟨(some 47), (.call f___vigil_wire_rest__number [(.t 46), (.k (.raw (.int .i64 1)))]), none⟩,
      .op ⟨(some 43), (.mv (.t 47)), none⟩,
      .op ⟨(some 48), (.extract (.t 43) 0), none⟩,
      .op ⟨(some 49), (.extract (.t 43) 1), none⟩,
      .op ⟨(some 7), (.mv (.t 48)), none⟩,
      .op ⟨(some 8), (.mv (.t 49)), none⟩])
    (.seq
    (.seq
    (.ops [.op ⟨(some 50), (.mv (.t 8)), none⟩,
      .op ⟨(some 51), (.mv (.t 50)), none⟩,
      .split 51,
      .op ⟨(some 52), (.mv (.t 7)), (some (51, true))⟩,
      .op ⟨(some 53), (.bin .gtr (.t 52) (.k (.raw (.int .i64 512)))), (some (51, true))⟩,
      .op ⟨(some 54), (.pick (.t 51) (.t 53) (.k (.raw (.bool false)))), none⟩])
    (.cond (.t 54)
     (.seq
     (.ops [.op ⟨(some 55), (.mv (.t 0)), none⟩,
       .op ⟨(some 56), (.nilCheck (.t 55)), none⟩,
       .op ⟨(some 57), (.fieldAddr 0 (.t 56)), none⟩,
       .op ⟨(some 58), (.call f___vigil_wire_rest__fail [(.t 57), (.k (.raw (.int .i64 3)))]), none⟩])
     (.ops [.op ⟨(some 8), (.mv (.k (.raw (.bool false)))), none⟩]))
     (.skip)))
    (.seq
    (.seq
    (.ops [.op ⟨(some 59), (.mv (.t 8)), none⟩,
      .op ⟨(some 60), (.un .not (.t 59)), none⟩])
    (.cond (.t 60)
     (.seq
     (.ops [.op ⟨(some 61), (.build [(.int .i64 0), (.int .i64 0), (.slice none 0 0)] []), none⟩,
       .op ⟨none, (.store 3 (.t 4) (.t 61)), none⟩])
     (.ret))
     (.skip)))
    (.seq
    (.ops [.op ⟨(some 62), (.mv (.t 0)), none⟩,
      .op ⟨(some 63), (.nilCheck (.t 62)), none⟩,
      .op ⟨(some 64), (.fieldAddr 0 (.t 63)), none⟩,
      .op ⟨(some 65), (.mv (.t 7)), none⟩,
      .op ⟨(some 66), (.call f___vigil_wire_rest__take [(.t 64), (.t 65)]), none⟩,
      .op ⟨(some 9), (.mv (.t 66)), none⟩])
    (.seq
    (.seq
    (.ops [.op ⟨(some 67), (.mv (.t 0)), none⟩,
      .op ⟨(some 68), (.nilCheck (.t 67)), none⟩,
      .op ⟨(some 69), (.fieldAddr 0 (.t 68)), none⟩,
      .op ⟨(some 70), (.fieldAddr 1 (.t 69)), none⟩,
      .op ⟨(some 71), (.load none (.t 70)), none⟩,
      .op ⟨(some 72), (.bin .neq (.t 71) (.k (.raw (.int .i64 0)))), none⟩])
    (.cond (.t 72)
     (.seq
     (.ops [.op ⟨(some 73), (.build [(.int .i64 0), (.int .i64 0), (.slice none 0 0)] []), none⟩,
       .op ⟨none, (.store 3 (.t 4) (.t 73)), none⟩])
     (.ret))
     (.skip)))
    (.seq
    (.ops [.op ⟨(some 74), (.mv (.t 9)), none⟩,
      .op ⟨(some 75), (.call f_bytes_Clone [(.t 74)]), none⟩,
      .op ⟨(some 76), (.build [(.int .i64 0), (.int .i64 0), (.slice none 0 0)] [(0, 1, (.k (.raw (.int .i64 4)))), (2, 1, (.t 75))]), none⟩,
      .op ⟨none, (.store 3 (.t 4) (.t 76)), none⟩])
    (.ret)))))))),
    [.cell 4 (some 3)], 77⟩
theorem c___vigil_wire_Reader__Get : compFn Tryz.prog f___vigil_wire_Reader__Get = some x___vigil_wire_Reader__Get := by kernel_rfl

/- (*vigil/revoke.Set).Since -/
def x___vigil_revoke_Set__Since : XFn := ⟨
    .seq
    (.ops [.op ⟨(some 3), (.box (.t 1)), none⟩,
      .op ⟨(some 4), (.alloc [(.int .i64 0), (.int .i64 0), (.int .i64 0), (.int .i64 0), (.slice none 0 0), (.slice none 0 0), (.slice none 0 0), (.slice none 0 0)]), none⟩,
      .op ⟨(some 5), (.mv (.k (.raw (.int .i64 0)))), none⟩])
    (.seq
    (.seq
    (.ops [.op ⟨(some 10), (.mv (.t 0)), none⟩,
      .op ⟨(some 11), (.eq .ptr false (.t 10) (.k (.raw (.pointer none)))), none⟩])
    (.cond (.t 11)
     (.seq
     (.ops [.op ⟨(some 12), (.build [(.int .i64 0), (.int .i64 0), (.int .i64 0), (.int .i64 0), (.slice none 0 0), (.slice none 0 0), (.slice none 0 0), (.slice none 0 0)] []), none⟩,
       .op ⟨none, (.store 8 (.t 4) (.t 12)), none⟩,
       .op ⟨(some 5), (.mv (.k (.raw (.int .i64 11)))), none⟩])
     (.ret))
     (.skip)))
    (.seq
    (.ops [.op ⟨(some 13), (.load (some 4) (.t 3)), none⟩,
      .op ⟨(some 14), (.build [(.int .i64 0), (.int .i64 0), (.int .i64 0), (.int .i64 0), (.slice none 0 0), (.slice none 0 0), (.slice none 0 0), (.slice none 0 0)] [(0, 4, (.t 13))]), none⟩,
      .op ⟨(some 6), (.alloc [(.int .i64 0), (.int .i64 0), (.int .i64 0), (.int .i64 0), (.slice none 0 0), (.slice none 0 0), (.slice none 0 0), (.slice none 0 0)]), none⟩,
      .op ⟨none, (.store 8 (.t 6) (.t 14)), none⟩])
    (.seq
    (.seq
    (.ops [.op ⟨(some 15), (.load (some 4) (.t 3)), none⟩,
      .op ⟨(some 16), (.mv (.k (.raw (.int .i64 0)))), none⟩])
    (.block 0
     (.loop
      (.seq
      (.ops [.op ⟨(some 17), (.bin .lss (.t 16) (.k (.raw (.int .i64 4)))), none⟩])
      (.seq
      (.cond (.t 17)
       (.skip)
       (.exit 0))
      (.seq
      (.block 1
       (.seq
       (.ops [.op ⟨(some 18), (.mv (.t 16)), none⟩,
         .op ⟨(some 19), (.idxArr 4 1 none (.t 15) (.t 16)), none⟩,
         .op ⟨(some 7), (.mv (.t 18)), none⟩,
         .op ⟨(some 8), (.mv (.t 19)), none⟩])
       (.seq
       (.ops [.op ⟨(some 20), (.mv (.t 0)), none⟩,
         .op ⟨(some 21), (.mv (.t 7)), none⟩,
         .op ⟨(some 22), (.call f___vigil_revoke_Set__Log [(.t 20), (.t 21)]), none⟩,
         .op ⟨(some 9), (.mv (.t 22)), none⟩])
       (.seq
       (.seq
       (.ops [.op ⟨(some 23), (.mv (.t 8)), none⟩,
         .op ⟨(some 24), (.bin .lss (.t 23) (.k (.raw (.int .i64 0)))), none⟩,
         .op ⟨(some 25), (.mv (.t 24)), none⟩,
         .split 25,
         .op ⟨(some 26), (.mv (.t 8)), (some (25, false))⟩,
         .op ⟨(some 27), (.mv (.t 9)), (some (25, false))⟩,
         .op ⟨(some 28), (.len (.t 27)), (some (25, false))⟩,
         .op ⟨(some 29), (.bin .gtr (.t 26) (.t 28)), (some (25, false))⟩,
         .op ⟨(some 30), (.pick (.t 25) (.k (.raw (.bool true))) (.t 29)), none⟩])
       (.cond (.t 30)
        (.seq
        (.ops [.op ⟨(some 31), (.build [(.int .i64 0), (.int .i64 0), (.int .i64 0), (.int .i64 0), (.slice none 0 0), (.slice none 0 0), (.slice none 0 0), (.slice none 0 0)] []), none⟩,
          .op ⟨none, (.store 8 (.t 4) (.t 31)), none⟩,
          .op ⟨(some 5), (.mv (.k (.raw (.int .i64 10)))), none⟩])
        (.ret))
        (.skip)))
       (.ops [.op ⟨(some 32), (.mv (.t 7)), none⟩,
         .op ⟨(some 33), (.mv (.t 9)), none⟩,
         .op ⟨(some 34), (.mv (.t 8)), none⟩,
         .op ⟨(some 35), (.mv (.t 9)), none⟩,
         .op ⟨(some 36), (.len (.t 35)), none⟩,
         .op ⟨(some 37), (.mv (.t 9)), none⟩,
         .op ⟨(some 38), (.len (.t 37)), none⟩,
         .op ⟨(some 39), (.slice 1 (.t 33) (some (.t 34)) (some (.t 36)) (some (.t 38))), none⟩,
         .op ⟨(some 40), (.fieldAddr 4 (.t 6)), none⟩,
         .op ⟨(some 41), (.idxAddrArr 4 1 (.t 40) (.t 32)), none⟩,
         .op ⟨none, (.store 1 (.t 41) (.t 39)), none⟩])))))
      (.ops [.op ⟨(some 42), (.bin .add (.t 16) (.k (.raw (.int .i64 1)))), none⟩,
        .op ⟨(some 16), (.mv (.t 42)), none⟩])))))))
    (.seq
    (.ops [.op ⟨(some 43), (.load (some 8) (.t 6)), none⟩,
      .op ⟨none, (.store 8 (.t 4) (.t 43)), none⟩,
      .op ⟨(some 5), (.mv (.k (.raw (.int .i64 0)))), none⟩])
    (.ret))))),
    [.cell 4 (some 8), .tmp 5], 44⟩
theorem c___vigil_revoke_Set__Since : compFn Tryz.prog f___vigil_revoke_Set__Since = some x___vigil_revoke_Set__Since := by kernel_rfl

/- slices.Backward[[][]int,[]int] -/
def x_slices_Backward_____int___int_ : XFn := ⟨
    .seq
    (.ops [.op ⟨(some 1), (.box (.t 0)), none⟩,
      .op ⟨(some 2), (.mv (.k (.raw .nilFunc))), none⟩])
    (.seq
    (.ops [.op ⟨(some 3), (.mkFunc (.func f_slices_Backward_____int___int__1) [] [(.t 1)]), none⟩,
      .op ⟨(some 2), (.mv (.t 3)), none⟩])
    (.ret)),
    [.tmp 2], 4⟩
theorem c_slices_Backward_____int___int_ : compFn Tryz.prog f_slices_Backward_____int___int_ = some x_slices_Backward_____int___int_ := by kernel_rfl

/- vigil/delta.Size -/
def x_vigil_delta_Size : XFn := ⟨
    .seq
    (.ops [.op ⟨(some 1), (.box (.t 0)), none⟩,
      .op ⟨(some 2), (.mv (.k (.raw (.int .i64 0)))), none⟩])
    (.seq
    (.ops [.op ⟨(some 3), (.mv (.k (.raw (.int .i64 16)))), none⟩])
    (.seq
    (.seq
    (.ops [.op ⟨(some 6), (.fieldAddr 4 (.t 1)), none⟩,
      .op ⟨(some 7), (.load (some 4) (.t 6)), none⟩,
      .op ⟨(some 8), (.mv (.k (.raw (.int .i64 0)))), none⟩])
    (.block 0
     (.loop
      (.seq
      (.ops [.op ⟨(some 9), (.bin .lss (.t 8) (.k (.raw (.int .i64 4)))), none⟩])
      (.seq
      (.cond (.t 9)
       (.skip)
       (.exit 0))
      (.seq
      (.block 1
       (.seq
       (.ops [.op ⟨(some 10), (.idxArr 4 1 none (.t 7) (.t 8)), none⟩,
         .op ⟨(some 5), (.mv (.t 10)), none⟩])
       (.ops [.op ⟨(some 11), (.mv (.t 3)), none⟩,
         .op ⟨(some 12), (.mv (.t 5)), none⟩,
         .op ⟨(some 13), (.len (.t 12)), none⟩,
         .op ⟨(some 14), (.bin .mul (.k (.raw (.int .i64 2))) (.t 13)), none⟩,
         .op ⟨(some 15), (.bin .add (.t 11) (.t 14)), none⟩,
         .op ⟨(some 3), (.mv (.t 15)), none⟩])))
      (.ops [.op ⟨(some 16), (.bin .add (.t 8) (.k (.raw (.int .i64 1)))), none⟩,
        .op ⟨(some 8), (.mv (.t 16)), none⟩])))))))
    (.seq
    (.ops [.op ⟨(some 17), (.mv (.t 3)), none⟩,
      .op ⟨(some 2), (.mv (.t 17)), none⟩])
    (.ret)))),
    [.tmp 2], 18⟩
theorem c_vigil_delta_Size : compFn Tryz.prog f_vigil_delta_Size = some x_vigil_delta_Size := by kernel_rfl

/- vigil/vigilref01.small -/
def x_vigilref01_small : XFn := ⟨
    .seq
    (.ops [.op ⟨(some 6), (.mv (.k (.raw (.bool false)))), none⟩])
    (.seq
    (.ops [.op ⟨(some 11), (.mv (.t 0)), none⟩,
      .op ⟨(some 12), (.call f_vigilref01_parts [(.t 11)]), none⟩,
      .op ⟨(some 7), (.alloc [(.int .u64 0), (.int .u64 0), (.int .u64 0), (.int .u64 0), (.int .u64 0), (.int .u64 0), (.int .u64 0), (.int .u64 0), (.int .u64 0), (.int .u64 0), (.int .u64 0), (.int .u64 0)]), none⟩,
      .op ⟨none, (.store 12 (.t 7) (.t 12)), none⟩])
    (.seq
    (.seq
    (.ops [.op ⟨(some 8), (.mv (.k (.raw (.int .u64 1)))), none⟩])
    (.block 0
     (.loop
      (.seq
      (.seq
      (.ops [.op ⟨(some 13), (.mv (.t 8)), none⟩,
        .op ⟨(some 14), (.mv (.t 1)), none⟩,
        .op ⟨(some 15), (.bin .lss (.t 13) (.t 14)), none⟩])
      (.cond (.t 15)
       (.skip)
       (.exit 0)))
      (.seq
      (.block 1
       (.draw [⟨(some 18), (.load (some 12) (.t 7)), none⟩,
         ⟨(some 19), (.mv (.t 0)), none⟩,
         ⟨(some 20), (.call f_vigilref01_parts [(.t 19)]), none⟩,
         ⟨(some 21), (.call f_vigilref01_times [(.t 18), (.t 20)]), none⟩,
         ⟨none, (.store 12 (.t 7) (.t 21)), none⟩]
         [[], [], [1], [1, 2, 0], [0, 2, 1, 3]]
         [.q 0, .q 1, .eff 2, .eff 3, .eff 4]))
      (.ops [.op ⟨(some 16), (.mv (.t 8)), none⟩,
        .op ⟨(some 17), (.bin .add (.t 16) (.k (.raw (.int .u64 1)))), none⟩,
        .op ⟨(some 8), (.mv (.t 17)), none⟩]))))))
    (.seq
    (.ops [.op ⟨(some 22), (.build [(.int .u64 0), (.int .u64 0), (.int .u64 0), (.int .u64 0), (.int .u64 0), (.int .u64 0), (.int .u64 0), (.int .u64 0), (.int .u64 0), (.int .u64 0), (.int .u64 0), (.int .u64 0)] []), none⟩,
      .op ⟨(some 9), (.alloc [(.int .u64 0), (.int .u64 0), (.int .u64 0), (.int .u64 0), (.int .u64 0), (.int .u64 0), (.int .u64 0), (.int .u64 0), (.int .u64 0), (.int .u64 0), (.int .u64 0), (.int .u64 0)]), none⟩,
      .op ⟨none, (.store 12 (.t 9) (.t 22)), none⟩])
    (.seq
    (.ops [.op ⟨(some 23), (.mv (.t 1)), none⟩,
      .op ⟨(some 24), (.bin .mul (.k (.raw (.int .u64 2))) (.t 23)), none⟩,
      .op ⟨(some 25), (.mv (.t 2)), none⟩,
      .op ⟨(some 26), (.idxAddrArr 12 1 (.t 9) (.t 24)), none⟩,
      .op ⟨none, (.store 1 (.t 26) (.t 25)), none⟩])
    (.seq
    (.seq
    (.ops [.op ⟨(some 10), (.mv (.k (.raw (.int .i64 11)))), none⟩])
    (.block 2
     (.loop
      (.seq
      (.seq
      (.ops [.op ⟨(some 27), (.mv (.t 10)), none⟩,
        .op ⟨(some 28), (.bin .geq (.t 27) (.k (.raw (.int .i64 0)))), none⟩])
      (.cond (.t 28)
       (.skip)
       (.exit 2)))
      (.seq
      (.block 3
       (.seq
       (.draw [⟨(some 31), (.mv (.t 10)), none⟩,
         ⟨(some 32), (.idxAddrArr 12 1 (.t 7) (.t 31)), none⟩,
         ⟨(some 33), (.load none (.t 32)), none⟩,
         ⟨(some 34), (.mv (.t 10)), none⟩,
         ⟨(some 35), (.idxAddrArr 12 1 (.t 9) (.t 34)), none⟩,
         ⟨(some 36), (.load none (.t 35)), none⟩,
         ⟨(some 37), (.bin .neq (.t 33) (.t 36)), none⟩]
         [[], [0], [0, 1], [], [3], [3, 4], [4, 3, 5, 1, 0, 2]]
         [.q 0, .q 1, .q 2, .q 3, .q 4, .q 5, .q 6])
       (.cond (.t 37)
        (.seq
        (.draw [⟨(some 38), (.mv (.t 10)), none⟩,
          ⟨(some 39), (.idxAddrArr 12 1 (.t 7) (.t 38)), none⟩,
          ⟨(some 40), (.load none (.t 39)), none⟩,
          ⟨(some 41), (.mv (.t 10)), none⟩,
          ⟨(some 42), (.idxAddrArr 12 1 (.t 9) (.t 41)), none⟩,
          ⟨(some 43), (.load none (.t 42)), none⟩,
          ⟨(some 44), (.bin .lss (.t 40) (.t 43)), none⟩,
          ⟨(some 6), (.mv (.t 44)), none⟩]
          [[], [0], [0, 1], [], [3], [3, 4], [4, 3, 5, 1, 0, 2], [2, 0, 1, 5, 3, 4, 6]]
          [.q 0, .q 1, .q 2, .q 3, .q 4, .q 5, .q 6, .q 7])
        (.ret))
        (.skip))))
      (.ops [.op ⟨(some 29), (.mv (.t 10)), none⟩,
        .op ⟨(some 30), (.bin .sub (.t 29) (.k (.raw (.int .i64 1)))), none⟩,
        .op ⟨(some 10), (.mv (.t 30)), none⟩]))))))
    (.seq
    (.ops [.op ⟨(some 6), (.mv (.k (.raw (.bool true)))), none⟩])
    (.ret))))))),
    [.tmp 6], 45⟩
theorem c_vigilref01_small : compFn Tryz.prog f_vigilref01_small = some x_vigilref01_small := by kernel_rfl

/- vigil/vigilref04.Width -/
def x_vigilref04_Width : XFn := ⟨
    .seq
    (.ops [.op ⟨(some 2), (.mv (.k (.raw (.int .i64 0)))), none⟩])
    (.seq
    (.ops [.op ⟨(some 3), (.build [(.int .i64 0), (.int .i64 0), (.int .i64 0), (.int .i64 0)] [(0, 1, (.k (.raw (.int .i64 1)))), (1, 1, (.k (.raw (.int .i64 2)))), (2, 1, (.k (.raw (.int .i64 4)))), (3, 1, (.k (.raw (.int .i64 8))))]), none⟩,
      .op ⟨(some 4), (.mv (.t 0)), none⟩,
      .op ⟨(some 5), (.idxArr 4 1 none (.t 3) (.t 4)), none⟩,
      .op ⟨(some 2), (.mv (.t 5)), none⟩])
    (.ret)),
    [.tmp 2], 6⟩
theorem c_vigilref04_Width : compFn Tryz.prog f_vigilref04_Width = some x_vigilref04_Width := by kernel_rfl

/- slices.ContainsFunc[[]int,int] -/
def x_slices_ContainsFunc___int_int_ : XFn := ⟨
    .seq
    (.ops [.op ⟨(some 4), (.mv (.k (.raw (.bool false)))), none⟩])
    (.seq
    (.ops [.op ⟨(some 5), (.mv (.t 0)), none⟩,
      .op ⟨(some 6), (.mv (.t 1)), none⟩,
      .op ⟨(some 7), (.call f_slices_IndexFunc___int_int_ [(.t 5), (.t 6)]), none⟩,
      .op ⟨(some 8), (.bin .geq (.t 7) (.k (.raw (.int .i64 0)))), none⟩,
      .op ⟨(some 4), (.mv (.t 8)), none⟩])
    (.ret)),
    [.tmp 4], 9⟩
theorem c_slices_ContainsFunc___int_int_ : compFn Tryz.prog f_slices_ContainsFunc___int_int_ = some x_slices_ContainsFunc___int_int_ := by kernel_rfl

/- vigil/revoke.serials$1 -/
def x_vigil_revoke_serials_1 : XFn := ⟨
    .seq
    (.ops [.op ⟨(some 2), (.mv (.k (.raw (.bool false)))), none⟩])
    (.seq
    (.ops [.op ⟨(some 3), (.mv (.t 0)), none⟩,
      .op ⟨(some 4), (.bin .lss (.t 3) (.k (.raw (.int .i64 1)))), none⟩,
      .op ⟨(some 5), (.mv (.t 4)), none⟩,
      .split 5,
      .op ⟨(some 6), (.mv (.t 0)), (some (5, false))⟩,
      .op ⟨(some 7), (.bin .gtr (.t 6) (.k (.raw (.int .i64 65535)))), (some (5, false))⟩,
      .op ⟨(some 8), (.pick (.t 5) (.k (.raw (.bool true))) (.t 7)), none⟩,
      .op ⟨(some 2), (.mv (.t 8)), none⟩])
    (.ret)),
    [.tmp 2], 9⟩
theorem c_vigil_revoke_serials_1 : compFn Tryz.prog f_vigil_revoke_serials_1 = some x_vigil_revoke_serials_1 := by kernel_rfl

/- slices.Grow[[]int,int] -/
def x_slices_Grow___int_int_ : XFn := ⟨
    .seq
    (.ops [.op ⟨(some 4), (.mv (.k (.raw (.slice none 0 0)))), none⟩])
    (.seq
    (.seq
    (.ops [.op ⟨(some 5), (.mv (.t 1)), none⟩,
      .op ⟨(some 6), (.bin .lss (.t 5) (.k (.raw (.int .i64 0)))), none⟩])
    (.cond (.t 6)
     (.ops [.op ⟨(some 7), .die, none⟩,
       .op ⟨none, .die, none⟩])
     (.skip)))
    (.seq
    (.seq
    (.ops [.op ⟨(some 8), (.mv (.t 1)), none⟩,
      .op ⟨(some 9), (.mv (.t 0)), none⟩,
      .op ⟨(some 10), (.cap (.t 9)), none⟩,
      .op ⟨(some 11), (.mv (.t 0)), none⟩,
      .op ⟨(some 12), (.len (.t 11)), none⟩,
      .op ⟨(some 13), (.bin .sub (.t 10) (.t 12)), none⟩,
      .op ⟨(some 14), (.bin .sub (.t 8) (.t 13)), none⟩,
      .op ⟨(some 1), (.mv (.t 14)), none⟩])
    (.seq
    (.ops [.op ⟨(some 15), (.mv (.t 1)), none⟩,
      .op ⟨(some 16), (.bin .gtr (.t 15) (.k (.raw (.int .i64 0)))), none⟩])
    (.cond (.t 16)
     (.ops [.op ⟨(some 17), (.mv (.t 0)), none⟩,
       .op ⟨(some 18), (.mv (.t 0)), none⟩,
       .op ⟨(some 19), (.cap (.t 18)), none⟩,
       .op ⟨(some 20), (.slice 1 (.t 17) none (some (.t 19)) none), none⟩,
       .op ⟨(some 21), (.mv (.t 1)), none⟩,
       .op ⟨(some 22), (.appendZ 1 8 [(.int .i64 0)] (.t 20) (.t 21)), none⟩,
       .op ⟨(some 23), (.mv (.t 0)), none⟩,
       .op ⟨(some 24), (.len (.t 23)), none⟩,
       .op ⟨(some 25), (.slice 1 (.t 22) none (some (.t 24)) none), none⟩,
       .op ⟨(some 0), (.mv (.t 25)), none⟩])
     (.skip))))
    (.seq
    (.ops [.op ⟨(some 26), (.mv (.t 0)), none⟩,
      .op ⟨(some 4), (.mv (.t 26)), none⟩])
    (.ret)))),
    [.tmp 4], 27⟩
theorem c_slices_Grow___int_int_ : compFn Tryz.prog f_slices_Grow___int_int_ = some x_slices_Grow___int_int_ := by kernel_rfl

/- slices.Sorted[int] -/
def x_slices_Sorted_int_ : XFn := ⟨
    .seq
    (.ops [.op ⟨(some 2), (.mv (.k (.raw (.slice none 0 0)))), none⟩])
    (.seq
    (.ops [.op ⟨(some 4), (.mv (.t 0)), none⟩,
      .op ⟨(some 5), (.call f_slices_Collect_int_ [(.t 4)]), none⟩,
      .op ⟨(some 3), (.mv (.t 5)), none⟩])
    (.seq
    (.ops [.op ⟨(some 6), (.mv (.t 3)), none⟩,
      .op ⟨(some 7), (.call f_slices_Sort___int_int_ [(.t 6)]), none⟩])
    (.seq
    (.ops [.op ⟨(some 8), (.mv (.t 3)), none⟩,
      .op ⟨(some 2), (.mv (.t 8)), none⟩])
    (.ret)))),
    [.tmp 2], 9⟩
theorem c_slices_Sorted_int_ : compFn Tryz.prog f_slices_Sorted_int_ = some x_slices_Sorted_int_ := by kernel_rfl

/- slices.Values[[]int,int] -/
def x_slices_Values___int_int_ : XFn := ⟨
    .seq
    (.ops [.op ⟨(some 1), (.box (.t 0)), none⟩,
      .op ⟨(some 2), (.mv (.k (.raw .nilFunc))), none⟩])
    (.seq
    (.ops [.op ⟨(some 3), (.mkFunc (.func f_slices_Values___int_int__1) [] [(.t 1)]), none⟩,
      .op ⟨(some 2), (.mv (.t 3)), none⟩])
    (.ret)),
    [.tmp 2], 4⟩
theorem c_slices_Values___int_int_ : compFn Tryz.prog f_slices_Values___int_int_ = some x_slices_Values___int_int_ := by kernel_rfl

/- vigil/delta.right$1 -/
def x_vigil_delta_right_1 : XFn := ⟨
    .seq
    (.ops [.op ⟨(some 2), (.mv (.k (.raw (.bool false)))), none⟩])
    (.seq
    (.ops [.op ⟨(some 3), (.mv (.t 0)), none⟩,
      .op ⟨(some 4), (.bin .lss (.t 3) (.k (.raw (.int .i64 0)))), none⟩,
      .op ⟨(some 5), (.mv (.t 4)), none⟩,
      .split 5,
      .op ⟨(some 6), (.mv (.t 0)), (some (5, false))⟩,
      .op ⟨(some 7), (.bin .gtr (.t 6) (.k (.raw (.int .i64 256)))), (some (5, false))⟩,
      .op ⟨(some 8), (.pick (.t 5) (.k (.raw (.bool true))) (.t 7)), none⟩,
      .op ⟨(some 2), (.mv (.t 8)), none⟩])
    (.ret)),
    [.tmp 2], 9⟩
theorem c_vigil_delta_right_1 : compFn Tryz.prog f_vigil_delta_right_1 = some x_vigil_delta_right_1 := by kernel_rfl

/- (*vigil/wire.Reader).Left -/
def x___vigil_wire_Reader__Left : XFn := ⟨
    .seq
    (.ops [.op ⟨(some 2), (.mv (.k (.raw (.int .i64 0)))), none⟩])
    (.seq
    (.seq
    (.ops [.op ⟨(some 3), (.mv (.t 0)), none⟩,
      .op ⟨(some 4), (.eq .ptr false (.t 3) (.k (.raw (.pointer none)))), none⟩])
    (.cond (.t 4)
     (.seq
     (.ops [.op ⟨(some 2), (.mv (.k (.raw (.int .i64 0)))), none⟩])
     (.ret))
     (.skip)))
    (.seq
    (.ops [.op ⟨(some 5), (.mv (.t 0)), none⟩,
      .op ⟨(some 6), (.nilCheck (.t 5)), none⟩,
      .op ⟨(some 7), (.fieldAddr 0 (.t 6)), none⟩,
      .op ⟨(some 8), (.fieldAddr 0 (.t 7)), none⟩,
      .op ⟨(some 9), (.load none (.t 8)), none⟩,
      .op ⟨(some 10), (.len (.t 9)), none⟩,
      .op ⟨(some 2), (.mv (.t 10)), none⟩])
    (.ret))),
    [.tmp 2], 11⟩
theorem c___vigil_wire_Reader__Left : compFn Tryz.prog f___vigil_wire_Reader__Left = some x___vigil_wire_Reader__Left := by kernel_rfl

/- vigil/vigilref08.Check -/
def x_vigilref08_Check : XFn := ⟨
    .seq
    (.ops [.op ⟨(some 1), (.box (.t 0)), none⟩,
      .op ⟨(some 2), (.mv (.k (.raw (.bool false)))), none⟩])
    (.seq
    (.seq
    (.ops [.op ⟨(some 3), (.mv (.k (.raw (.int .i64 0)))), none⟩])
    (.block 0
     (.loop
      (.seq
      (.seq
      (.ops [.op ⟨(some 4), (.mv (.t 3)), none⟩,
        .op ⟨(some 5), (.bin .lss (.t 4) (.k (.raw (.int .i64 4)))), none⟩])
      (.cond (.t 5)
       (.skip)
       (.exit 0)))
      (.seq
      (.block 1
       (.seq
       (.ops [.op ⟨(some 8), (.mv (.t 3)), none⟩,
         .op ⟨(some 9), (.fieldAddr 0 (.t 1)), none⟩,
         .op ⟨(some 10), (.idxAddrArr 4 1 (.t 9) (.t 8)), none⟩,
         .op ⟨(some 11), (.load none (.t 10)), none⟩,
         .op ⟨(some 12), (.bin .lss (.t 11) (.k (.raw (.int .i64 0)))), none⟩,
         .op ⟨(some 13), (.mv (.t 12)), none⟩,
         .split 13,
         .op ⟨(some 14), (.mv (.t 3)), (some (13, false))⟩,
         .op ⟨(some 15), (.fieldAddr 0 (.t 1)), (some (13, false))⟩,
         .op ⟨(some 16), (.idxAddrArr 4 1 (.t 15) (.t 14)), (some (13, false))⟩,
         .op ⟨(some 17), (.load none (.t 16)), (some (13, false))⟩,
         .op ⟨(some 18), (.bin .gtr (.t 17) (.k (.raw (.int .i64 256)))), (some (13, false))⟩,
         .op ⟨(some 19), (.pick (.t 13) (.k (.raw (.bool true))) (.t 18)), none⟩,
         .op ⟨(some 20), (.mv (.t 19)), none⟩,
         .split 20,
         .op ⟨(some 21), (.mv (.t 3)), (some (20, false))⟩,
         .op ⟨(some 22), (.fieldAddr 4 (.t 1)), (some (20, false))⟩,
         .op ⟨(some 23), (.idxAddrArr 4 1 (.t 22) (.t 21)), (some (20, false))⟩,
         .op ⟨(some 24), (.load none (.t 23)), (some (20, false))⟩,
         .op ⟨(some 25), (.len (.t 24)), (some (20, false))⟩,
         .op ⟨(some 26), (.bin .gtr (.t 25) (.k (.raw (.int .i64 256)))), (some (20, false))⟩,
         .op ⟨(some 27), (.pick (.t 20) (.k (.raw (.bool true))) (.t 26)), none⟩,
         .op ⟨(some 28), (.mv (.t 27)), none⟩,
         .split 28,
         .op ⟨(some 29), (.mv (.t 3)), (some (28, false))⟩,
         .op ⟨(some 30), (.fieldAddr 4 (.t 1)), (some (28, false))⟩,
         .op ⟨(some 31), (.idxAddrArr 4 1 (.t 30) (.t 29)), (some (28, false))⟩,
         .op ⟨(some 32), (.load none (.t 31)), (some (28, false))⟩,
         .op ⟨(some 33), (.call f_vigilref08_Right [(.t 32)]), (some (28, false))⟩,
         .op ⟨(some 34), (.un .not (.t 33)), (some (28, false))⟩,
         .op ⟨(some 35), (.pick (.t 28) (.k (.raw (.bool true))) (.t 34)), none⟩])
       (.cond (.t 35)
        (.seq
        (.ops [.op ⟨(some 2), (.mv (.k (.raw (.bool false)))), none⟩])
        (.ret))
        (.skip))))
      (.ops [.op ⟨(some 6), (.mv (.t 3)), none⟩,
        .op ⟨(some 7), (.bin .add (.t 6) (.k (.raw (.int .i64 1)))), none⟩,
        .op ⟨(some 3), (.mv (.t 7)), none⟩]))))))
    (.seq
    (.ops [.op ⟨(some 2), (.mv (.k (.raw (.bool true)))), none⟩])
    (.ret))),
    [.tmp 2], 36⟩
theorem c_vigilref08_Check : compFn Tryz.prog f_vigilref08_Check = some x_vigilref08_Check := by kernel_rfl

/- (*vigil/digest.Running).Add -/
def x___vigil_digest_Running__Add : XFn := ⟨
    .seq
    (.ops [.op ⟨(some 4), (.mv (.k (.raw (.pointer none)))), none⟩])
    (.seq
    (.seq
    (.ops [.op ⟨(some 7), (.mv (.t 0)), none⟩,
      .op ⟨(some 8), (.eq .ptr false (.t 7) (.k (.raw (.pointer none)))), none⟩])
    (.cond (.t 8)
     (.seq
     (.ops [.op ⟨(some 4), (.mv (.k (.raw (.pointer none)))), none⟩])
     (.ret))
     (.skip)))
    (.seq
    (.seq
    (.ops [.op ⟨(some 9), (.mv (.t 0)), none⟩,
      .op ⟨(some 10), (.nilCheck (.t 9)), none⟩,
      .op ⟨(some 11), (.fieldAddr 8 (.t 10)), none⟩,
      .op ⟨(some 12), (.load none (.t 11)), none⟩,
      .op ⟨(some 13), (.un .not (.t 12)), none⟩])
    (.cond (.t 13)
     (.ops [.op ⟨(some 14), (.mv (.t 0)), none⟩,
       .op ⟨(some 15), (.mv (.t 0)), none⟩,
       .op ⟨(some 16), (.call f_vigil_digest_begun []), none⟩,
       .op ⟨(some 17), (.nilCheck (.t 14)), none⟩,
       .op ⟨(some 18), (.fieldAddr 0 (.t 17)), none⟩,
       .op ⟨none, (.store 8 (.t 18) (.t 16)), none⟩,
       .op ⟨(some 19), (.nilCheck (.t 15)), none⟩,
       .op ⟨(some 20), (.fieldAddr 8 (.t 19)), none⟩,
       .op ⟨none, (.store 1 (.t 20) (.k (.raw (.bool true)))), none⟩])
     (.skip)))
    (.seq
    (.seq
    (.ops [.op ⟨(some 21), (.mv (.t 1)), none⟩,
      .op ⟨(some 22), (.len (.t 21)), none⟩,
      .op ⟨(some 23), (.mv (.k (.raw (.int .i64 0)))), none⟩])
    (.block 0
     (.loop
      (.seq
      (.ops [.op ⟨(some 24), (.bin .lss (.t 23) (.t 22)), none⟩])
      (.seq
      (.cond (.t 24)
       (.skip)
       (.exit 0))
      (.seq
      (.block 1
       (.seq
       (.ops [.op ⟨(some 25), (.idxAddr 1 (.t 21) (.t 23)), none⟩,
         .op ⟨(some 26), (.load none (.t 25)), none⟩,
         .op ⟨(some 6), (.mv (.t 26)), none⟩])
       (.seq
       (.ops [.op ⟨(some 27), (.mv (.t 0)), none⟩,
         .op ⟨(some 28), (.nilCheck (.t 27)), none⟩,
         .op ⟨(some 29), (.fieldAddr 10 (.t 28)), none⟩,
         .op ⟨(some 30), (.load none (.t 29)), none⟩,
         .op ⟨(some 31), (.mv (.t 6)), none⟩,
         .op ⟨(some 32), (.len (.t 31)), none⟩,
         .op ⟨(some 33), (.bin .add (.t 30) (.t 32)), none⟩,
         .op ⟨(some 34), (.nilCheck (.t 27)), none⟩,
         .op ⟨(some 35), (.fieldAddr 10 (.t 34)), none⟩,
         .op ⟨none, (.store 1 (.t 35) (.t 33)), none⟩])
       (.draw [⟨(some 36), (.mv (.t 0)), none⟩,
         ⟨(some 37), (.mv (.t 0)), none⟩,
         ⟨(some 38), (.nilCheck (.t 37)), none⟩,
         ⟨(some 39), (.fieldAddr 0 (.t 38)), none⟩,
         ⟨(some 40), (.mv (.t 0)), none⟩,
         ⟨(some 41), (.nilCheck (.t 40)), none⟩,
         ⟨(some 42), (.fieldAddr 9 (.t 41)), none⟩,
         ⟨(some 43), (.load none (.t 42)), none⟩,
         ⟨(some 44), (.mv (.t 6)), none⟩,
         ⟨(some 45), (.buildF 2 [(.slice none 0 0), (.slice none 0 0)] [(0, 1, (.t 43)), (1, 1, (.t 44))]), none⟩,
         ⟨(some 46), (.call f_slices_Concat___byte_byte_ [(.t 45)]), none⟩,
         ⟨(some 47), (.call f___vigil_digest_state__all [(.t 39), (.t 46)]), none⟩,
         ⟨(some 48), (.nilCheck (.t 36)), none⟩,
         ⟨(some 49), (.fieldAddr 9 (.t 48)), none⟩,
         ⟨none, (.store 1 (.t 49) (.t 47)), none⟩]
         [[], [], [1], [1, 2], [], [4], [4, 5], [5, 4, 6], [], [8, 6, 4, 5, 7], [7, 5, 4, 6, 8, 9], [9, 8, 6, 4, 5, 7, 10, 2, 1, 3], [11, 10, 9, 8, 7, 6, 5, 4, 3, 2, 1, 0], [0, 1, 2, 3, 4, 5, 6, 7, 8, 9, 10, 11, 12], [12, 11, 10, 9, 8, 7, 6, 5, 4, 3, 2, 1, 0, 13]]
         [.q 0, .q 1, .q 2, .q 3, .q 4, .q 5, .q 6, .q 7, .q 8, .q 9, .eff 10, .eff 11, .q 12, .q 13, .eff 14]))))
      (.ops [.op ⟨(some 50), (.bin .add (.t 23) (.k (.raw (.int .i64 1)))), none⟩,
        .op ⟨(some 23), (.mv (.t 50)), none⟩])))))))
    (.seq
    (.ops [.op ⟨(some 51), (.mv (.t 0)), none⟩,
      .op ⟨(some 4), (.mv (.t 51)), none⟩])
    (.ret))))),
    [.tmp 4], 52⟩
theorem c___vigil_digest_Running__Add : compFn Tryz.prog f___vigil_digest_Running__Add = some x___vigil_digest_Running__Add := by kernel_rfl

/- (*vigil/digest.Running).Sum -/
def x___vigil_digest_Running__Sum : XFn := ⟨
    .seq
    (.ops [.op ⟨(some 2), (.alloc [(.int .u8 0), (.int .u8 0), (.int .u8 0), (.int .u8 0), (.int .u8 0), (.int .u8 0), (.int .u8 0), (.int .u8 0), (.int .u8 0), (.int .u8 0), (.int .u8 0), (.int .u8 0), (.int .u8 0), (.int .u8 0), (.int .u8 0), (.int .u8 0), (.int .u8 0), (.int .u8 0), (.int .u8 0), (.int .u8 0), (.int .u8 0), (.int .u8 0), (.int .u8 0), (.int .u8 0), (.int .u8 0), (.int .u8 0), (.int .u8 0), (.int .u8 0), (.int .u8 0), (.int .u8 0), (.int .u8 0), (.int .u8 0)]), none⟩])
    (.seq
    (.seq
    (.ops [.op ⟨(some 6), (.mv (.t 0)), none⟩,
      .op ⟨(some 7), (.eq .ptr false (.t 6) (.k (.raw (.pointer none)))), none⟩])
    (.cond (.t 7)
     (.seq
     (.ops [.op ⟨(some 8), (.call f_vigil_digest_Sum [(.k (.raw (.slice none 0 0)))]), none⟩,
       .op ⟨none, (.store 32 (.t 2) (.t 8)), none⟩])
     (.ret))
     (.skip)))
    (.seq
    (.ops [.op ⟨(some 9), (.mv (.t 0)), none⟩,
      .op ⟨(some 10), (.call f___vigil_digest_Running__Copy [(.t 9)]), none⟩,
      .op ⟨(some 11), (.call f___vigil_digest_Running__Add [(.t 10), (.k (.raw (.slice none 0 0)))]), none⟩,
      .op ⟨(some 3), (.mv (.t 11)), none⟩])
    (.seq
    (.ops [.op ⟨(some 12), (.buildF 1 [(.int .u8 0)] [(0, 1, (.k (.raw (.int .u8 128))))]), none⟩,
      .op ⟨(some 4), (.mv (.t 12)), none⟩])
    (.seq
    (.block 0
     (.loop
      (.seq
      (.seq
      (.ops [.op ⟨(some 13), (.mv (.t 3)), none⟩,
        .op ⟨(some 14), (.nilCheck (.t 13)), none⟩,
        .op ⟨(some 15), (.fieldAddr 9 (.t 14)), none⟩,
        .op ⟨(some 16), (.load none (.t 15)), none⟩,
        .op ⟨(some 17), (.len (.t 16)), none⟩,
        .op ⟨(some 18), (.mv (.t 4)), none⟩,
        .op ⟨(some 19), (.len (.t 18)), none⟩,
        .op ⟨(some 20), (.bin .add (.t 17) (.t 19)), none⟩,
        .op ⟨(some 21), (.bin .add (.t 20) (.k (.raw (.int .i64 8)))), none⟩,
        .op ⟨(some 22), (.bin .rem (.t 21) (.k (.raw (.int .i64 64)))), none⟩,
        .op ⟨(some 23), (.bin .neq (.t 22) (.k (.raw (.int .i64 0)))), none⟩])
      (.cond (.t 23)
       (.skip)
       (.exit 0)))
      (.block 1
       (.ops [.op ⟨(some 24), (.mv (.t 4)), none⟩,
         .op ⟨(some 25), (.buildF 1 [(.int .u8 0)] [(0, 1, (.k (.raw (.int .u8 0))))]), none⟩,
         .op ⟨(some 26), (.append 1 1 (.t 24) (.t 25)), none⟩,
         .op ⟨(some 4), (.mv (.t 26)), none⟩])))))
    (.seq
    (.seq
    (.ops [.op ⟨(some 5), (.mv (.k (.raw (.int .i64 7)))), none⟩])
    (.block 2
     (.loop
      (.seq
      (.seq
      (.ops [.op ⟨(some 27), (.mv (.t 5)), none⟩,
        .op ⟨(some 28), (.bin .geq (.t 27) (.k (.raw (.int .i64 0)))), none⟩])
      (.cond (.t 28)
       (.skip)
       (.exit 2)))
      (.seq
      (.block 3
       (.ops [.op ⟨(some 31), (.mv (.t 4)), none⟩,
         .op ⟨(some 32), (.mv (.t 0)), none⟩,
         .op ⟨(some 33), (.nilCheck (.t 32)), none⟩,
         .op ⟨(some 34), (.fieldAddr 10 (.t 33)), none⟩,
         .op ⟨(some 35), (.load none (.t 34)), none⟩,
         .op ⟨(some 36), (.conv .u64 (.t 35)), none⟩,
         .op ⟨(some 37), (.bin .mul (.t 36) (.k (.raw (.int .u64 8)))), none⟩,
         .op ⟨(some 38), (.mv (.t 5)), none⟩,
         .op ⟨(some 39), (.bin .mul (.k (.raw (.int .i64 8))) (.t 38)), none⟩,
         .op ⟨(some 40), (.bin .shr (.t 37) (.t 39)), none⟩,
         .op ⟨(some 41), (.conv .u8 (.t 40)), none⟩,
         .op ⟨(some 42), (.buildF 1 [(.int .u8 0)] [(0, 1, (.t 41))]), none⟩,
         .op ⟨(some 43), (.append 1 1 (.t 31) (.t 42)), none⟩,
         .op ⟨(some 4), (.mv (.t 43)), none⟩]))
      (.ops [.op ⟨(some 29), (.mv (.t 5)), none⟩,
        .op ⟨(some 30), (.bin .sub (.t 29) (.k (.raw (.int .i64 1)))), none⟩,
        .op ⟨(some 5), (.mv (.t 30)), none⟩]))))))
    (.seq
    (.ops [.op ⟨(some 44), (.mv (.t 3)), none⟩,
      .op ⟨(some 45), (.mv (.t 4)), none⟩,
      .op ⟨(some 46), (.buildF 1 [(.slice none 0 0)] [(0, 1, (.t 45))]), none⟩,
      .op ⟨(some 47), (.call f___vigil_digest_Running__Add [(.t 44), (.t 46)]), none⟩])
    (.seq
    (.ops [.op ⟨(some 48), (.mv (.t 3)), none⟩,
      .op ⟨(some 49), (.nilCheck (.t 48)), none⟩,
      .op ⟨(some 50), (.fieldAddr 0 (.t 49)), none⟩,
      .op ⟨(some 51), (.call f___vigil_digest_state__out [(.t 50)]), none⟩,
      .op ⟨none, (.store 32 (.t 2) (.t 51)), none⟩])
    (.ret)))))))),
    [.cell 2 (some 32)], 52⟩
theorem c___vigil_digest_Running__Sum : compFn Tryz.prog f___vigil_digest_Running__Sum = some x___vigil_digest_Running__Sum := by kernel_rfl

/- vigil/vigilref01.Sum -/
def x_vigilref01_Sum : XFn := ⟨
    .seq
    (.ops [.op ⟨(some 2), (.box (.t 0)), none⟩,
      .op ⟨(some 4), (.alloc [(.int .u8 0), (.int .u8 0), (.int .u8 0), (.int .u8 0), (.int .u8 0), (.int .u8 0), (.int .u8 0), (.int .u8 0), (.int .u8 0), (.int .u8 0), (.int .u8 0), (.int .u8 0), (.int .u8 0), (.int .u8 0), (.int .u8 0), (.int .u8 0), (.int .u8 0), (.int .u8 0), (.int .u8 0), (.int .u8 0), (.int .u8 0), (.int .u8 0), (.int .u8 0), (.int .u8 0), (.int .u8 0), (.int .u8 0), (.int .u8 0), (.int .u8 0), (.int .u8 0), (.int .u8 0), (.int .u8 0), (.int .u8 0)]), none⟩])
    (.seq
    (.ops [.op ⟨(some 26), (.buildF 0 [] []), none⟩,
      .op ⟨(some 27), (.mv (.t 1)), none⟩,
      .op ⟨(some 28), (.append 1 1 (.t 26) (.t 27)), none⟩,
      .op ⟨(some 29), (.buildF 1 [(.int .u8 0)] [(0, 1, (.k (.raw (.int .u8 128))))]), none⟩,
      .op ⟨(some 30), (.append 1 1 (.t 28) (.t 29)), none⟩,
      .op ⟨(some 5), (.mv (.t 30)), none⟩])
    (.seq
    (.block 0
     (.loop
      (.seq
      (.seq
      (.ops [.op ⟨(some 31), (.mv (.t 5)), none⟩,
        .op ⟨(some 32), (.len (.t 31)), none⟩,
        .op ⟨(some 33), (.bin .rem (.t 32) (.k (.raw (.int .i64 64)))), none⟩,
        .op ⟨(some 34), (.bin .neq (.t 33) (.k (.raw (.int .i64 56)))), none⟩])
      (.cond (.t 34)
       (.skip)
       (.exit 0)))
      (.block 1
       (.ops [.op ⟨(some 35), (.mv (.t 5)), none⟩,
         .op ⟨(some 36), (.buildF 1 [(.int .u8 0)] [(0, 1, (.k (.raw (.int .u8 0))))]), none⟩,
         .op ⟨(some 37), (.append 1 1 (.t 35) (.t 36)), none⟩,
         .op ⟨(some 5), (.mv (.t 37)), none⟩])))))
    (.seq
    (.ops [.op ⟨(some 38), (.mv (.t 1)), none⟩,
      .op ⟨(some 39), (.len (.t 38)), none⟩,
      .op ⟨(some 40), (.conv .u64 (.t 39)), none⟩,
      .op ⟨(some 41), (.bin .mul (.k (.raw (.int .u64 8))) (.t 40)), none⟩,
      .op ⟨(some 6), (.mv (.t 41)), none⟩])
    (.seq
    (.seq
    (.ops [.op ⟨(some 7), (.mv (.k (.raw (.int .i64 0)))), none⟩])
    (.block 2
     (.loop
      (.seq
      (.seq
      (.ops [.op ⟨(some 42), (.mv (.t 7)), none⟩,
        .op ⟨(some 43), (.bin .lss (.t 42) (.k (.raw (.int .i64 8)))), none⟩])
      (.cond (.t 43)
       (.skip)
       (.exit 2)))
      (.seq
      (.block 3
       (.ops [.op ⟨(some 46), (.mv (.t 5)), none⟩,
         .op ⟨(some 47), (.mv (.t 6)), none⟩,
         .op ⟨(some 48), (.mv (.t 7)), none⟩,
         .op ⟨(some 49), (.bin .mul (.k (.raw (.int .i64 8))) (.t 48)), none⟩,
         .op ⟨(some 50), (.bin .sub (.k (.raw (.int .i64 56))) (.t 49)), none⟩,
         .op ⟨(some 51), (.bin .shl (.k (.raw (.int .u64 1))) (.t 50)), none⟩,
         .op ⟨(some 52), (.bin .quo (.t 47) (.t 51)), none⟩,
         .op ⟨(some 53), (.conv .u8 (.t 52)), none⟩,
         .op ⟨(some 54), (.buildF 1 [(.int .u8 0)] [(0, 1, (.t 53))]), none⟩,
         .op ⟨(some 55), (.append 1 1 (.t 46) (.t 54)), none⟩,
         .op ⟨(some 5), (.mv (.t 55)), none⟩]))
      (.ops [.op ⟨(some 44), (.mv (.t 7)), none⟩,
        .op ⟨(some 45), (.bin .add (.t 44) (.k (.raw (.int .i64 1)))), none⟩,
        .op ⟨(some 7), (.mv (.t 45)), none⟩]))))))
    (.seq
    (.ops [.op ⟨(some 56), (.fieldAddr 64 (.t 2)), none⟩,
      .op ⟨(some 57), (.load (some 8) (.t 56)), none⟩,
      .op ⟨(some 8), (.alloc [(.int .u32 0), (.int .u32 0), (.int .u32 0), (.int .u32 0), (.int .u32 0), (.int .u32 0), (.int .u32 0), (.int .u32 0)]), none⟩,
      .op ⟨none, (.store 8 (.t 8) (.t 57)), none⟩])
    (.seq
    (.seq
    (.ops [.op ⟨(some 9), (.mv (.k (.raw (.int .i64 0)))), none⟩])
    (.block 4
     (.loop
      (.seq
      (.seq
      (.ops [.op ⟨(some 58), (.mv (.t 9)), none⟩,
        .op ⟨(some 59), (.mv (.t 5)), none⟩,
        .op ⟨(some 60), (.len (.t 59)), none⟩,
        .op ⟨(some 61), (.bin .lss (.t 58) (.t 60)), none⟩])
      (.cond (.t 61)
       (.skip)
       (.exit 4)))
      (.seq
      (.block 5
       (.seq
       (.ops [.op ⟨(some 64), (.build [(.int .u32 0), (.int .u32 0), (.int .u32 0), (.int .u32 0), (.int .u32 0), (.int .u32 0), (.int .u32 0), (.int .u32 0), (.int .u32 0), (.int .u32 0), (.int .u32 0), (.int .u32 0), (.int .u32 0), (.int .u32 0), (.int .u32 0), (.int .u32 0), (.int .u32 0), (.int .u32 0), (.int .u32 0), (.int .u32 0), (.int .u32 0), (.int .u32 0), (.int .u32 0), (.int .u32 0), (.int .u32 0), (.int .u32 0), (.int .u32 0), (.int .u32 0), (.int .u32 0), (.int .u32 0), (.int .u32 0), (.int .u32 0), (.int .u32 0), (.int .u32 0), (.int .u32 0), (.int .u32 0), (.int .u32 0), (.int .u32 0), (.int .u32 0), (.int .u32 0), (.int .u32 0), (.int .u32 0), (.int .u32 0), (.int .u32 0), (.int .u32 0), (.int .u32 0), (.int .u32 0), (.int .u32 0), (.int .u32 0), (.int .u32 0), (.int .u32 0), (.int .u32 0), (.int .u32 0), (.int .u32 0), (.int .u32 0), (.int .u32 0), (.int .u32 0), (.int .u32 0), (.int .u32 0), (.int .u32 0), (.int .u32 0), (.int .u32 0), (.int .u32 0), (.int .u32 0)] []), none⟩,
         .op ⟨(some 10), (.alloc [(.int .u32 0), (.int .u32 0), (.int .u32 0), (.int .u32 0), (.int .u32 0), (.int .u32 0), (.int .u32 0), (.int .u32 0), (.int .u32 0), (.int .u32 0), (.int .u32 0), (.int .u32 0), (.int .u32 0), (.int .u32 0), (.int .u32 0), (.int .u32 0), (.int .u32 0), (.int .u32 0), (.int .u32 0), (.int .u32 0), (.int .u32 0), (.int .u32 0), (.int .u32 0), (.int .u32 0), (.int .u32 0), (.int .u32 0), (.int .u32 0), (.int .u32 0), (.int .u32 0), (.int .u32 0), (.int .u32 0), (.int .u32 0), (.int .u32 0), (.int .u32 0), (.int .u32 0), (.int .u32 0), (.int .u32 0), (.int .u32 0), (.int .u32 0), (.int .u32 0), (.int .u32 0), (.int .u32 0), (.int .u32 0), (.int .u32 0), (.int .u32 0), (.int .u32 0), (.int .u32 0), (.int .u32 0), (.int .u32 0), (.int .u32 0), (.int .u32 0), (.int .u32 0), (.int .u32 0), (.int .u32 0), (.int .u32 0), (.int .u32 0), (.int .u32 0), (.int .u32 0), (.int .u32 0), (.int .u32 0), (.int .u32 0), (.int .u32 0), (.int .u32 0), (.int .u32 0)]), none⟩,
         .op ⟨none, (.store 64 (.t 10) (.t 64)), none⟩])
       (.seq
       (.seq
       (.ops [.op ⟨(some 11), (.mv (.k (.raw (.int .i64 0)))), none⟩])
       (.block 6
        (.loop
         (.seq
         (.seq
         (.ops [.op ⟨(some 65), (.mv (.t 11)), none⟩,
           .op ⟨(some 66), (.bin .lss (.t 65) (.k (.raw (.int .i64 64)))), none⟩])
         (.cond (.t 66)
          (.skip)
          (.exit 6)))
         (.seq
         (.block 7
          (.seq
          (.seq
          (.ops [.op ⟨(some 69), (.mv (.t 11)), none⟩,
            .op ⟨(some 70), (.bin .lss (.t 69) (.k (.raw (.int .i64 16)))), none⟩])
          (.cond (.t 70)
           (.seq
           (.seq
           (.ops [.op ⟨(some 12), (.mv (.k (.raw (.int .i64 0)))), none⟩])
           (.block 8
            (.loop
             (.seq
             (.seq
             (.ops [.op ⟨(some 71), (.mv (.t 12)), none⟩,
               .op ⟨(some 72), (.bin .lss (.t 71) (.k (.raw (.int .i64 4)))), none⟩])
             (.cond (.t 72)
              (.skip)
              (.exit 8)))
             (.seq
             (.block 9
              (.draw [⟨(some 75), (.mv (.t 11)), none⟩,
                ⟨(some 76), (.mv (.t 11)), none⟩,
                ⟨(some 77), (.idxAddrArr 64 1 (.t 10) (.t 76)), none⟩,
                ⟨(some 78), (.load none (.t 77)), none⟩,
                ⟨(some 79), (.bin .mul (.k (.raw (.int .u32 256))) (.t 78)), none⟩,
                ⟨(some 80), (.mv (.t 5)), none⟩,
                ⟨(some 81), (.mv (.t 9)), none⟩,
                ⟨(some 82), (.mv (.t 11)), none⟩,
                ⟨(some 83), (.bin .mul (.k (.raw (.int .i64 4))) (.t 82)), none⟩,
                ⟨(some 84), (.bin .add (.t 81) (.t 83)), none⟩,
                ⟨(some 85), (.mv (.t 12)), none⟩,
                ⟨(some 86), (.bin .add (.t 84) (.t 85)), none⟩,
                ⟨(some 87), (.idxAddr 1 (.t 80) (.t 86)), none⟩,
                ⟨(some 88), (.load none (.t 87)), none⟩,
                ⟨(some 89), (.conv .u32 (.t 88)), none⟩,
                ⟨(some 90), (.bin .add (.t 79) (.t 89)), none⟩,
                ⟨(some 91), (.idxAddrArr 64 1 (.t 10) (.t 75)), none⟩,
                ⟨none, (.store 1 (.t 91) (.t 90)), none⟩]
                [[], [], [1], [1, 2], [2, 1, 3], [], [], [], [7], [7, 8, 6], [], [10, 6, 8, 7, 9], [9, 7, 8, 6, 10, 11, 5], [5, 11, 10, 6, 8, 7, 9, 12], [12, 9, 7, 8, 6, 10, 11, 5, 13], [13, 5, 11, 10, 6, 8, 7, 9, 12, 14, 3, 1, 2, 4], [15, 14, 13, 12, 11, 10, 9, 8, 7, 6, 5, 4, 3, 2, 1, 0], [0, 1, 2, 3, 4, 5, 6, 7, 8, 9, 10, 11, 12, 13, 14, 15, 16]]
                [.q 0, .q 1, .q 2, .q 3, .q 4, .q 5, .q 6, .q 7, .q 8, .q 9, .q 10, .q 11, .q 12, .q 13, .q 14, .q 15, .q 16, .eff 17]))
             (.ops [.op ⟨(some 73), (.mv (.t 12)), none⟩,
               .op ⟨(some 74), (.bin .add (.t 73) (.k (.raw (.int .i64 1)))), none⟩,
               .op ⟨(some 12), (.mv (.t 74)), none⟩]))))))
           (.exit 7))
           (.skip)))
          (.seq
          (.draw [⟨(some 92), (.mv (.t 11)), none⟩,
            ⟨(some 93), (.bin .sub (.t 92) (.k (.raw (.int .i64 15)))), none⟩,
            ⟨(some 94), (.idxAddrArr 64 1 (.t 10) (.t 93)), none⟩,
            ⟨(some 95), (.load none (.t 94)), none⟩,
            ⟨(some 96), (.call f_vigilref01_right [(.t 95), (.k (.raw (.int .i64 7)))]), none⟩,
            ⟨(some 97), (.mv (.t 11)), none⟩,
            ⟨(some 98), (.bin .sub (.t 97) (.k (.raw (.int .i64 15)))), none⟩,
            ⟨(some 99), (.idxAddrArr 64 1 (.t 10) (.t 98)), none⟩,
            ⟨(some 100), (.load none (.t 99)), none⟩,
            ⟨(some 101), (.call f_vigilref01_right [(.t 100), (.k (.raw (.int .i64 18)))]), none⟩,
            ⟨(some 102), (.bin .xor (.t 96) (.t 101)), none⟩,
            ⟨(some 103), (.mv (.t 11)), none⟩,
            ⟨(some 104), (.bin .sub (.t 103) (.k (.raw (.int .i64 15)))), none⟩,
            ⟨(some 105), (.idxAddrArr 64 1 (.t 10) (.t 104)), none⟩,
            ⟨(some 106), (.load none (.t 105)), none⟩,
            ⟨(some 107), (.bin .shr (.t 106) (.k (.raw (.int .u64 3)))), none⟩,
            ⟨(some 108), (.bin .xor (.t 102) (.t 107)), none⟩,
            ⟨(some 13), (.mv (.t 108)), none⟩]
            [[], [0], [0, 1], [1, 0, 2], [2, 0, 1, 3], [], [5], [5, 6], [6, 5, 7], [3, 1, 0, 2, 4, 7, 5, 6, 8], [8, 6, 5, 7, 9, 3, 1, 0, 2, 4], [], [11], [11, 12], [12, 11, 13], [13, 11, 12, 14], [14, 12, 11, 13, 15, 4, 2, 0, 1, 3, 9, 7, 5, 6, 8, 10], [10, 8, 6, 5, 7, 9, 3, 1, 0, 2, 4, 15, 13, 11, 12, 14, 16]]
            [.q 0, .q 1, .q 2, .q 3, .q 5, .q 6, .q 7, .q 8, .q 11, .q 12, .q 13, .q 14, .q 15, .eff 4, .eff 9, .q 10, .q 16, .q 17])
          (.seq
          (.draw [⟨(some 109), (.mv (.t 11)), none⟩,
            ⟨(some 110), (.bin .sub (.t 109) (.k (.raw (.int .i64 2)))), none⟩,
            ⟨(some 111), (.idxAddrArr 64 1 (.t 10) (.t 110)), none⟩,
            ⟨(some 112), (.load none (.t 111)), none⟩,
            ⟨(some 113), (.call f_vigilref01_right [(.t 112), (.k (.raw (.int .i64 17)))]), none⟩,
            ⟨(some 114), (.mv (.t 11)), none⟩,
            ⟨(some 115), (.bin .sub (.t 114) (.k (.raw (.int .i64 2)))), none⟩,
            ⟨(some 116), (.idxAddrArr 64 1 (.t 10) (.t 115)), none⟩,
            ⟨(some 117), (.load none (.t 116)), none⟩,
            ⟨(some 118), (.call f_vigilref01_right [(.t 117), (.k (.raw (.int .i64 19)))]), none⟩,
            ⟨(some 119), (.bin .xor (.t 113) (.t 118)), none⟩,
            ⟨(some 120), (.mv (.t 11)), none⟩,
            ⟨(some 121), (.bin .sub (.t 120) (.k (.raw (.int .i64 2)))), none⟩,
            ⟨(some 122), (.idxAddrArr 64 1 (.t 10) (.t 121)), none⟩,
            ⟨(some 123), (.load none (.t 122)), none⟩,
            ⟨(some 124), (.bin .shr (.t 123) (.k (.raw (.int .u64 10)))), none⟩,
            ⟨(some 125), (.bin .xor (.t 119) (.t 124)), none⟩,
            ⟨(some 14), (.mv (.t 125)), none⟩]
            [[], [0], [0, 1], [1, 0, 2], [2, 0, 1, 3], [], [5], [5, 6], [6, 5, 7], [3, 1, 0, 2, 4, 7, 5, 6, 8], [8, 6, 5, 7, 9, 3, 1, 0, 2, 4], [], [11], [11, 12], [12, 11, 13], [13, 11, 12, 14], [14, 12, 11, 13, 15, 4, 2, 0, 1, 3, 9, 7, 5, 6, 8, 10], [10, 8, 6, 5, 7, 9, 3, 1, 0, 2, 4, 15, 13, 11, 12, 14, 16]]
            [.q 0, .q 1, .q 2, .q 3, .q 5, .q 6, .q 7, .q 8, .q 11, .q 12, .q 13, .q 14, .q 15, .eff 4, .eff 9, .q 10, .q 16, .q 17])
          (.draw [⟨(some 126), (.mv (.t 11)), none⟩,
            ⟨(some 127), (.mv (.t 11)), none⟩,
            ⟨(some 128), (.bin .sub (.t 127) (.k (.raw (.int .i64 16)))), none⟩,
            ⟨(some 129), (.idxAddrArr 64 1 (.t 10) (.t 128)), none⟩,
            ⟨(some 130), (.load none (.t 129)), none⟩,
            ⟨(some 131), (.mv (.t 13)), none⟩,
            ⟨(some 132), (.bin .add (.t 130) (.t 131)), none⟩,
            ⟨(some 133), (.mv (.t 11)), none⟩,
            ⟨(some 134), (.bin .sub (.t 133) (.k (.raw (.int .i64 7)))), none⟩,
            ⟨(some 135), (.idxAddrArr 64 1 (.t 10) (.t 134)), none⟩,
            ⟨(some 136), (.load none (.t 135)), none⟩,
            ⟨(some 137), (.bin .add (.t 132) (.t 136)), none⟩,
            ⟨(some 138), (.mv (.t 14)), none⟩,
            ⟨(some 139), (.bin .add (.t 137) (.t 138)), none⟩,
            ⟨(some 140), (.idxAddrArr 64 1 (.t 10) (.t 126)), none⟩,
            ⟨none, (.store 1 (.t 140) (.t 139)), none⟩]
            [[], [], [1], [1, 2], [2, 1, 3], [], [5, 3, 1, 2, 4], [], [7], [7, 8], [8, 7, 9], [9, 7, 8, 10, 4, 2, 1, 3, 5, 6], [], [12, 6, 5, 3, 1, 2, 4, 10, 8, 7, 9, 11], [13, 12, 11, 10, 9, 8, 7, 6, 5, 4, 3, 2, 1, 0], [0, 1, 2, 3, 4, 5, 6, 7, 8, 9, 10, 11, 12, 13, 14]]
            [.q 0, .q 1, .q 2, .q 3, .q 4, .q 5, .q 6, .q 7, .q 8, .q 9, .q 10, .q 11, .q 12, .q 13, .q 14, .eff 15])))))
         (.ops [.op ⟨(some 67), (.mv (.t 11)), none⟩,
           .op ⟨(some 68), (.bin .add (.t 67) (.k (.raw (.int .i64 1)))), none⟩,
           .op ⟨(some 11), (.mv (.t 68)), none⟩]))))))
       (.seq
       (.ops [.op ⟨(some 141), (.load (some 8) (.t 8)), none⟩,
         .op ⟨(some 15), (.alloc [(.int .u32 0), (.int .u32 0), (.int .u32 0), (.int .u32 0), (.int .u32 0), (.int .u32 0), (.int .u32 0), (.int .u32 0)]), none⟩,
         .op ⟨none, (.store 8 (.t 15) (.t 141)), none⟩])
       (.seq
       (.seq
       (.ops [.op ⟨(some 16), (.mv (.k (.raw (.int .i64 0)))), none⟩])
       (.block 10
        (.loop
         (.seq
         (.seq
         (.ops [.op ⟨(some 142), (.mv (.t 16)), none⟩,
           .op ⟨(some 143), (.bin .lss (.t 142) (.k (.raw (.int .i64 64)))), none⟩])
         (.cond (.t 143)
          (.skip)
          (.exit 10)))
         (.seq
         (.block 11
          (.seq
          (.draw [⟨(some 146), (.idxAddrArr 8 1 (.t 15) (.k (.raw (.int .i64 4)))), none⟩,
            ⟨(some 147), (.load none (.t 146)), none⟩,
            ⟨(some 148), (.call f_vigilref01_right [(.t 147), (.k (.raw (.int .i64 6)))]), none⟩,
            ⟨(some 149), (.idxAddrArr 8 1 (.t 15) (.k (.raw (.int .i64 4)))), none⟩,
            ⟨(some 150), (.load none (.t 149)), none⟩,
            ⟨(some 151), (.call f_vigilref01_right [(.t 150), (.k (.raw (.int .i64 11)))]), none⟩,
            ⟨(some 152), (.bin .xor (.t 148) (.t 151)), none⟩,
            ⟨(some 153), (.idxAddrArr 8 1 (.t 15) (.k (.raw (.int .i64 4)))), none⟩,
            ⟨(some 154), (.load none (.t 153)), none⟩,
            ⟨(some 155), (.call f_vigilref01_right [(.t 154), (.k (.raw (.int .i64 25)))]), none⟩,
            ⟨(some 156), (.bin .xor (.t 152) (.t 155)), none⟩,
            ⟨(some 17), (.mv (.t 156)), none⟩]
            [[], [0], [0, 1], [], [3], [1, 0, 2, 3, 4], [4, 3, 5, 1, 0, 2], [], [7], [4, 3, 2, 0, 1, 5, 7, 8], [8, 7, 9, 2, 0, 1, 5, 3, 4, 6], [6, 4, 3, 5, 1, 0, 2, 9, 7, 8, 10]]
            [.q 0, .q 1, .q 3, .q 4, .q 7, .q 8, .eff 2, .eff 5, .q 6, .eff 9, .q 10, .q 11])
          (.seq
          (.ops [.op ⟨(some 157), (.idxAddrArr 8 1 (.t 15) (.k (.raw (.int .i64 4)))), none⟩,
            .op ⟨(some 158), (.load none (.t 157)), none⟩,
            .op ⟨(some 159), (.idxAddrArr 8 1 (.t 15) (.k (.raw (.int .i64 5)))), none⟩,
            .op ⟨(some 160), (.load none (.t 159)), none⟩,
            .op ⟨(some 161), (.bin .and (.t 158) (.t 160)), none⟩,
            .op ⟨(some 162), (.idxAddrArr 8 1 (.t 15) (.k (.raw (.int .i64 4)))), none⟩,
            .op ⟨(some 163), (.load none (.t 162)), none⟩,
            .op ⟨(some 164), (.bin .xor (.t 163) (.k (.raw (.int .u32 4294967295)))), none⟩,
            .op ⟨(some 165), (.idxAddrArr 8 1 (.t 15) (.k (.raw (.int .i64 6)))), none⟩,
            .op ⟨(some 166), (.load none (.t 165)), none⟩,
            .op ⟨(some 167), (.bin .and (.t 164) (.t 166)), none⟩,
            .op ⟨(some 168), (.bin .or (.t 161) (.t 167)), none⟩,
            .op ⟨(some 18), (.mv (.t 168)), none⟩])
          (.seq
          (.draw [⟨(some 169), (.idxAddrArr 8 1 (.t 15) (.k (.raw (.int .i64 7)))), none⟩,
            ⟨(some 170), (.load none (.t 169)), none⟩,
            ⟨(some 171), (.mv (.t 17)), none⟩,
            ⟨(some 172), (.bin .add (.t 170) (.t 171)), none⟩,
            ⟨(some 173), (.mv (.t 18)), none⟩,
            ⟨(some 174), (.bin .add (.t 172) (.t 173)), none⟩,
            ⟨(some 175), (.mv (.t 16)), none⟩,
            ⟨(some 176), (.fieldAddr 0 (.t 2)), none⟩,
            ⟨(some 177), (.idxAddrArr 64 1 (.t 176) (.t 175)), none⟩,
            ⟨(some 178), (.load none (.t 177)), none⟩,
            ⟨(some 179), (.bin .add (.t 174) (.t 178)), none⟩,
            ⟨(some 180), (.mv (.t 16)), none⟩,
            ⟨(some 181), (.idxAddrArr 64 1 (.t 10) (.t 180)), none⟩,
            ⟨(some 182), (.load none (.t 181)), none⟩,
            ⟨(some 183), (.bin .add (.t 179) (.t 182)), none⟩,
            ⟨(some 19), (.mv (.t 183)), none⟩]
            [[], [0], [], [2, 0, 1], [], [4, 1, 0, 2, 3], [], [], [6, 7], [7, 6, 8], [8, 6, 7, 9, 3, 2, 0, 1, 4, 5], [], [11], [11, 12], [12, 11, 13, 5, 4, 1, 0, 2, 3, 9, 7, 6, 8, 10], [10, 8, 6, 7, 9, 3, 2, 0, 1, 4, 5, 13, 11, 12, 14]]
            [.q 0, .q 1, .q 2, .q 3, .q 4, .q 5, .q 6, .q 7, .q 8, .q 9, .q 10, .q 11, .q 12, .q 13, .q 14, .q 15])
          (.seq
          (.draw [⟨(some 184), (.idxAddrArr 8 1 (.t 15) (.k (.raw (.int .i64 0)))), none⟩,
            ⟨(some 185), (.load none (.t 184)), none⟩,
            ⟨(some 186), (.call f_vigilref01_right [(.t 185), (.k (.raw (.int .i64 2)))]), none⟩,
            ⟨(some 187), (.idxAddrArr 8 1 (.t 15) (.k (.raw (.int .i64 0)))), none⟩,
            ⟨(some 188), (.load none (.t 187)), none⟩,
            ⟨(some 189), (.call f_vigilref01_right [(.t 188), (.k (.raw (.int .i64 13)))]), none⟩,
            ⟨(some 190), (.bin .xor (.t 186) (.t 189)), none⟩,
            ⟨(some 191), (.idxAddrArr 8 1 (.t 15) (.k (.raw (.int .i64 0)))), none⟩,
            ⟨(some 192), (.load none (.t 191)), none⟩,
            ⟨(some 193), (.call f_vigilref01_right [(.t 192), (.k (.raw (.int .i64 22)))]), none⟩,
            ⟨(some 194), (.bin .xor (.t 190) (.t 193)), none⟩,
            ⟨(some 20), (.mv (.t 194)), none⟩]
            [[], [0], [0, 1], [], [3], [1, 0, 2, 3, 4], [4, 3, 5, 1, 0, 2], [], [7], [4, 3, 2, 0, 1, 5, 7, 8], [8, 7, 9, 2, 0, 1, 5, 3, 4, 6], [6, 4, 3, 5, 1, 0, 2, 9, 7, 8, 10]]
            [.q 0, .q 1, .q 3, .q 4, .q 7, .q 8, .eff 2, .eff 5, .q 6, .eff 9, .q 10, .q 11])
          (.seq
          (.ops [.op ⟨(some 195), (.idxAddrArr 8 1 (.t 15) (.k (.raw (.int .i64 0)))), none⟩,
            .op ⟨(some 196), (.load none (.t 195)), none⟩,
            .op ⟨(some 197), (.idxAddrArr 8 1 (.t 15) (.k (.raw (.int .i64 1)))), none⟩,
            .op ⟨(some 198), (.load none (.t 197)), none⟩,
            .op ⟨(some 199), (.bin .and (.t 196) (.t 198)), none⟩,
            .op ⟨(some 200), (.idxAddrArr 8 1 (.t 15) (.k (.raw (.int .i64 0)))), none⟩,
            .op ⟨(some 201), (.load none (.t 200)), none⟩,
            .op ⟨(some 202), (.idxAddrArr 8 1 (.t 15) (.k (.raw (.int .i64 2)))), none⟩,
            .op ⟨(some 203), (.load none (.t 202)), none⟩,
            .op ⟨(some 204), (.bin .and (.t 201) (.t 203)), none⟩,
            .op ⟨(some 205), (.bin .or (.t 199) (.t 204)), none⟩,
            .op ⟨(some 206), (.idxAddrArr 8 1 (.t 15) (.k (.raw (.int .i64 1)))), none⟩,
            .op ⟨(some 207), (.load none (.t 206)), none⟩,
            .op ⟨(some 208), (.idxAddrArr 8 1 (.t 15) (.k (.raw (.int .i64 2)))), none⟩,
            .op ⟨(some 209), (.load none (.t 208)), none⟩,
            .op ⟨(some 210), (.bin .and (.t 207) (.t 209)), none⟩,
            .op ⟨(some 211), (.bin .or (.t 205) (.t 210)), none⟩,
            .op ⟨(some 21), (.mv (.t 211)), none⟩])
          (.seq
          (.ops [.op ⟨(some 212), (.mv (.t 20)), none⟩,
            .op ⟨(some 213), (.mv (.t 21)), none⟩,
            .op ⟨(some 214), (.bin .add (.t 212) (.t 213)), none⟩,
            .op ⟨(some 22), (.mv (.t 214)), none⟩])
          (.ops [.op ⟨(some 215), (.mv (.t 19)), none⟩,
            .op ⟨(some 216), (.mv (.t 22)), none⟩,
            .op ⟨(some 217), (.bin .add (.t 215) (.t 216)), none⟩,
            .op ⟨(some 218), (.idxAddrArr 8 1 (.t 15) (.k (.raw (.int .i64 0)))), none⟩,
            .op ⟨(some 219), (.load none (.t 218)), none⟩,
            .op ⟨(some 220), (.idxAddrArr 8 1 (.t 15) (.k (.raw (.int .i64 1)))), none⟩,
            .op ⟨(some 221), (.load none (.t 220)), none⟩,
            .op ⟨(some 222), (.idxAddrArr 8 1 (.t 15) (.k (.raw (.int .i64 2)))), none⟩,
            .op ⟨(some 223), (.load none (.t 222)), none⟩,
            .op ⟨(some 224), (.idxAddrArr 8 1 (.t 15) (.k (.raw (.int .i64 3)))), none⟩,
            .op ⟨(some 225), (.load none (.t 224)), none⟩,
            .op ⟨(some 226), (.mv (.t 19)), none⟩,
            .op ⟨(some 227), (.bin .add (.t 225) (.t 226)), none⟩,
            .op ⟨(some 228), (.idxAddrArr 8 1 (.t 15) (.k (.raw (.int .i64 4)))), none⟩,
            .op ⟨(some 229), (.load none (.t 228)), none⟩,
            .op ⟨(some 230), (.idxAddrArr 8 1 (.t 15) (.k (.raw (.int .i64 5)))), none⟩,
            .op ⟨(some 231), (.load none (.t 230)), none⟩,
            .op ⟨(some 232), (.idxAddrArr 8 1 (.t 15) (.k (.raw (.int .i64 6)))), none⟩,
            .op ⟨(some 233), (.load none (.t 232)), none⟩,
            .op ⟨(some 234), (.build [(.int .u32 0), (.int .u32 0), (.int .u32 0), (.int .u32 0), (.int .u32 0), (.int .u32 0), (.int .u32 0), (.int .u32 0)] [(0, 1, (.t 217)), (1, 1, (.t 219)), (2, 1, (.t 221)), (3, 1, (.t 223)), (4, 1, (.t 227)), (5, 1, (.t 229)), (6, 1, (.t 231)), (7, 1, (.t 233))]), none⟩,
            .op ⟨none, (.store 8 (.t 15) (.t 234)), none⟩]))))))))
         (.ops [.op ⟨(some 144), (.mv (.t 16)), none⟩,
           .op ⟨(some 145), (.bin .add (.t 144) (.k (.raw (.int .i64 1)))), none⟩,
           .op ⟨(some 16), (.mv (.t 145)), none⟩]))))))
       (.seq
       (.ops [.op ⟨(some 23), (.mv (.k (.raw (.int .i64 0)))), none⟩])
       (.block 12
        (.loop
         (.seq
         (.seq
         (.ops [.op ⟨(some 235), (.mv (.t 23)), none⟩,
           .op ⟨(some 236), (.bin .lss (.t 235) (.k (.raw (.int .i64 8)))), none⟩])
         (.cond (.t 236)
          (.skip)
          (.exit 12)))
         (.seq
         (.block 13
          (.draw [⟨(some 239), (.mv (.t 23)), none⟩,
            ⟨(some 240), (.mv (.t 23)), none⟩,
            ⟨(some 241), (.idxAddrArr 8 1 (.t 8) (.t 240)), none⟩,
            ⟨(some 242), (.load none (.t 241)), none⟩,
            ⟨(some 243), (.mv (.t 23)), none⟩,
            ⟨(some 244), (.idxAddrArr 8 1 (.t 15) (.t 243)), none⟩,
            ⟨(some 245), (.load none (.t 244)), none⟩,
            ⟨(some 246), (.bin .add (.t 242) (.t 245)), none⟩,
            ⟨(some 247), (.idxAddrArr 8 1 (.t 8) (.t 239)), none⟩,
            ⟨none, (.store 1 (.t 247) (.t 246)), none⟩]
            [[], [], [1], [1, 2], [], [4], [4, 5], [5, 4, 6, 2, 1, 3], [7, 6, 5, 4, 3, 2, 1, 0], [0, 1, 2, 3, 4, 5, 6, 7, 8]]
            [.q 0, .q 1, .q 2, .q 3, .q 4, .q 5, .q 6, .q 7, .q 8, .eff 9]))
         (.ops [.op ⟨(some 237), (.mv (.t 23)), none⟩,
           .op ⟨(some 238), (.bin .add (.t 237) (.k (.raw (.int .i64 1)))), none⟩,
           .op ⟨(some 23), (.mv (.t 238)), none⟩])))))))))))
      (.ops [.op ⟨(some 62), (.mv (.t 9)), none⟩,
        .op ⟨(some 63), (.bin .add (.t 62) (.k (.raw (.int .i64 64)))), none⟩,
        .op ⟨(some 9), (.mv (.t 63)), none⟩]))))))
    (.seq
    (.ops [.op ⟨(some 248), (.build [(.int .u8 0), (.int .u8 0), (.int .u8 0), (.int .u8 0), (.int .u8 0), (.int .u8 0), (.int .u8 0), (.int .u8 0), (.int .u8 0), (.int .u8 0), (.int .u8 0), (.int .u8 0), (.int .u8 0), (.int .u8 0), (.int .u8 0), (.int .u8 0), (.int .u8 0), (.int .u8 0), (.int .u8 0), (.int .u8 0), (.int .u8 0), (.int .u8 0), (.int .u8 0), (.int .u8 0), (.int .u8 0), (.int .u8 0), (.int .u8 0), (.int .u8 0), (.int .u8 0), (.int .u8 0), (.int .u8 0), (.int .u8 0)] []), none⟩,
      .op ⟨(some 24), (.alloc [(.int .u8 0), (.int .u8 0), (.int .u8 0), (.int .u8 0), (.int .u8 0), (.int .u8 0), (.int .u8 0), (.int .u8 0), (.int .u8 0), (.int .u8 0), (.int .u8 0), (.int .u8 0), (.int .u8 0), (.int .u8 0), (.int .u8 0), (.int .u8 0), (.int .u8 0), (.int .u8 0), (.int .u8 0), (.int .u8 0), (.int .u8 0), (.int .u8 0), (.int .u8 0), (.int .u8 0), (.int .u8 0), (.int .u8 0), (.int .u8 0), (.int .u8 0), (.int .u8 0), (.int .u8 0), (.int .u8 0), (.int .u8 0)]), none⟩,
      .op ⟨none, (.store 32 (.t 24) (.t 248)), none⟩])
    (.seq
    (.seq
    (.ops [.op ⟨(some 25), (.mv (.k (.raw (.int .i64 0)))), none⟩])
    (.block 14
     (.loop
      (.seq
      (.seq
      (.ops [.op ⟨(some 249), (.mv (.t 25)), none⟩,
        .op ⟨(some 250), (.bin .lss (.t 249) (.k (.raw (.int .i64 32)))), none⟩])
      (.cond (.t 250)
       (.skip)
       (.exit 14)))
      (.seq
      (.block 15
       (.ops [.op ⟨(some 253), (.mv (.t 25)), none⟩,
         .op ⟨(some 254), (.mv (.t 25)), none⟩,
         .op ⟨(some 255), (.bin .quo (.t 254) (.k (.raw (.int .i64 4)))), none⟩,
         .op ⟨(some 256), (.idxAddrArr 8 1 (.t 8) (.t 255)), none⟩,
         .op ⟨(some 257), (.load none (.t 256)), none⟩,
         .op ⟨(some 258), (.mv (.t 25)), none⟩,
         .op ⟨(some 259), (.bin .rem (.t 258) (.k (.raw (.int .i64 4)))), none⟩,
         .op ⟨(some 260), (.bin .mul (.k (.raw (.int .i64 8))) (.t 259)), none⟩,
         .op ⟨(some 261), (.bin .sub (.k (.raw (.int .i64 24))) (.t 260)), none⟩,
         .op ⟨(some 262), (.bin .shr (.t 257) (.t 261)), none⟩,
         .op ⟨(some 263), (.conv .u8 (.t 262)), none⟩,
         .op ⟨(some 264), (.idxAddrArr 32 1 (.t 24) (.t 253)), none⟩,
         .op ⟨none, (.store 1 (.t 264) (.t 263)), none⟩]))
      (.ops [.op ⟨(some 251), (.mv (.t 25)), none⟩,
        .op ⟨(some 252), (.bin .add (.t 251) (.k (.raw (.int .i64 1)))), none⟩,
        .op ⟨(some 25), (.mv (.t 252)), none⟩]))))))
    (.seq
    (.ops [.op ⟨(some 265), (.load (some 32) (.t 24)), none⟩,
      .op ⟨none, (.store 32 (.t 4) (.t 265)), none⟩])
    (.ret)))))))))),
    [.cell 4 (some 32)], 266⟩
theorem c_vigilref01_Sum : compFn Tryz.prog f_vigilref01_Sum = some x_vigilref01_Sum := by kernel_rfl

/- slices.Clone[[]int,int] -/
def x_slices_Clone___int_int_ : XFn := ⟨
    .seq
    (.ops [.op ⟨(some 2), (.mv (.k (.raw (.slice none 0 0)))), none⟩])
    (.seq
    (.seq
    (.ops [.op ⟨(some 3), (.mv (.t 0)), none⟩,
      .op ⟨(some 4), (.isNil false (.t 3)), none⟩])
    (.cond (.t 4)
     (.seq
     (.ops [.op ⟨(some 2), (.mv (.k (.raw (.slice none 0 0)))), none⟩])
     (.ret))
     (.skip)))
    (.seq
    (.ops [.op ⟨(some 5), (.buildF 0 [] []), none⟩,
      .op ⟨(some 6), (.mv (.t 0)), none⟩,
      .op ⟨(some 7), (.append 1 8 (.t 5) (.t 6)), none⟩,
      .op ⟨(some 2), (.mv (.t 7)), none⟩])
    (.ret))),
    [.tmp 2], 8⟩
theorem c_slices_Clone___int_int_ : compFn Tryz.prog f_slices_Clone___int_int_ = some x_slices_Clone___int_int_ := by kernel_rfl

/- slices.pdqsortOrdered[int] -/
def x_slices_pdqsortOrdered_int_ : XFn := ⟨
    .seq
    (.ops [.op ⟨(some 8), (.mv (.k (.raw (.bool true)))), none⟩])
    (.seq
    (.ops [.op ⟨(some 9), (.mv (.k (.raw (.bool true)))), none⟩])
    (.block 0
     (.loop
      (.block 1
       (.seq
       (.ops [.op ⟨(some 19), (.mv (.t 2)), none⟩,
         .op ⟨(some 20), (.mv (.t 1)), none⟩,
         .op ⟨(some 21), (.bin .sub (.t 19) (.t 20)), none⟩,
         .op ⟨(some 10), (.mv (.t 21)), none⟩])
       (.seq
       (.seq
       (.ops [.op ⟨(some 22), (.mv (.t 10)), none⟩,
         .op ⟨(some 23), (.bin .leq (.t 22) (.k (.raw (.int .i64 12)))), none⟩])
       (.cond (.t 23)
        (.seq
        (.ops [.op ⟨(some 24), (.mv (.t 0)), none⟩,
          .op ⟨(some 25), (.mv (.t 1)), none⟩,
          .op ⟨(some 26), (.mv (.t 2)), none⟩,
          .op ⟨(some 27), (.call f_slices_insertionSortOrdered_int_ [(.t 24), (.t 25), (.t 26)]), none⟩])
        (.ret))
        (.skip)))
       (.seq
       (.seq
       (.ops [.op ⟨(some 28), (.mv (.t 3)), none⟩,
         .op ⟨(some 29), (.bin .eql (.t 28) (.k (.raw (.int .i64 0)))), none⟩])
       (.cond (.t 29)
        (.seq
        (.ops [.op ⟨(some 30), (.mv (.t 0)), none⟩,
          .op ⟨(some 31), (.mv (.t 1)), none⟩,
          .op ⟨(some 32), (.mv (.t 2)), none⟩,
          .op ⟨(some 33), (.call f_slices_heapSortOrdered_int_ [(.t 30), (.t 31), (.t 32)]), none⟩])
        (.ret))
        (.skip)))
       (.seq
       (.seq
       (.ops [.op ⟨(some 34), (.mv (.t 8)), none⟩,
         .op ⟨(some 35), (.un .not (.t 34)), none⟩])
       (.cond (.t 35)
        (.seq
        (.ops [.op ⟨(some 36), (.mv (.t 0)), none⟩,
          .op ⟨(some 37), (.mv (.t 1)), none⟩,
          .op ⟨(some 38), (.mv (.t 2)), none⟩,
          .op ⟨(some 39), (.call f_slices_breakPatternsOrdered_int_ [(.t 36), (.t 37), (.t 38)]), none⟩])
        (.ops [.op ⟨(some 40), (.mv (.t 3)), none⟩,
          .op ⟨(some 41), (.bin .sub (.t 40) (.k (.raw (.int .i64 1)))), none⟩,
          .op ⟨(some 3), (.mv (.t 41)), none⟩]))
        (.skip)))
       (.seq
       (.ops [.op ⟨(some 43), (.mv (.t 0)), none⟩,
         .op ⟨(some 44), (.mv (.t 1)), none⟩,
         .op ⟨(some 45), (.mv (.t 2)), none⟩,
         .op ⟨(some 46), (.call f_slices_choosePivotOrdered_int_ [(.t 43), (.t 44), (.t 45)]), none⟩,
         .op ⟨(some 42), (.mv (.t 46)), none⟩,
         .op ⟨(some 47), (.extract (.t 42) 0), none⟩,
         .op ⟨(some 48), (.extract (.t 42) 1), none⟩,
         .op ⟨(some 11), (.mv (.t 47)), none⟩,
         .op ⟨(some 12), (.mv (.t 48)), none⟩])
       (.seq
       (.seq
       (.ops [.op ⟨(some 49), (.mv (.t 12)), none⟩,
         .op ⟨(some 50), (.bin .eql (.t 49) (.k (.raw (.int .i64 2)))), none⟩])
       (.cond (.t 50)
        (.seq
        (.ops [.op ⟨(some 51), (.mv (.t 0)), none⟩,
          .op ⟨(some 52), (.mv (.t 1)), none⟩,
          .op ⟨(some 53), (.mv (.t 2)), none⟩,
          .op ⟨(some 54), (.call f_slices_reverseRangeOrdered_int_ [(.t 51), (.t 52), (.t 53)]), none⟩])
        (.seq
        (.ops [.op ⟨(some 55), (.mv (.t 2)), none⟩,
          .op ⟨(some 56), (.bin .sub (.t 55) (.k (.raw (.int .i64 1)))), none⟩,
          .op ⟨(some 57), (.mv (.t 11)), none⟩,
          .op ⟨(some 58), (.mv (.t 1)), none⟩,
          .op ⟨(some 59), (.bin .sub (.t 57) (.t 58)), none⟩,
          .op ⟨(some 60), (.bin .sub (.t 56) (.t 59)), none⟩,
          .op ⟨(some 11), (.mv (.t 60)), none⟩])
        (.ops [.op ⟨(some 12), (.mv (.k (.raw (.int .i64 1)))), none⟩])))
        (.skip)))
       (.seq
       (.seq
       (.ops [.op ⟨(some 61), (.mv (.t 8)), none⟩,
         .op ⟨(some 62), (.mv (.t 61)), none⟩,
         .split 62,
         .op ⟨(some 63), (.mv (.t 9)), (some (62, true))⟩,
         .op ⟨(some 64), (.pick (.t 62) (.t 63) (.k (.raw (.bool false)))), none⟩,
         .op ⟨(some 65), (.mv (.t 64)), none⟩,
         .split 65,
         .op ⟨(some 66), (.mv (.t 12)), (some (65, true))⟩,
         .op ⟨(some 67), (.bin .eql (.t 66) (.k (.raw (.int .i64 1)))), (some (65, true))⟩,
         .op ⟨(some 68), (.pick (.t 65) (.t 67) (.k (.raw (.bool false)))), none⟩])
       (.cond (.t 68)
        (.seq
        (.ops [.op ⟨(some 69), (.mv (.t 0)), none⟩,
          .op ⟨(some 70), (.mv (.t 1)), none⟩,
          .op ⟨(some 71), (.mv (.t 2)), none⟩,
          .op ⟨(some 72), (.call f_slices_partialInsertionSortOrdered_int_ [(.t 69), (.t 70), (.t 71)]), none⟩])
        (.cond (.t 72)
         (.ret)
         (.skip)))
        (.skip)))
       (.seq
       (.seq
       (.draw [⟨(some 73), (.mv (.t 1)), none⟩,
         ⟨(some 74), (.bin .gtr (.t 73) (.k (.raw (.int .i64 0)))), none⟩,
         ⟨(some 75), (.mv (.t 74)), none⟩,
         ⟨(some 76), (.mv (.t 0)), (some (75, true))⟩,
         ⟨(some 77), (.mv (.t 1)), (some (75, true))⟩,
         ⟨(some 78), (.bin .sub (.t 77) (.k (.raw (.int .i64 1)))), (some (75, true))⟩,
         ⟨(some 79), (.idxAddr 1 (.t 76) (.t 78)), (some (75, true))⟩,
         ⟨(some 80), (.load none (.t 79)), (some (75, true))⟩,
         ⟨(some 81), (.mv (.t 0)), (some (75, true))⟩,
         ⟨(some 82), (.mv (.t 11)), (some (75, true))⟩,
         ⟨(some 83), (.idxAddr 1 (.t 81) (.t 82)), (some (75, true))⟩,
         ⟨(some 84), (.load none (.t 83)), (some (75, true))⟩,
         ⟨(some 85), (.call f_cmp_Less_int_ [(.t 80), (.t 84)]), (some (75, true))⟩,
         ⟨(some 86), (.un .not (.t 85)), (some (75, true))⟩,
         ⟨(some 87), (.pick (.t 75) (.t 86) (.k (.raw (.bool false)))), none⟩]
         [[], [0], [0, 1], [1, 0, 2], [1, 0, 2], [2, 0, 1, 4], [4, 5, 2, 0, 1, 3], [3, 1, 0, 2, 5, 4, 6], [1, 0, 2], [1, 0, 2], [9, 2, 0, 1, 8], [8, 1, 0, 2, 9, 10], [10, 9, 8, 11, 6, 4, 5, 2, 0, 1, 3, 7], [7, 3, 1, 0, 2, 5, 4, 6, 11, 8, 9, 10, 12], [12, 10, 9, 8, 11, 6, 4, 5, 3, 7, 13, 1, 0, 2]]
         [.q 0, .q 1, .q 2, .split 75, .q 3, .q 4, .q 5, .q 6, .q 7, .q 8, .q 9, .q 10, .q 11, .eff 12, .q 13, .q 14])
       (.cond (.t 87)
        (.seq
        (.ops [.op ⟨(some 88), (.mv (.t 0)), none⟩,
          .op ⟨(some 89), (.mv (.t 1)), none⟩,
          .op ⟨(some 90), (.mv (.t 2)), none⟩,
          .op ⟨(some 91), (.mv (.t 11)), none⟩,
          .op ⟨(some 92), (.call f_slices_partitionEqualOrdered_int_ [(.t 88), (.t 89), (.t 90), (.t 91)]), none⟩,
          .op ⟨(some 13), (.mv (.t 92)), none⟩])
        (.seq
        (.ops [.op ⟨(some 93), (.mv (.t 13)), none⟩,
          .op ⟨(some 1), (.mv (.t 93)), none⟩])
        (.exit 1)))
        (.skip)))
       (.seq
       (.ops [.op ⟨(some 95), (.mv (.t 0)), none⟩,
         .op ⟨(some 96), (.mv (.t 1)), none⟩,
         .op ⟨(some 97), (.mv (.t 2)), none⟩,
         .op ⟨(some 98), (.mv (.t 11)), none⟩,
         .op ⟨(some 99), (.call f_slices_partitionOrdered_int_ [(.t 95), (.t 96), (.t 97), (.t 98)]), none⟩,
         .op ⟨(some 94), (.mv (.t 99)), none⟩,
         .op ⟨(some 100), (.extract (.t 94) 0), none⟩,
         .op ⟨(some 101), (.extract (.t 94) 1), none⟩,
         .op ⟨(some 14), (.mv (.t 100)), none⟩,
         .op ⟨(some 15), (.mv (.t 101)), none⟩])
       (.seq
       (.ops [.op ⟨(some 102), (.mv (.t 15)), none⟩,
         .op ⟨(some 9), (.mv (.t 102)), none⟩])
       (.seq
       (.ops [.op ⟨(some 103), (.mv (.t 14)), none⟩,
         .op ⟨(some 104), (.mv (.t 1)), none⟩,
         .op ⟨(some 105), (.bin .sub (.t 103) (.t 104)), none⟩,
         .op ⟨(some 106), (.mv (.t 2)), none⟩,
         .op ⟨(some 107), (.mv (.t 14)), none⟩,
         .op ⟨(some 108), (.bin .sub (.t 106) (.t 107)), none⟩,
         .op ⟨(some 16), (.mv (.t 105)), none⟩,
         .op ⟨(some 17), (.mv (.t 108)), none⟩])
       (.seq
       (.ops [.op ⟨(some 109), (.mv (.t 10)), none⟩,
         .op ⟨(some 110), (.bin .quo (.t 109) (.k (.raw (.int .i64 8)))), none⟩,
         .op ⟨(some 18), (.mv (.t 110)), none⟩])
       (.seq
       (.ops [.op ⟨(some 111), (.mv (.t 16)), none⟩,
         .op ⟨(some 112), (.mv (.t 17)), none⟩,
         .op ⟨(some 113), (.bin .lss (.t 111) (.t 112)), none⟩])
       (.cond (.t 113)
        (.seq
        (.ops [.op ⟨(some 114), (.mv (.t 16)), none⟩,
          .op ⟨(some 115), (.mv (.t 18)), none⟩,
          .op ⟨(some 116), (.bin .geq (.t 114) (.t 115)), none⟩,
          .op ⟨(some 8), (.mv (.t 116)), none⟩])
        (.seq
        (.ops [.op ⟨(some 117), (.mv (.t 0)), none⟩,
          .op ⟨(some 118), (.mv (.t 1)), none⟩,
          .op ⟨(some 119), (.mv (.t 14)), none⟩,
          .op ⟨(some 120), (.mv (.t 3)), none⟩,
          .op ⟨(some 121), (.call f_slices_pdqsortOrdered_int_ [(.t 117), (.t 118), (.t 119), (.t 120)]), none⟩])
        (.ops [.op ⟨(some 122), (.mv (.t 14)), none⟩,
          .op ⟨(some 123), (.bin .add (.t 122) (.k (.raw (.int .i64 1)))), none⟩,
          .op ⟨(some 1), (.mv (.t 123)), none⟩])))
        (.seq
        (.ops [.op ⟨(some 124), (.mv (.t 17)), none⟩,
          .op ⟨(some 125), (.mv (.t 18)), none⟩,
          .op ⟨(some 126), (.bin .geq (.t 124) (.t 125)), none⟩,
          .op ⟨(some 8), (.mv (.t 126)), none⟩])
        (.seq
        (.ops [.op ⟨(some 127), (.mv (.t 0)), none⟩,
          .op ⟨(some 128), (.mv (.t 14)), none⟩,
          .op ⟨(some 129), (.bin .add (.t 128) (.k (.raw (.int .i64 1)))), none⟩,
          .op ⟨(some 130), (.mv (.t 2)), none⟩,
          .op ⟨(some 131), (.mv (.t 3)), none⟩,
          .op ⟨(some 132), (.call f_slices_pdqsortOrdered_int_ [(.t 127), (.t 129), (.t 130), (.t 131)]), none⟩])
        (.ops [.op ⟨(some 133), (.mv (.t 14)), none⟩,
          .op ⟨(some 2), (.mv (.t 133)), none⟩]))))))))))))))))))))),
    [], 134⟩
theorem c_slices_pdqsortOrdered_int_ : compFn Tryz.prog f_slices_pdqsortOrdered_int_ = some x_slices_pdqsortOrdered_int_ := by kernel_rfl

/- math/bits.Len -/
def x_math_bits_Len : XFn := ⟨
    .seq
    (.ops [.op ⟨(some 2), (.mv (.k (.raw (.int .i64 0)))), none⟩])
    (.seq
    (.cond (.k (.raw (.bool false)))
     (.seq
     (.ops [.op ⟨(some 3), (.mv (.t 0)), none⟩,
       .op ⟨(some 4), (.conv .u32 (.t 3)), none⟩,
       .op ⟨(some 5), (.call f_math_bits_Len32 [(.t 4)]), none⟩,
       .op ⟨(some 2), (.mv (.t 5)), none⟩])
     (.ret))
     (.skip))
    (.seq
    (.ops [.op ⟨(some 6), (.mv (.t 0)), none⟩,
      .op ⟨(some 7), (.call f_math_bits_Len64 [(.t 6)]), none⟩,
      .op ⟨(some 2), (.mv (.t 7)), none⟩])
    (.ret))),
    [.tmp 2], 8⟩
theorem c_math_bits_Len : compFn Tryz.prog f_math_bits_Len = some x_math_bits_Len := by kernel_rfl

/- slices.Index[[]int,int] -/
def x_slices_Index___int_int_ : XFn := ⟨
    .seq
    (.ops [.op ⟨(some 4), (.mv (.k (.raw (.int .i64 0)))), none⟩])
    (.seq
    (.seq
    (.ops [.op ⟨(some 6), (.mv (.t 0)), none⟩,
      .op ⟨(some 7), (.len (.t 6)), none⟩,
      .op ⟨(some 8), (.mv (.k (.raw (.int .i64 0)))), none⟩])
    (.block 0
     (.loop
      (.seq
      (.ops [.op ⟨(some 9), (.bin .lss (.t 8) (.t 7)), none⟩])
      (.seq
      (.cond (.t 9)
       (.skip)
       (.exit 0))
      (.seq
      (.block 1
       (.seq
       (.ops [.op ⟨(some 10), (.mv (.t 8)), none⟩,
         .op ⟨(some 5), (.mv (.t 10)), none⟩])
       (.seq
       (.ops [.op ⟨(some 11), (.mv (.t 1)), none⟩,
         .op ⟨(some 12), (.mv (.t 0)), none⟩,
         .op ⟨(some 13), (.mv (.t 5)), none⟩,
         .op ⟨(some 14), (.idxAddr 1 (.t 12) (.t 13)), none⟩,
         .op ⟨(some 15), (.load none (.t 14)), none⟩,
         .op ⟨(some 16), (.bin .eql (.t 11) (.t 15)), none⟩])
       (.cond (.t 16)
        (.seq
        (.ops [.op ⟨(some 17), (.mv (.t 5)), none⟩,
          .op ⟨(some 4), (.mv (.t 17)), none⟩])
        (.ret))
        (.skip)))))
      (.ops [.op ⟨(some 18), (.bin .add (.t 8) (.k (.raw (.int .i64 1)))), none⟩,
        .op ⟨(some 8), (.mv (.t 18)), none⟩])))))))
    (.seq
    (.ops [.op ⟨(some 4), (.mv (.k (.raw (.int .i64 (-1))))), none⟩])
    (.ret))),
    [.tmp 4], 19⟩
theorem c_slices_Index___int_int_ : compFn Tryz.prog f_slices_Index___int_int_ = some x_slices_Index___int_int_ := by kernel_rfl

/- (*vigil/wire.Writer).Put -/
def x___vigil_wire_Writer__Put : XFn := ⟨
    .seq
    (.ops [.op ⟨(some 4), (.mv (.k (.raw (.pointer none)))), none⟩])
    (.seq
    (.seq
    (.ops [.op ⟨(some 8), (.mv (.t 0)), none⟩,
      .op ⟨(some 9), (.eq .ptr false (.t 8) (.k (.raw (.pointer none)))), none⟩])
    (.cond (.t 9)
     (.seq
     (.ops [.op ⟨(some 4), (.mv (.k (.raw (.pointer none)))), none⟩])
     (.ret))
     (.skip)))
    (.seq
    (.skip)
    (.seq
    (.seq
    (.ops [.op ⟨(some 10), (.mv (.t 1)), none⟩,
      .op ⟨(some 11), (.len (.t 10)), none⟩,
      .op ⟨(some 12), (.mv (.k (.raw (.int .i64 0)))), none⟩])
    (.block 0
     (.loop
      (.seq
      (.ops [.op ⟨(some 13), (.bin .lss (.t 12) (.t 11)), none⟩])
      (.seq
      (.cond (.t 13)
       (.skip)
       (.exit 0))
      (.seq
      (.block 1
       (.seq
       (.ops [.op ⟨(some 14), (.idxAddr 3 (.t 10) (.t 12)), none⟩,
         .op ⟨(some 15), (.load (some 3) (.t 14)), none⟩,
         .op ⟨(some 6), (.alloc [(.int .i64 0), (.int .i64 0), (.slice none 0 0)]), none⟩,
         .op ⟨none, (.store 3 (.t 6) (.t 15)), none⟩])
       (.seq
       (.seq
       (.ops [.op ⟨(some 16), (.mv (.t 0)), none⟩,
         .op ⟨(some 17), (.nilCheck (.t 16)), none⟩,
         .op ⟨(some 18), (.fieldAddr 1 (.t 17)), none⟩,
         .op ⟨(some 19), (.load none (.t 18)), none⟩,
         .op ⟨(some 20), (.bin .neq (.t 19) (.k (.raw (.int .i64 0)))), none⟩])
       (.cond (.t 20)
        (.exit 0)
        (.skip)))
       (.seq
       (.seq
       (.ops [.op ⟨(some 21), (.mv (.t 0)), none⟩,
         .op ⟨(some 22), (.load (some 3) (.t 6)), none⟩,
         .op ⟨(some 23), (.call f_vigil_wire_Check [(.t 22)]), none⟩,
         .op ⟨(some 24), (.nilCheck (.t 21)), none⟩,
         .op ⟨(some 25), (.fieldAddr 1 (.t 24)), none⟩,
         .op ⟨none, (.store 1 (.t 25) (.t 23)), none⟩])
       (.seq
       (.ops [.op ⟨(some 26), (.mv (.t 0)), none⟩,
         .op ⟨(some 27), (.nilCheck (.t 26)), none⟩,
         .op ⟨(some 28), (.fieldAddr 1 (.t 27)), none⟩,
         .op ⟨(some 29), (.load none (.t 28)), none⟩,
         .op ⟨(some 30), (.bin .neq (.t 29) (.k (.raw (.int .i64 0)))), none⟩])
       (.cond (.t 30)
        (.exit 1)
        (.skip))))
       (.seq
       (.ops [.op ⟨(some 31), (.load (some 3) (.t 6)), none⟩,
         .op ⟨(some 32), (.call f__vigil_wire_Field__out [(.t 31)]), none⟩,
         .op ⟨(some 7), (.mv (.t 32)), none⟩])
       (.seq
       (.seq
       (.ops [.op ⟨(some 33), (.mv (.t 0)), none⟩,
         .op ⟨(some 34), (.nilCheck (.t 33)), none⟩,
         .op ⟨(some 35), (.fieldAddr 0 (.t 34)), none⟩,
         .op ⟨(some 36), (.load none (.t 35)), none⟩,
         .op ⟨(some 37), (.len (.t 36)), none⟩,
         .op ⟨(some 38), (.mv (.t 7)), none⟩,
         .op ⟨(some 39), (.len (.t 38)), none⟩,
         .op ⟨(some 40), (.bin .add (.t 37) (.t 39)), none⟩,
         .op ⟨(some 41), (.bin .gtr (.t 40) (.k (.raw (.int .i64 1024)))), none⟩])
       (.cond (.t 41)
        (.seq
        (.ops [.op ⟨(some 42), (.mv (.t 0)), none⟩,
          .op ⟨(some 43), (.nilCheck (.t 42)), none⟩,
          .op ⟨(some 44), (.fieldAddr 1 (.t 43)), none⟩,
          .op ⟨none, (.store 1 (.t 44) (.k (.raw (.int .i64 2)))), none⟩])
        (.exit 1))
        (.skip)))
       (.ops [.op ⟨(some 45), (.mv (.t 0)), none⟩,
         .op ⟨(some 46), (.mv (.t 0)), none⟩,
         .op ⟨(some 47), (.nilCheck (.t 46)), none⟩,
         .op ⟨(some 48), (.fieldAddr 0 (.t 47)), none⟩,
         .op ⟨(some 49), (.load none (.t 48)), none⟩,
         .op ⟨(some 50), (.mv (.t 7)), none⟩,
         .op ⟨(some 51), (.append 1 1 (.t 49) (.t 50)), none⟩,
         .op ⟨(some 52), (.nilCheck (.t 45)), none⟩,
         .op ⟨(some 53), (.fieldAddr 0 (.t 52)), none⟩,
         .op ⟨none, (.store 1 (.t 53) (.t 51)), none⟩])))))))
      (.ops [.op ⟨(some 54), (.bin .add (.t 12) (.k (.raw (.int .i64 1)))), none⟩,
        .op ⟨(some 12), (.mv (.t 54)), none⟩])))))))
    (.seq
    (.ops [.op ⟨(some 55), (.mv (.t 0)), none⟩,
      .op ⟨(some 4), (.mv (.t 55)), none⟩])
    (.ret))))),
    [.tmp 4], 56⟩
theorem c___vigil_wire_Writer__Put : compFn Tryz.prog f___vigil_wire_Writer__Put = some x___vigil_wire_Writer__Put := by kernel_rfl

/- slices.Equal[[]int,int] -/
def x_slices_Equal___int_int_ : XFn := ⟨
    .seq
    (.ops [.op ⟨(some 4), (.mv (.k (.raw (.bool false)))), none⟩])
    (.seq
    (.seq
    (.ops [.op ⟨(some 6), (.mv (.t 0)), none⟩,
      .op ⟨(some 7), (.len (.t 6)), none⟩,
      .op ⟨(some 8), (.mv (.t 1)), none⟩,
      .op ⟨(some 9), (.len (.t 8)), none⟩,
      .op ⟨(some 10), (.bin .neq (.t 7) (.t 9)), none⟩])
    (.cond (.t 10)
     (.seq
     (.ops [.op ⟨(some 4), (.mv (.k (.raw (.bool false)))), none⟩])
     (.ret))
     (.skip)))
    (.seq
    (.seq
    (.ops [.op ⟨(some 11), (.mv (.t 0)), none⟩,
      .op ⟨(some 12), (.len (.t 11)), none⟩,
      .op ⟨(some 13), (.mv (.k (.raw (.int .i64 0)))), none⟩])
    (.block 0
     (.loop
      (.seq
      (.ops [.op ⟨(some 14), (.bin .lss (.t 13) (.t 12)), none⟩])
      (.seq
      (.cond (.t 14)
       (.skip)
       (.exit 0))
      (.seq
      (.block 1
       (.seq
       (.ops [.op ⟨(some 15), (.mv (.t 13)), none⟩,
         .op ⟨(some 5), (.mv (.t 15)), none⟩])
       (.seq
       (.draw [⟨(some 16), (.mv (.t 0)), none⟩,
         ⟨(some 17), (.mv (.t 5)), none⟩,
         ⟨(some 18), (.idxAddr 1 (.t 16) (.t 17)), none⟩,
         ⟨(some 19), (.load none (.t 18)), none⟩,
         ⟨(some 20), (.mv (.t 1)), none⟩,
         ⟨(some 21), (.mv (.t 5)), none⟩,
         ⟨(some 22), (.idxAddr 1 (.t 20) (.t 21)), none⟩,
         ⟨(some 23), (.load none (.t 22)), none⟩,
         ⟨(some 24), (.bin .neq (.t 19) (.t 23)), none⟩]
         [[], [], [1, 0], [0, 1, 2], [], [], [5, 4], [4, 5, 6], [6, 5, 4, 7, 2, 1, 0, 3]]
         [.q 0, .q 1, .q 2, .q 3, .q 4, .q 5, .q 6, .q 7, .q 8])
       (.cond (.t 24)
        (.seq
        (.ops [.op ⟨(some 4), (.mv (.k (.raw (.bool false)))), none⟩])
        (.ret))
        (.skip)))))
      (.ops [.op ⟨(some 25), (.bin .add (.t 13) (.k (.raw (.int .i64 1)))), none⟩,
        .op ⟨(some 13), (.mv (.t 25)), none⟩])))))))
    (.seq
    (.ops [.op ⟨(some 4), (.mv (.k (.raw (.bool true)))), none⟩])
    (.ret)))),
    [.tmp 4], 26⟩
theorem c_slices_Equal___int_int_ : compFn Tryz.prog f_slices_Equal___int_int_ = some x_slices_Equal___int_int_ := by kernel_rfl

/- (*vigil/wire.rest).number -/
def x___vigil_wire_rest__number : XFn := ⟨
    .seq
    (.ops [.op ⟨(some 4), (.mv (.k (.raw (.int .i64 0)))), none⟩,
      .op ⟨(some 5), (.mv (.k (.raw (.bool false)))), none⟩])
    (.seq
    (.ops [.op ⟨(some 10), (.mv (.t 0)), none⟩,
      .op ⟨(some 11), (.mv (.t 1)), none⟩,
      .op ⟨(some 12), (.call f_vigil_wire_width [(.t 11)]), none⟩,
      .op ⟨(some 13), (.call f___vigil_wire_rest__take [(.t 10), (.t 12)]), none⟩,
      .op ⟨(some 6), (.mv (.t 13)), none⟩])
    (.seq
    (.ops [.op ⟨(some 7), (.mv (.k (.raw (.int .u64 0)))), none⟩])
    (.seq
    (.seq
    (.ops [.op ⟨(some 14), (.mv (.t 6)), none⟩,
      .op ⟨(some 15), (.len (.t 14)), none⟩,
      .op ⟨(some 16), (.mv (.k (.raw (.int .i64 0)))), none⟩])
    (.block 0
     (.loop
      (.seq
      (.ops [.op ⟨(some 17), (.bin .lss (.t 16) (.t 15)), none⟩])
      (.seq
      (.cond (.t 17)
       (.skip)
       (.exit 0))
      (.seq
      (.block 1
       (.seq
       (.ops [.op ⟨(some 18), (.idxAddr 1 (.t 14) (.t 16)), none⟩,
         .op ⟨(some 19), (.load none (.t 18)), none⟩,
         .op ⟨(some 9), (.mv (.t 19)), none⟩])
       (.ops [.op ⟨(some 20), (.mv (.t 7)), none⟩,
         .op ⟨(some 21), (.bin .shl (.t 20) (.k (.raw (.int .u64 8)))), none⟩,
         .op ⟨(some 22), (.mv (.t 9)), none⟩,
         .op ⟨(some 23), (.conv .u64 (.t 22)), none⟩,
         .op ⟨(some 24), (.bin .or (.t 21) (.t 23)), none⟩,
         .op ⟨(some 7), (.mv (.t 24)), none⟩])))
      (.ops [.op ⟨(some 25), (.bin .add (.t 16) (.k (.raw (.int .i64 1)))), none⟩,
        .op ⟨(some 16), (.mv (.t 25)), none⟩])))))))
    (.seq
    (.seq
    (.ops [.op ⟨(some 26), (.mv (.t 7)), none⟩,
      .op ⟨(some 27), (.bin .gtr (.t 26) (.k (.raw (.int .u64 9223372036854775807)))), none⟩])
    (.cond (.t 27)
     (.seq
     (.ops [.op ⟨(some 28), (.mv (.t 0)), none⟩,
       .op ⟨(some 29), (.call f___vigil_wire_rest__fail [(.t 28), (.k (.raw (.int .i64 3)))]), none⟩])
     (.seq
     (.ops [.op ⟨(some 4), (.mv (.k (.raw (.int .i64 0)))), none⟩,
       .op ⟨(some 5), (.mv (.k (.raw (.bool false)))), none⟩])
     (.ret)))
     (.skip)))
    (.seq
    (.ops [.op ⟨(some 30), (.mv (.t 7)), none⟩,
      .op ⟨(some 31), (.conv .i64 (.t 30)), none⟩,
      .op ⟨(some 32), (.mv (.t 6)), none⟩,
      .op ⟨(some 33), (.len (.t 32)), none⟩,
      .op ⟨(some 34), (.bin .gtr (.t 33) (.k (.raw (.int .i64 0)))), none⟩,
      .op ⟨(some 4), (.mv (.t 31)), none⟩,
      .op ⟨(some 5), (.mv (.t 34)), none⟩])
    (.ret)))))),
    [.tmp 4, .tmp 5], 35⟩
theorem c___vigil_wire_rest__number : compFn Tryz.prog f___vigil_wire_rest__number = some x___vigil_wire_rest__number := by kernel_rfl

/- (*vigil/wire.rest).take -/
def x___vigil_wire_rest__take : XFn := ⟨
    .seq
    (.ops [.op ⟨(some 4), (.mv (.k (.raw (.slice none 0 0)))), none⟩])
    (.seq
    (.seq
    (.ops [.op ⟨(some 6), (.mv (.t 0)), none⟩,
      .op ⟨(some 7), (.nilCheck (.t 6)), none⟩,
      .op ⟨(some 8), (.fieldAddr 1 (.t 7)), none⟩,
      .op ⟨(some 9), (.load none (.t 8)), none⟩,
      .op ⟨(some 10), (.bin .neq (.t 9) (.k (.raw (.int .i64 0)))), none⟩,
      .op ⟨(some 11), (.mv (.t 10)), none⟩,
      .split 11,
      .op ⟨(some 12), (.mv (.t 1)), (some (11, false))⟩,
      .op ⟨(some 13), (.mv (.t 0)), (some (11, false))⟩,
      .op ⟨(some 14), (.nilCheck (.t 13)), (some (11, false))⟩,
      .op ⟨(some 15), (.fieldAddr 0 (.t 14)), (some (11, false))⟩,
      .op ⟨(some 16), (.load none (.t 15)), (some (11, false))⟩,
      .op ⟨(some 17), (.len (.t 16)), (some (11, false))⟩,
      .op ⟨(some 18), (.bin .gtr (.t 12) (.t 17)), (some (11, false))⟩,
      .op ⟨(some 19), (.pick (.t 11) (.k (.raw (.bool true))) (.t 18)), none⟩])
    (.cond (.t 19)
     (.seq
     (.ops [.op ⟨(some 20), (.mv (.t 0)), none⟩,
       .op ⟨(some 21), (.call f___vigil_wire_rest__fail [(.t 20), (.k (.raw (.int .i64 4)))]), none⟩])
     (.seq
     (.ops [.op ⟨(some 4), (.mv (.k (.raw (.slice none 0 0)))), none⟩])
     (.ret)))
     (.skip)))
    (.seq
    (.ops [.op ⟨(some 22), (.mv (.t 0)), none⟩,
      .op ⟨(some 23), (.nilCheck (.t 22)), none⟩,
      .op ⟨(some 24), (.fieldAddr 0 (.t 23)), none⟩,
      .op ⟨(some 25), (.load none (.t 24)), none⟩,
      .op ⟨(some 26), (.mv (.t 1)), none⟩,
      .op ⟨(some 27), (.mv (.t 1)), none⟩,
      .op ⟨(some 28), (.slice 1 (.t 25) none (some (.t 26)) (some (.t 27))), none⟩,
      .op ⟨(some 5), (.mv (.t 28)), none⟩])
    (.seq
    (.ops [.op ⟨(some 29), (.mv (.t 0)), none⟩,
      .op ⟨(some 30), (.mv (.t 0)), none⟩,
      .op ⟨(some 31), (.nilCheck (.t 30)), none⟩,
      .op ⟨(some 32), (.fieldAddr 0 (.t 31)), none⟩,
      .op ⟨(some 33), (.load none (.t 32)), none⟩,
      .op ⟨(some 34), (.mv (.t 1)), none⟩,
      .op ⟨(some 35), (.slice 1 (.t 33) (some (.t 34)) none none), none⟩,
      .op ⟨(some 36), (.nilCheck (.t 29)), none⟩,
      .op ⟨(some 37), (.fieldAddr 0 (.t 36)), none⟩,
      .op ⟨none, (.store 1 (.t 37) (.t 35)), none⟩])
    (.seq
    (.ops [.op ⟨(some 38), (.mv (.t 5)), none⟩,
      .op ⟨(some 4), (.mv (.t 38)), none⟩])
    (.ret))))),
    [.tmp 4], 39⟩
theorem c___vigil_wire_rest__take : compFn Tryz.prog f___vigil_wire_rest__take = some x___vigil_wire_rest__take := by kernel_rfl

/- slices.Backward[[][]int,[]int]$1 -/
def x_slices_Backward_____int___int__1 : XFn := ⟨
    .seq
    (.ops [.op ⟨(some 4), (.load none (.t 1)), none⟩,
      .op ⟨(some 5), (.len (.t 4)), none⟩,
      .op ⟨(some 6), (.bin .sub (.t 5) (.k (.raw (.int .i64 1)))), none⟩,
      .op ⟨(some 3), (.mv (.t 6)), none⟩])
    (.block 0
     (.loop
      (.seq
      (.seq
      (.ops [.op ⟨(some 7), (.mv (.t 3)), none⟩,
        .op ⟨(some 8), (.bin .geq (.t 7) (.k (.raw (.int .i64 0)))), none⟩])
      (.cond (.t 8)
       (.skip)
       (.exit 0)))
      (.seq
      (.block 1
       (.seq
       (.ops [.op ⟨(some 11), (.mv (.t 0)), none⟩,
         .op ⟨(some 12), (.mv (.t 3)), none⟩,
         .op ⟨(some 13), (.load none (.t 1)), none⟩,
         .op ⟨(some 14), (.mv (.t 3)), none⟩,
         .op ⟨(some 15), (.idxAddr 1 (.t 13) (.t 14)), none⟩,
         .op ⟨(some 16), (.load none (.t 15)), none⟩,
         .op ⟨(some 17), (.callv (.t 11) [(.t 12), (.t 16)]), none⟩,
         .op ⟨(some 18), (.un .not (.t 17)), none⟩])
       (.cond (.t 18)
        (.ret)
        (.skip))))
      (.ops [.op ⟨(some 9), (.mv (.t 3)), none⟩,
        .op ⟨(some 10), (.bin .sub (.t 9) (.k (.raw (.int .i64 1)))), none⟩,
        .op ⟨(some 3), (.mv (.t 10)), none⟩]))))),
    [], 19⟩
theorem c_slices_Backward_____int___int__1 : compFn Tryz.prog f_slices_Backward_____int___int__1 = some x_slices_Backward_____int___int__1 := by kernel_rfl

/- vigil/vigilref01.parts -/
def x_vigilref01_parts : XFn := ⟨
    .seq
    (.ops [.op ⟨(some 2), (.alloc [(.int .u64 0), (.int .u64 0), (.int .u64 0), (.int .u64 0), (.int .u64 0), (.int .u64 0), (.int .u64 0), (.int .u64 0), (.int .u64 0), (.int .u64 0), (.int .u64 0), (.int .u64 0)]), none⟩])
    (.seq
    (.ops [.op ⟨(some 5), (.build [(.int .u64 0), (.int .u64 0), (.int .u64 0), (.int .u64 0), (.int .u64 0), (.int .u64 0), (.int .u64 0), (.int .u64 0), (.int .u64 0), (.int .u64 0), (.int .u64 0), (.int .u64 0)] []), none⟩,
      .op ⟨(some 3), (.alloc [(.int .u64 0), (.int .u64 0), (.int .u64 0), (.int .u64 0), (.int .u64 0), (.int .u64 0), (.int .u64 0), (.int .u64 0), (.int .u64 0), (.int .u64 0), (.int .u64 0), (.int .u64 0)]), none⟩,
      .op ⟨none, (.store 12 (.t 3) (.t 5)), none⟩])
    (.seq
    (.seq
    (.ops [.op ⟨(some 4), (.mv (.k (.raw (.int .i64 0)))), none⟩])
    (.block 0
     (.loop
      (.seq
      (.seq
      (.ops [.op ⟨(some 6), (.mv (.t 4)), none⟩,
        .op ⟨(some 7), (.bin .lss (.t 6) (.k (.raw (.int .i64 4)))), none⟩])
      (.cond (.t 7)
       (.skip)
       (.exit 0)))
      (.seq
      (.block 1
       (.seq
       (.ops [.op ⟨(some 10), (.mv (.t 4)), none⟩,
         .op ⟨(some 11), (.mv (.t 0)), none⟩,
         .op ⟨(some 12), (.bin .rem (.t 11) (.k (.raw (.int .u64 65536)))), none⟩,
         .op ⟨(some 13), (.idxAddrArr 12 1 (.t 3) (.t 10)), none⟩,
         .op ⟨none, (.store 1 (.t 13) (.t 12)), none⟩])
       (.ops [.op ⟨(some 14), (.mv (.t 0)), none⟩,
         .op ⟨(some 15), (.bin .quo (.t 14) (.k (.raw (.int .u64 65536)))), none⟩,
         .op ⟨(some 0), (.mv (.t 15)), none⟩])))
      (.ops [.op ⟨(some 8), (.mv (.t 4)), none⟩,
        .op ⟨(some 9), (.bin .add (.t 8) (.k (.raw (.int .i64 1)))), none⟩,
        .op ⟨(some 4), (.mv (.t 9)), none⟩]))))))
    (.seq
    (.ops [.op ⟨(some 16), (.load (some 12) (.t 3)), none⟩,
      .op ⟨none, (.store 12 (.t 2) (.t 16)), none⟩])
    (.ret)))),
    [.cell 2 (some 12)], 17⟩
theorem c_vigilref01_parts : compFn Tryz.prog f_vigilref01_parts = some x_vigilref01_parts := by kernel_rfl

/- vigil/vigilref01.times -/
def x_vigilref01_times : XFn := ⟨
    .seq
    (.ops [.op ⟨(some 2), (.box (.t 0)), none⟩,
      .op ⟨(some 3), (.box (.t 1)), none⟩,
      .op ⟨(some 4), (.alloc [(.int .u64 0), (.int .u64 0), (.int .u64 0), (.int .u64 0), (.int .u64 0), (.int .u64 0), (.int .u64 0), (.int .u64 0), (.int .u64 0), (.int .u64 0), (.int .u64 0), (.int .u64 0)]), none⟩])
    (.seq
    (.ops [.op ⟨(some 9), (.build [(.int .u64 0), (.int .u64 0), (.int .u64 0), (.int .u64 0), (.int .u64 0), (.int .u64 0), (.int .u64 0), (.int .u64 0), (.int .u64 0), (.int .u64 0), (.int .u64 0), (.int .u64 0)] []), none⟩,
      .op ⟨(some 5), (.alloc [(.int .u64 0), (.int .u64 0), (.int .u64 0), (.int .u64 0), (.int .u64 0), (.int .u64 0), (.int .u64 0), (.int .u64 0), (.int .u64 0), (.int .u64 0), (.int .u64 0), (.int .u64 0)]), none⟩,
      .op ⟨none, (.store 12 (.t 5) (.t 9)), none⟩])
    (.seq
    (.seq
    (.ops [.op ⟨(some 6), (.mv (.k (.raw (.int .i64 0)))), none⟩])
    (.block 0
     (.loop
      (.seq
      (.seq
      (.ops [.op ⟨(some 10), (.mv (.t 6)), none⟩,
        .op ⟨(some 11), (.bin .lss (.t 10) (.k (.raw (.int .i64 12)))), none⟩])
      (.cond (.t 11)
       (.skip)
       (.exit 0)))
      (.seq
      (.block 1
       (.seq
       (.ops [.op ⟨(some 7), (.mv (.k (.raw (.int .u64 0)))), none⟩])
       (.seq
       (.ops [.op ⟨(some 8), (.mv (.k (.raw (.int .i64 0)))), none⟩])
       (.block 2
        (.loop
         (.seq
         (.seq
         (.ops [.op ⟨(some 14), (.mv (.t 6)), none⟩,
           .op ⟨(some 15), (.mv (.t 8)), none⟩,
           .op ⟨(some 16), (.bin .add (.t 14) (.t 15)), none⟩,
           .op ⟨(some 17), (.bin .lss (.t 16) (.k (.raw (.int .i64 12)))), none⟩])
         (.cond (.t 17)
          (.skip)
          (.exit 2)))
         (.seq
         (.block 3
          (.seq
          (.draw [⟨(some 20), (.mv (.t 7)), none⟩,
            ⟨(some 21), (.mv (.t 6)), none⟩,
            ⟨(some 22), (.mv (.t 8)), none⟩,
            ⟨(some 23), (.bin .add (.t 21) (.t 22)), none⟩,
            ⟨(some 24), (.idxAddrArr 12 1 (.t 5) (.t 23)), none⟩,
            ⟨(some 25), (.load none (.t 24)), none⟩,
            ⟨(some 26), (.bin .add (.t 20) (.t 25)), none⟩,
            ⟨(some 27), (.mv (.t 6)), none⟩,
            ⟨(some 28), (.idxAddrArr 12 1 (.t 2) (.t 27)), none⟩,
            ⟨(some 29), (.load none (.t 28)), none⟩,
            ⟨(some 30), (.mv (.t 8)), none⟩,
            ⟨(some 31), (.idxAddrArr 12 1 (.t 3) (.t 30)), none⟩,
            ⟨(some 32), (.load none (.t 31)), none⟩,
            ⟨(some 33), (.bin .mul (.t 29) (.t 32)), none⟩,
            ⟨(some 34), (.bin .add (.t 26) (.t 33)), none⟩,
            ⟨(some 7), (.mv (.t 34)), none⟩]
            [[], [], [], [2, 1], [1, 2, 3], [3, 2, 1, 4], [4, 1, 2, 3, 5, 0], [], [7], [7, 8], [], [10], [10, 11], [11, 10, 12, 8, 7, 9], [9, 7, 8, 12, 10, 11, 13, 0, 5, 3, 2, 1, 4, 6], [6, 4, 1, 2, 3, 5, 0, 13, 11, 10, 12, 8, 7, 9, 14]]
            [.q 0, .q 1, .q 2, .q 3, .q 4, .q 5, .q 6, .q 7, .q 8, .q 9, .q 10, .q 11, .q 12, .q 13, .q 14, .q 15])
          (.seq
          (.ops [.op ⟨(some 35), (.mv (.t 6)), none⟩,
            .op ⟨(some 36), (.mv (.t 8)), none⟩,
            .op ⟨(some 37), (.bin .add (.t 35) (.t 36)), none⟩,
            .op ⟨(some 38), (.mv (.t 7)), none⟩,
            .op ⟨(some 39), (.bin .rem (.t 38) (.k (.raw (.int .u64 65536)))), none⟩,
            .op ⟨(some 40), (.idxAddrArr 12 1 (.t 5) (.t 37)), none⟩,
            .op ⟨none, (.store 1 (.t 40) (.t 39)), none⟩])
          (.ops [.op ⟨(some 41), (.mv (.t 7)), none⟩,
            .op ⟨(some 42), (.bin .quo (.t 41) (.k (.raw (.int .u64 65536)))), none⟩,
            .op ⟨(some 7), (.mv (.t 42)), none⟩]))))
         (.ops [.op ⟨(some 18), (.mv (.t 8)), none⟩,
           .op ⟨(some 19), (.bin .add (.t 18) (.k (.raw (.int .i64 1)))), none⟩,
           .op ⟨(some 8), (.mv (.t 19)), none⟩]))))))))
      (.ops [.op ⟨(some 12), (.mv (.t 6)), none⟩,
        .op ⟨(some 13), (.bin .add (.t 12) (.k (.raw (.int .i64 1)))), none⟩,
        .op ⟨(some 6), (.mv (.t 13)), none⟩]))))))
    (.seq
    (.ops [.op ⟨(some 43), (.load (some 12) (.t 5)), none⟩,
      .op ⟨none, (.store 12 (.t 4) (.t 43)), none⟩])
    (.ret)))),
    [.cell 4 (some 12)], 44⟩
theorem c_vigilref01_times : compFn Tryz.prog f_vigilref01_times = some x_vigilref01_times := by kernel_rfl

/- slices.IndexFunc[[]int,int] -/
def x_slices_IndexFunc___int_int_ : XFn := ⟨
    .seq
    (.ops [.op ⟨(some 4), (.mv (.k (.raw (.int .i64 0)))), none⟩])
    (.seq
    (.seq
    (.ops [.op ⟨(some 6), (.mv (.t 0)), none⟩,
      .op ⟨(some 7), (.len (.t 6)), none⟩,
      .op ⟨(some 8), (.mv (.k (.raw (.int .i64 0)))), none⟩])
    (.block 0
     (.loop
      (.seq
      (.ops [.op ⟨(some 9), (.bin .lss (.t 8) (.t 7)), none⟩])
      (.seq
      (.cond (.t 9)
       (.skip)
       (.exit 0))
      (.seq
      (.block 1
       (.seq
       (.ops [.op ⟨(some 10), (.mv (.t 8)), none⟩,
         .op ⟨(some 5), (.mv (.t 10)), none⟩])
       (.seq
       (.ops [.op ⟨(some 11), (.mv (.t 1)), none⟩,
         .op ⟨(some 12), (.mv (.t 0)), none⟩,
         .op ⟨(some 13), (.mv (.t 5)), none⟩,
         .op ⟨(some 14), (.idxAddr 1 (.t 12) (.t 13)), none⟩,
         .op ⟨(some 15), (.load none (.t 14)), none⟩,
         .op ⟨(some 16), (.callv (.t 11) [(.t 15)]), none⟩])
       (.cond (.t 16)
        (.seq
        (.ops [.op ⟨(some 17), (.mv (.t 5)), none⟩,
          .op ⟨(some 4), (.mv (.t 17)), none⟩])
        (.ret))
        (.skip)))))
      (.ops [.op ⟨(some 18), (.bin .add (.t 8) (.k (.raw (.int .i64 1)))), none⟩,
        .op ⟨(some 8), (.mv (.t 18)), none⟩])))))))
    (.seq
    (.ops [.op ⟨(some 4), (.mv (.k (.raw (.int .i64 (-1))))), none⟩])
    (.ret))),
    [.tmp 4], 19⟩
theorem c_slices_IndexFunc___int_int_ : compFn Tryz.prog f_slices_IndexFunc___int_int_ = some x_slices_IndexFunc___int_int_ := by kernel_rfl

/- slices.Collect[int] -/
def x_slices_Collect_int_ : XFn := ⟨
    .seq
    (.ops [.op ⟨(some 2), (.mv (.k (.raw (.slice none 0 0)))), none⟩])
    (.seq
    (.ops [.op ⟨(some 3), (.mv (.t 0)), none⟩,
      .op ⟨(some 4), (.call f_slices_AppendSeq___int_int_ [(.k (.raw (.slice none 0 0))), (.t 3)]), none⟩,
      .op ⟨(some 2), (.mv (.t 4)), none⟩])
    (.ret)),
    [.tmp 2], 5⟩
theorem c_slices_Collect_int_ : compFn Tryz.prog f_slices_Collect_int_ = some x_slices_Collect_int_ := by kernel_rfl

/- slices.Values[[]int,int]$1 -/
def x_slices_Values___int_int__1 : XFn := ⟨
    .seq
    (.ops [.op ⟨(some 5), (.load none (.t 1)), none⟩,
      .op ⟨(some 6), (.len (.t 5)), none⟩,
      .op ⟨(some 7), (.mv (.k (.raw (.int .i64 0)))), none⟩])
    (.block 0
     (.loop
      (.seq
      (.ops [.op ⟨(some 8), (.bin .lss (.t 7) (.t 6)), none⟩])
      (.seq
      (.cond (.t 8)
       (.skip)
       (.exit 0))
      (.seq
      (.block 1
       (.seq
       (.ops [.op ⟨(some 9), (.idxAddr 1 (.t 5) (.t 7)), none⟩,
         .op ⟨(some 10), (.load none (.t 9)), none⟩,
         .op ⟨(some 4), (.mv (.t 10)), none⟩])
       (.seq
       (.ops [.op ⟨(some 11), (.mv (.t 0)), none⟩,
         .op ⟨(some 12), (.mv (.t 4)), none⟩,
         .op ⟨(some 13), (.callv (.t 11) [(.t 12)]), none⟩,
         .op ⟨(some 14), (.un .not (.t 13)), none⟩])
       (.cond (.t 14)
        (.ret)
        (.skip)))))
      (.ops [.op ⟨(some 15), (.bin .add (.t 7) (.k (.raw (.int .i64 1)))), none⟩,
        .op ⟨(some 7), (.mv (.t 15)), none⟩])))))),
    [], 16⟩
theorem c_slices_Values___int_int__1 : compFn Tryz.prog f_slices_Values___int_int__1 = some x_slices_Values___int_int__1 := by kernel_rfl

/- vigil/digest.begun -/
def x_vigil_digest_begun : XFn := ⟨
    .seq
    (.ops [.op ⟨(some 0), (.alloc [(.int .u32 0), (.int .u32 0), (.int .u32 0), (.int .u32 0), (.int .u32 0), (.int .u32 0), (.int .u32 0), (.int .u32 0)]), none⟩])
    (.seq
    (.ops [.op ⟨(some 1), (.build [(.int .u32 0), (.int .u32 0), (.int .u32 0), (.int .u32 0), (.int .u32 0), (.int .u32 0), (.int .u32 0), (.int .u32 0)] [(0, 1, (.k (.raw (.int .u32 1779033703)))), (1, 1, (.k (.raw (.int .u32 3144134277)))), (2, 1, (.k (.raw (.int .u32 1013904242)))), (3, 1, (.k (.raw (.int .u32 2773480762)))), (4, 1, (.k (.raw (.int .u32 1359893119)))), (5, 1, (.k (.raw (.int .u32 2600822924)))), (6, 1, (.k (.raw (.int .u32 528734635)))), (7, 1, (.k (.raw (.int .u32 1541459225))))]), none⟩,
      .op ⟨(some 2), (.build [(.int .u32 0), (.int .u32 0), (.int .u32 0), (.int .u32 0), (.int .u32 0), (.int .u32 0), (.int .u32 0), (.int .u32 0)] [(0, 8, (.t 1))]), none⟩,
      .op ⟨none, (.store 8 (.t 0) (.t 2)), none⟩])
    (.ret)),
    [.cell 0 (some 8)], 3⟩
theorem c_vigil_digest_begun : compFn Tryz.prog f_vigil_digest_begun = some x_vigil_digest_begun := by kernel_rfl

/- (*vigil/digest.state).all -/
def x___vigil_digest_state__all : XFn := ⟨
    .seq
    (.ops [.op ⟨(some 4), (.mv (.k (.raw (.slice none 0 0)))), none⟩])
    (.seq
    (.block 0
     (.loop
      (.seq
      (.seq
      (.ops [.op ⟨(some 5), (.mv (.t 1)), none⟩,
        .op ⟨(some 6), (.len (.t 5)), none⟩,
        .op ⟨(some 7), (.bin .geq (.t 6) (.k (.raw (.int .i64 64)))), none⟩])
      (.cond (.t 7)
       (.skip)
       (.exit 0)))
      (.block 1
       (.seq
       (.ops [.op ⟨(some 8), (.mv (.t 0)), none⟩,
         .op ⟨(some 9), (.mv (.t 1)), none⟩,
         .op ⟨(some 10), (.slice 1 (.t 9) none (some (.k (.raw (.int .i64 64)))) none), none⟩,
         .op ⟨(some 11), (.call f___vigil_digest_state__mix [(.t 8), (.t 10)]), none⟩])
       (.ops [.op ⟨(some 12), (.mv (.t 1)), none⟩,
         .op ⟨(some 13), (.slice 1 (.t 12) (some (.k (.raw (.int .i64 64)))) none none), none⟩,
         .op ⟨(some 1), (.mv (.t 13)), none⟩]))))))
    (.seq
    (.ops [.op ⟨(some 14), (.mv (.t 1)), none⟩,
      .op ⟨(some 4), (.mv (.t 14)), none⟩])
    (.ret))),
    [.tmp 4], 15⟩
theorem c___vigil_digest_state__all : compFn Tryz.prog f___vigil_digest_state__all = some x___vigil_digest_state__all := by kernel_rfl

/- vigil/digest.Sum -/
def x_vigil_digest_Sum : XFn := ⟨
    .seq
    (.ops [.op ⟨(some 2), (.alloc [(.int .u8 0), (.int .u8 0), (.int .u8 0), (.int .u8 0), (.int .u8 0), (.int .u8 0), (.int .u8 0), (.int .u8 0), (.int .u8 0), (.int .u8 0), (.int .u8 0), (.int .u8 0), (.int .u8 0), (.int .u8 0), (.int .u8 0), (.int .u8 0), (.int .u8 0), (.int .u8 0), (.int .u8 0), (.int .u8 0), (.int .u8 0), (.int .u8 0), (.int .u8 0), (.int .u8 0), (.int .u8 0), (.int .u8 0), (.int .u8 0), (.int .u8 0), (.int .u8 0), (.int .u8 0), (.int .u8 0), (.int .u8 0)]), none⟩])
    (.seq
    (.ops [.op ⟨(some 3), (.build [(.int .u32 0), (.int .u32 0), (.int .u32 0), (.int .u32 0), (.int .u32 0), (.int .u32 0), (.int .u32 0), (.int .u32 0), (.bool false), (.slice none 0 0), (.int .i64 0)] []), none⟩,
      .op ⟨(some 4), (.box (.t 3)), none⟩,
      .op ⟨(some 5), (.mv (.t 0)), none⟩,
      .op ⟨(some 6), (.call f___vigil_digest_Running__Add [(.t 4), (.t 5)]), none⟩,
      .op ⟨(some 7), (.call f___vigil_digest_Running__Sum [(.t 6)]), none⟩,
      .op ⟨none, (.store 32 (.t 2) (.t 7)), none⟩])
    (.ret)),
    [.cell 2 (some 32)], 8⟩
theorem c_vigil_digest_Sum : compFn Tryz.prog f_vigil_digest_Sum = some x_vigil_digest_Sum := by kernel_rfl

/- (*vigil/digest.Running).Copy -/
def x___vigil_digest_Running__Copy : XFn := ⟨
    .seq
    (.ops [.op ⟨(some 2), (.mv (.k (.raw (.pointer none)))), none⟩])
    (.seq
    (.seq
    (.ops [.op ⟨(some 4), (.mv (.t 0)), none⟩,
      .op ⟨(some 5), (.eq .ptr false (.t 4) (.k (.raw (.pointer none)))), none⟩])
    (.cond (.t 5)
     (.seq
     (.ops [.op ⟨(some 2), (.mv (.k (.raw (.pointer none)))), none⟩])
     (.ret))
     (.skip)))
    (.seq
    (.ops [.op ⟨(some 6), (.mv (.t 0)), none⟩,
      .op ⟨(some 7), (.nilCheck (.t 6)), none⟩,
      .op ⟨(some 8), (.load (some 11) (.t 7)), none⟩,
      .op ⟨(some 3), (.alloc [(.int .u32 0), (.int .u32 0), (.int .u32 0), (.int .u32 0), (.int .u32 0), (.int .u32 0), (.int .u32 0), (.int .u32 0), (.bool false), (.slice none 0 0), (.int .i64 0)]), none⟩,
      .op ⟨none, (.store 11 (.t 3) (.t 8)), none⟩])
    (.seq
    (.ops [.op ⟨(some 9), (.mv (.t 0)), none⟩,
      .op ⟨(some 10), (.nilCheck (.t 9)), none⟩,
      .op ⟨(some 11), (.fieldAddr 9 (.t 10)), none⟩,
      .op ⟨(some 12), (.load none (.t 11)), none⟩,
      .op ⟨(some 13), (.call f_bytes_Clone [(.t 12)]), none⟩,
      .op ⟨(some 14), (.fieldAddr 9 (.t 3)), none⟩,
      .op ⟨none, (.store 1 (.t 14) (.t 13)), none⟩])
    (.seq
    (.ops [.op ⟨(some 2), (.mv (.t 3)), none⟩])
    (.ret))))),
    [.tmp 2], 15⟩
theorem c___vigil_digest_Running__Copy : compFn Tryz.prog f___vigil_digest_Running__Copy = some x___vigil_digest_Running__Copy := by kernel_rfl

/- (*vigil/digest.state).out -/
def x___vigil_digest_state__out : XFn := ⟨
    .seq
    (.ops [.op ⟨(some 2), (.alloc [(.int .u8 0), (.int .u8 0), (.int .u8 0), (.int .u8 0), (.int .u8 0), (.int .u8 0), (.int .u8 0), (.int .u8 0), (.int .u8 0), (.int .u8 0), (.int .u8 0), (.int .u8 0), (.int .u8 0), (.int .u8 0), (.int .u8 0), (.int .u8 0), (.int .u8 0), (.int .u8 0), (.int .u8 0), (.int .u8 0), (.int .u8 0), (.int .u8 0), (.int .u8 0), (.int .u8 0), (.int .u8 0), (.int .u8 0), (.int .u8 0), (.int .u8 0), (.int .u8 0), (.int .u8 0), (.int .u8 0), (.int .u8 0)]), none⟩])
    (.seq
    (.ops [.op ⟨(some 3), (.alloc [(.int .u8 0), (.int .u8 0), (.int .u8 0), (.int .u8 0), (.int .u8 0), (.int .u8 0), (.int .u8 0), (.int .u8 0), (.int .u8 0), (.int .u8 0), (.int .u8 0), (.int .u8 0), (.int .u8 0), (.int .u8 0), (.int .u8 0), (.int .u8 0), (.int .u8 0), (.int .u8 0), (.int .u8 0), (.int .u8 0), (.int .u8 0), (.int .u8 0), (.int .u8 0), (.int .u8 0), (.int .u8 0), (.int .u8 0), (.int .u8 0), (.int .u8 0), (.int .u8 0), (.int .u8 0), (.int .u8 0), (.int .u8 0)]), none⟩])
    (.seq
    (.seq
    (.ops [.op ⟨(some 6), (.mv (.t 0)), none⟩,
      .op ⟨(some 7), (.nilCheck (.t 6)), none⟩,
      .op ⟨(some 8), (.fieldAddr 0 (.t 7)), none⟩,
      .op ⟨(some 9), (.load (some 8) (.t 8)), none⟩,
      .op ⟨(some 10), (.mv (.k (.raw (.int .i64 0)))), none⟩])
    (.block 0
     (.loop
      (.seq
      (.ops [.op ⟨(some 11), (.bin .lss (.t 10) (.k (.raw (.int .i64 8)))), none⟩])
      (.seq
      (.cond (.t 11)
       (.skip)
       (.exit 0))
      (.seq
      (.block 1
       (.seq
       (.ops [.op ⟨(some 12), (.mv (.t 10)), none⟩,
         .op ⟨(some 13), (.idxArr 8 1 none (.t 9) (.t 10)), none⟩,
         .op ⟨(some 4), (.mv (.t 12)), none⟩,
         .op ⟨(some 5), (.mv (.t 13)), none⟩])
       (.ops [.op ⟨(some 14), (.mv (.t 4)), none⟩,
         .op ⟨(some 15), (.bin .mul (.k (.raw (.int .i64 4))) (.t 14)), none⟩,
         .op ⟨(some 16), (.mv (.t 4)), none⟩,
         .op ⟨(some 17), (.bin .mul (.k (.raw (.int .i64 4))) (.t 16)), none⟩,
         .op ⟨(some 18), (.bin .add (.t 17) (.k (.raw (.int .i64 1)))), none⟩,
         .op ⟨(some 19), (.mv (.t 4)), none⟩,
         .op ⟨(some 20), (.bin .mul (.k (.raw (.int .i64 4))) (.t 19)), none⟩,
         .op ⟨(some 21), (.bin .add (.t 20) (.k (.raw (.int .i64 2)))), none⟩,
         .op ⟨(some 22), (.mv (.t 4)), none⟩,
         .op ⟨(some 23), (.bin .mul (.k (.raw (.int .i64 4))) (.t 22)), none⟩,
         .op ⟨(some 24), (.bin .add (.t 23) (.k (.raw (.int .i64 3)))), none⟩,
         .op ⟨(some 25), (.mv (.t 5)), none⟩,
         .op ⟨(some 26), (.bin .shr (.t 25) (.k (.raw (.int .u64 24)))), none⟩,
         .op ⟨(some 27), (.conv .u8 (.t 26)), none⟩,
         .op ⟨(some 28), (.mv (.t 5)), none⟩,
         .op ⟨(some 29), (.bin .shr (.t 28) (.k (.raw (.int .u64 16)))), none⟩,
         .op ⟨(some 30), (.conv .u8 (.t 29)), none⟩,
         .op ⟨(some 31), (.mv (.t 5)), none⟩,
         .op ⟨(some 32), (.bin .shr (.t 31) (.k (.raw (.int .u64 8)))), none⟩,
         .op ⟨(some 33), (.conv .u8 (.t 32)), none⟩,
         .op ⟨(some 34), (.mv (.t 5)), none⟩,
         .op ⟨(some 35), (.conv .u8 (.t 34)), none⟩,
         .op ⟨(some 36), (.idxAddrArr 32 1 (.t 3) (.t 15)), none⟩,
         .op ⟨none, (.store 1 (.t 36) (.t 27)), none⟩,
         .op ⟨(some 37), (.idxAddrArr 32 1 (.t 3) (.t 18)), none⟩,
         .op ⟨none, (.store 1 (.t 37) (.t 30)), none⟩,
         .op ⟨(some 38), (.idxAddrArr 32 1 (.t 3) (.t 21)), none⟩,
         .op ⟨none, (.store 1 (.t 38) (.t 33)), none⟩,
         .op ⟨(some 39), (.idxAddrArr 32 1 (.t 3) (.t 24)), none⟩,
         .op ⟨none, (.store 1 (.t 39) (.t 35)), none⟩])))
      (.ops [.op ⟨(some 40), (.bin .add (.t 10) (.k (.raw (.int .i64 1)))), none⟩,
        .op ⟨(some 10), (.mv (.t 40)), none⟩])))))))
    (.seq
    (.ops [.op ⟨(some 41), (.load (some 32) (.t 3)), none⟩,
      .op ⟨none, (.store 32 (.t 2) (.t 41)), none⟩])
    (.ret)))),
    [.cell 2 (some 32)], 42⟩
theorem c___vigil_digest_state__out : compFn Tryz.prog f___vigil_digest_state__out = some x___vigil_digest_state__out := by kernel_rfl

/- vigil/vigilref01.right -/
def x_vigilref01_right : XFn := ⟨
    .seq
    (.ops [.op ⟨(some 4), (.mv (.k (.raw (.int .u32 0)))), none⟩])
    (.seq
    (.draw [⟨(some 5), (.mv (.t 0)), none⟩,
      ⟨(some 6), (.mv (.t 1)), none⟩,
      ⟨(some 7), (.bin .shr (.t 5) (.t 6)), none⟩,
      ⟨(some 8), (.mv (.t 0)), none⟩,
      ⟨(some 9), (.mv (.t 1)), none⟩,
      ⟨(some 10), (.bin .sub (.k (.raw (.int .i64 32))) (.t 9)), none⟩,
      ⟨(some 11), (.bin .shl (.t 8) (.t 10)), none⟩,
      ⟨(some 12), (.bin .or (.t 7) (.t 11)), none⟩,
      ⟨(some 4), (.mv (.t 12)), none⟩]
      [[], [], [1, 0], [], [], [4], [4, 5, 3], [3, 5, 4, 6, 0, 1, 2], [2, 1, 0, 6, 4, 5, 3, 7]]
      [.q 0, .q 1, .q 2, .q 3, .q 4, .q 5, .q 6, .q 7, .q 8])
    (.ret)),
    [.tmp 4], 13⟩
theorem c_vigilref01_right : compFn Tryz.prog f_vigilref01_right = some x_vigilref01_right := by kernel_rfl

/- slices.insertionSortOrdered[int] -/
def x_slices_insertionSortOrdered_int_ : XFn := ⟨
    .seq
    (.ops [.op ⟨(some 8), (.mv (.t 1)), none⟩,
      .op ⟨(some 9), (.bin .add (.t 8) (.k (.raw (.int .i64 1)))), none⟩,
      .op ⟨(some 6), (.mv (.t 9)), none⟩])
    (.block 0
     (.loop
      (.seq
      (.seq
      (.ops [.op ⟨(some 10), (.mv (.t 6)), none⟩,
        .op ⟨(some 11), (.mv (.t 2)), none⟩,
        .op ⟨(some 12), (.bin .lss (.t 10) (.t 11)), none⟩])
      (.cond (.t 12)
       (.skip)
       (.exit 0)))
      (.seq
      (.block 1
       (.seq
       (.ops [.op ⟨(some 15), (.mv (.t 6)), none⟩,
         .op ⟨(some 7), (.mv (.t 15)), none⟩])
       (.block 2
        (.loop
         (.seq
         (.seq
         (.draw [⟨(some 16), (.mv (.t 7)), none⟩,
           ⟨(some 17), (.mv (.t 1)), none⟩,
           ⟨(some 18), (.bin .gtr (.t 16) (.t 17)), none⟩,
           ⟨(some 19), (.mv (.t 18)), none⟩,
           ⟨(some 20), (.mv (.t 0)), (some (19, true))⟩,
           ⟨(some 21), (.mv (.t 7)), (some (19, true))⟩,
           ⟨(some 22), (.idxAddr 1 (.t 20) (.t 21)), (some (19, true))⟩,
           ⟨(some 23), (.load none (.t 22)), (some (19, true))⟩,
           ⟨(some 24), (.mv (.t 0)), (some (19, true))⟩,
           ⟨(some 25), (.mv (.t 7)), (some (19, true))⟩,
           ⟨(some 26), (.bin .sub (.t 25) (.k (.raw (.int .i64 1)))), (some (19, true))⟩,
           ⟨(some 27), (.idxAddr 1 (.t 24) (.t 26)), (some (19, true))⟩,
           ⟨(some 28), (.load none (.t 27)), (some (19, true))⟩,
           ⟨(some 29), (.call f_cmp_Less_int_ [(.t 23), (.t 28)]), (some (19, true))⟩,
           ⟨(some 30), (.pick (.t 19) (.t 29) (.k (.raw (.bool false)))), none⟩]
           [[], [], [1, 0], [0, 1, 2], [2, 1, 0, 3], [2, 1, 0, 3], [5, 3, 0, 1, 2, 4], [4, 2, 1, 0, 3, 5, 6], [2, 1, 0, 3], [2, 1, 0, 3], [3, 0, 1, 2, 9], [9, 10, 3, 0, 1, 2, 8], [8, 2, 1, 0, 3, 10, 9, 11], [11, 9, 10, 8, 12, 6, 5, 3, 0, 1, 2, 4, 7], [7, 4, 5, 6, 12, 8, 10, 9, 11, 13, 2, 1, 0, 3]]
           [.q 0, .q 1, .q 2, .q 3, .split 19, .q 4, .q 5, .q 6, .q 7, .q 8, .q 9, .q 10, .q 11, .q 12, .eff 13, .q 14])
         (.cond (.t 30)
          (.skip)
          (.exit 2)))
         (.seq
         (.block 3
          (.draw [⟨(some 33), (.mv (.t 0)), none⟩,
            ⟨(some 34), (.mv (.t 7)), none⟩,
            ⟨(some 35), (.mv (.t 0)), none⟩,
            ⟨(some 36), (.mv (.t 7)), none⟩,
            ⟨(some 37), (.bin .sub (.t 36) (.k (.raw (.int .i64 1)))), none⟩,
            ⟨(some 38), (.mv (.t 0)), none⟩,
            ⟨(some 39), (.mv (.t 7)), none⟩,
            ⟨(some 40), (.bin .sub (.t 39) (.k (.raw (.int .i64 1)))), none⟩,
            ⟨(some 41), (.idxAddr 1 (.t 38) (.t 40)), none⟩,
            ⟨(some 42), (.load none (.t 41)), none⟩,
            ⟨(some 43), (.mv (.t 0)), none⟩,
            ⟨(some 44), (.mv (.t 7)), none⟩,
            ⟨(some 45), (.idxAddr 1 (.t 43) (.t 44)), none⟩,
            ⟨(some 46), (.load none (.t 45)), none⟩,
            ⟨(some 47), (.idxAddr 1 (.t 33) (.t 34)), none⟩,
            ⟨none, (.store 1 (.t 47) (.t 42)), none⟩,
            ⟨(some 48), (.idxAddr 1 (.t 35) (.t 37)), none⟩,
            ⟨none, (.store 1 (.t 48) (.t 46)), none⟩]
            [[], [], [], [], [3], [], [], [6], [6, 7, 5], [5, 7, 6, 8], [], [], [11, 10], [10, 11, 12], [12, 11, 10, 13, 9, 8, 7, 6, 5, 1, 0], [0, 1, 5, 6, 7, 8, 9, 13, 10, 11, 12, 14], [15, 14, 13, 12, 11, 10, 9, 8, 7, 6, 5, 1, 0, 3, 4, 2], [2, 4, 3, 0, 1, 5, 6, 7, 8, 9, 10, 11, 12, 13, 14, 15, 16]]
            [.q 0, .q 1, .q 2, .q 3, .q 4, .q 5, .q 6, .q 7, .q 8, .q 9, .q 10, .q 11, .q 12, .q 13, .q 14, .eff 15, .q 16, .eff 17]))
         (.ops [.op ⟨(some 31), (.mv (.t 7)), none⟩,
           .op ⟨(some 32), (.bin .sub (.t 31) (.k (.raw (.int .i64 1)))), none⟩,
           .op ⟨(some 7), (.mv (.t 32)), none⟩])))))))
      (.ops [.op ⟨(some 13), (.mv (.t 6)), none⟩,
        .op ⟨(some 14), (.bin .add (.t 13) (.k (.raw (.int .i64 1)))), none⟩,
        .op ⟨(some 6), (.mv (.t 14)), none⟩]))))),
    [], 49⟩
theorem c_slices_insertionSortOrdered_int_ : compFn Tryz.prog f_slices_insertionSortOrdered_int_ = some x_slices_insertionSortOrdered_int_ := by kernel_rfl

/- slices.heapSortOrdered[int] -/
def x_slices_heapSortOrdered_int_ : XFn := ⟨
    .seq
    (.ops [.op ⟨(some 11), (.mv (.t 1)), none⟩,
      .op ⟨(some 6), (.mv (.t 11)), none⟩])
    (.seq
    (.ops [.op ⟨(some 7), (.mv (.k (.raw (.int .i64 0)))), none⟩])
    (.seq
    (.ops [.op ⟨(some 12), (.mv (.t 2)), none⟩,
      .op ⟨(some 13), (.mv (.t 1)), none⟩,
      .op ⟨(some 14), (.bin .sub (.t 12) (.t 13)), none⟩,
      .op ⟨(some 8), (.mv (.t 14)), none⟩])
    (.seq
    (.seq
    (.ops [.op ⟨(some 15), (.mv (.t 8)), none⟩,
      .op ⟨(some 16), (.bin .sub (.t 15) (.k (.raw (.int .i64 1)))), none⟩,
      .op ⟨(some 17), (.bin .quo (.t 16) (.k (.raw (.int .i64 2)))), none⟩,
      .op ⟨(some 9), (.mv (.t 17)), none⟩])
    (.block 0
     (.loop
      (.seq
      (.seq
      (.ops [.op ⟨(some 18), (.mv (.t 9)), none⟩,
        .op ⟨(some 19), (.bin .geq (.t 18) (.k (.raw (.int .i64 0)))), none⟩])
      (.cond (.t 19)
       (.skip)
       (.exit 0)))
      (.seq
      (.block 1
       (.ops [.op ⟨(some 22), (.mv (.t 0)), none⟩,
         .op ⟨(some 23), (.mv (.t 9)), none⟩,
         .op ⟨(some 24), (.mv (.t 8)), none⟩,
         .op ⟨(some 25), (.mv (.t 6)), none⟩,
         .op ⟨(some 26), (.call f_slices_siftDownOrdered_int_ [(.t 22), (.t 23), (.t 24), (.t 25)]), none⟩]))
      (.ops [.op ⟨(some 20), (.mv (.t 9)), none⟩,
        .op ⟨(some 21), (.bin .sub (.t 20) (.k (.raw (.int .i64 1)))), none⟩,
        .op ⟨(some 9), (.mv (.t 21)), none⟩]))))))
    (.seq
    (.ops [.op ⟨(some 27), (.mv (.t 8)), none⟩,
      .op ⟨(some 28), (.bin .sub (.t 27) (.k (.raw (.int .i64 1)))), none⟩,
      .op ⟨(some 10), (.mv (.t 28)), none⟩])
    (.block 2
     (.loop
      (.seq
      (.seq
      (.ops [.op ⟨(some 29), (.mv (.t 10)), none⟩,
        .op ⟨(some 30), (.bin .geq (.t 29) (.k (.raw (.int .i64 0)))), none⟩])
      (.cond (.t 30)
       (.skip)
       (.exit 2)))
      (.seq
      (.block 3
       (.seq
       (.draw [⟨(some 33), (.mv (.t 0)), none⟩,
         ⟨(some 34), (.mv (.t 6)), none⟩,
         ⟨(some 35), (.mv (.t 0)), none⟩,
         ⟨(some 36), (.mv (.t 6)), none⟩,
         ⟨(some 37), (.mv (.t 10)), none⟩,
         ⟨(some 38), (.bin .add (.t 36) (.t 37)), none⟩,
         ⟨(some 39), (.mv (.t 0)), none⟩,
         ⟨(some 40), (.mv (.t 6)), none⟩,
         ⟨(some 41), (.mv (.t 10)), none⟩,
         ⟨(some 42), (.bin .add (.t 40) (.t 41)), none⟩,
         ⟨(some 43), (.idxAddr 1 (.t 39) (.t 42)), none⟩,
         ⟨(some 44), (.load none (.t 43)), none⟩,
         ⟨(some 45), (.mv (.t 0)), none⟩,
         ⟨(some 46), (.mv (.t 6)), none⟩,
         ⟨(some 47), (.idxAddr 1 (.t 45) (.t 46)), none⟩,
         ⟨(some 48), (.load none (.t 47)), none⟩,
         ⟨(some 49), (.idxAddr 1 (.t 33) (.t 34)), none⟩,
         ⟨none, (.store 1 (.t 49) (.t 44)), none⟩,
         ⟨(some 50), (.idxAddr 1 (.t 35) (.t 38)), none⟩,
         ⟨none, (.store 1 (.t 50) (.t 48)), none⟩]
         [[], [], [], [], [], [4, 3], [], [], [], [8, 7], [7, 8, 9, 6], [6, 9, 8, 7, 10], [], [], [13, 12], [12, 13, 14], [14, 13, 12, 15, 11, 10, 9, 8, 7, 6, 1, 0], [0, 1, 6, 7, 8, 9, 10, 11, 15, 12, 13, 14, 16], [17, 16, 15, 14, 13, 12, 11, 10, 9, 8, 7, 6, 1, 0, 3, 4, 5, 2], [2, 5, 4, 3, 0, 1, 6, 7, 8, 9, 10, 11, 12, 13, 14, 15, 16, 17, 18]]
         [.q 0, .q 1, .q 2, .q 3, .q 4, .q 5, .q 6, .q 7, .q 8, .q 9, .q 10, .q 11, .q 12, .q 13, .q 14, .q 15, .q 16, .eff 17, .q 18, .eff 19])
       (.ops [.op ⟨(some 51), (.mv (.t 0)), none⟩,
         .op ⟨(some 52), (.mv (.t 7)), none⟩,
         .op ⟨(some 53), (.mv (.t 10)), none⟩,
         .op ⟨(some 54), (.mv (.t 6)), none⟩,
         .op ⟨(some 55), (.call f_slices_siftDownOrdered_int_ [(.t 51), (.t 52), (.t 53), (.t 54)]), none⟩])))
      (.ops [.op ⟨(some 31), (.mv (.t 10)), none⟩,
        .op ⟨(some 32), (.bin .sub (.t 31) (.k (.raw (.int .i64 1)))), none⟩,
        .op ⟨(some 10), (.mv (.t 32)), none⟩]))))))))),
    [], 56⟩
theorem c_slices_heapSortOrdered_int_ : compFn Tryz.prog f_slices_heapSortOrdered_int_ = some x_slices_heapSortOrdered_int_ := by kernel_rfl

end Go.Ab
