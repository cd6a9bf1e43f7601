/- The code of some functions of the program, resolved, each checked against the program. -/
import Derived.Test.YtookmilggbnoiaaGreatT1F
import Derived.Test.YtookmilggbnoiaaGreatProg
import Derived.KernelRfl
import Derived.Test.YtookmilggbnoiaaGreatAbExec7
set_option linter.unusedSimpArgs false
set_option linter.unusedVariables false
open Go.Proofs
namespace Go.Ab
/- slices.breakPatternsOrdered[int] -/
def x_slices_breakPatternsOrdered_int_ : XFn := ⟨
    .seq
    (.ops [.op ⟨(some 11), (.mv (.t 2)), none⟩,
      .op ⟨(some 12), (.mv (.t 1)), none⟩,
      .op ⟨(some 13), (.bin .sub (.t 11) (.t 12)), none⟩,
      .op ⟨(some 6), (.mv (.t 13)), none⟩])
    (.seq
    (.ops [.op ⟨(some 14), (.mv (.t 6)), none⟩,
      .op ⟨(some 15), (.bin .geq (.t 14) (.k (.raw (.int .i64 8)))), none⟩])
    (.cond (.t 15)
     (.seq
     (.ops [.op ⟨(some 16), (.mv (.t 6)), none⟩,
       .op ⟨(some 17), (.conv .u64 (.t 16)), none⟩,
       .op ⟨(some 7), (.alloc [(.int .u64 0)]), none⟩,
       .op ⟨none, (.store 1 (.t 7) (.t 17)), none⟩])
     (.seq
     (.ops [.op ⟨(some 18), (.mv (.t 6)), none⟩,
       .op ⟨(some 19), (.call f_slices_nextPowerOfTwo [(.t 18)]), none⟩,
       .op ⟨(some 8), (.mv (.t 19)), none⟩])
     (.seq
     (.ops [.op ⟨(some 20), (.mv (.t 1)), none⟩,
       .op ⟨(some 21), (.mv (.t 6)), none⟩,
       .op ⟨(some 22), (.bin .quo (.t 21) (.k (.raw (.int .i64 4)))), none⟩,
       .op ⟨(some 23), (.bin .mul (.t 22) (.k (.raw (.int .i64 2)))), none⟩,
       .op ⟨(some 24), (.bin .add (.t 20) (.t 23)), none⟩,
       .op ⟨(some 25), (.bin .sub (.t 24) (.k (.raw (.int .i64 1)))), none⟩,
       .op ⟨(some 9), (.mv (.t 25)), none⟩])
     (.block 0
      (.loop
       (.seq
       (.seq
       (.ops [.op ⟨(some 26), (.mv (.t 9)), none⟩,
         .op ⟨(some 27), (.mv (.t 1)), none⟩,
         .op ⟨(some 28), (.mv (.t 6)), none⟩,
         .op ⟨(some 29), (.bin .quo (.t 28) (.k (.raw (.int .i64 4)))), none⟩,
         .op ⟨(some 30), (.bin .mul (.t 29) (.k (.raw (.int .i64 2)))), none⟩,
         .op ⟨(some 31), (.bin .add (.t 27) (.t 30)), none⟩,
         .op ⟨(some 32), (.bin .add (.t 31) (.k (.raw (.int .i64 1)))), none⟩,
         .op ⟨(some 33), (.bin .leq (.t 26) (.t 32)), none⟩])
       (.cond (.t 33)
        (.skip)
        (.exit 0)))
       (.seq
       (.block 1
        (.seq
        (.ops [.op ⟨(some 36), (.call f___slices_xorshift__Next [(.t 7)]), none⟩,
          .op ⟨(some 37), (.mv (.t 8)), none⟩,
          .op ⟨(some 38), (.bin .sub (.t 37) (.k (.raw (.int .u64 1)))), none⟩,
          .op ⟨(some 39), (.bin .and (.t 36) (.t 38)), none⟩,
          .op ⟨(some 40), (.conv .i64 (.t 39)), none⟩,
          .op ⟨(some 10), (.mv (.t 40)), none⟩])
        (.seq
        (.seq
        (.ops [.op ⟨(some 41), (.mv (.t 10)), none⟩,
          .op ⟨(some 42), (.mv (.t 6)), none⟩,
          .op ⟨(some 43), (.bin .geq (.t 41) (.t 42)), none⟩])
        (.cond (.t 43)
         (.ops [.op ⟨(some 44), (.mv (.t 10)), none⟩,
           .op ⟨(some 45), (.mv (.t 6)), none⟩,
           .op ⟨(some 46), (.bin .sub (.t 44) (.t 45)), none⟩,
           .op ⟨(some 10), (.mv (.t 46)), none⟩])
         (.skip)))
        (.draw [⟨(some 47), (.mv (.t 0)), none⟩,
          ⟨(some 48), (.mv (.t 9)), none⟩,
          ⟨(some 49), (.mv (.t 0)), none⟩,
          ⟨(some 50), (.mv (.t 1)), none⟩,
          ⟨(some 51), (.mv (.t 10)), none⟩,
          ⟨(some 52), (.bin .add (.t 50) (.t 51)), none⟩,
          ⟨(some 53), (.mv (.t 0)), none⟩,
          ⟨(some 54), (.mv (.t 1)), none⟩,
          ⟨(some 55), (.mv (.t 10)), none⟩,
          ⟨(some 56), (.bin .add (.t 54) (.t 55)), none⟩,
          ⟨(some 57), (.idxAddr 1 (.t 53) (.t 56)), none⟩,
          ⟨(some 58), (.load none (.t 57)), none⟩,
          ⟨(some 59), (.mv (.t 0)), none⟩,
          ⟨(some 60), (.mv (.t 9)), none⟩,
          ⟨(some 61), (.idxAddr 1 (.t 59) (.t 60)), none⟩,
          ⟨(some 62), (.load none (.t 61)), none⟩,
          ⟨(some 63), (.idxAddr 1 (.t 47) (.t 48)), none⟩,
          ⟨none, (.store 1 (.t 63) (.t 58)), none⟩,
          ⟨(some 64), (.idxAddr 1 (.t 49) (.t 52)), none⟩,
          ⟨none, (.store 1 (.t 64) (.t 62)), none⟩]
          [[], [], [], [], [], [4, 3], [], [], [], [8, 7], [7, 8, 9, 6], [6, 9, 8, 7, 10], [], [], [13, 12], [12, 13, 14], [14, 13, 12, 15, 11, 10, 9, 8, 7, 6, 1, 0], [0, 1, 6, 7, 8, 9, 10, 11, 15, 12, 13, 14, 16], [17, 16, 15, 14, 13, 12, 11, 10, 9, 8, 7, 6, 1, 0, 3, 4, 5, 2], [2, 5, 4, 3, 0, 1, 6, 7, 8, 9, 10, 11, 12, 13, 14, 15, 16, 17, 18]]
          [.q 0, .q 1, .q 2, .q 3, .q 4, .q 5, .q 6, .q 7, .q 8, .q 9, .q 10, .q 11, .q 12, .q 13, .q 14, .q 15, .q 16, .eff 17, .q 18, .eff 19]))))
       (.ops [.op ⟨(some 34), (.mv (.t 9)), none⟩,
         .op ⟨(some 35), (.bin .add (.t 34) (.k (.raw (.int .i64 1)))), none⟩,
         .op ⟨(some 9), (.mv (.t 35)), none⟩]))))))))
     (.skip))),
    [], 65⟩
theorem c_slices_breakPatternsOrdered_int_ : compFn Tryz.prog f_slices_breakPatternsOrdered_int_ = some x_slices_breakPatternsOrdered_int_ := by kernel_rfl

/- slices.choosePivotOrdered[int] -/
def x_slices_choosePivotOrdered_int_ : XFn := ⟨
    .seq
    (.ops [.op ⟨(some 6), (.mv (.k (.raw (.int .i64 0)))), none⟩,
      .op ⟨(some 7), (.mv (.k (.raw (.int .i64 0)))), none⟩])
    (.seq
    (.ops [.op ⟨(some 13), (.mv (.t 2)), none⟩,
      .op ⟨(some 14), (.mv (.t 1)), none⟩,
      .op ⟨(some 15), (.bin .sub (.t 13) (.t 14)), none⟩,
      .op ⟨(some 8), (.mv (.t 15)), none⟩])
    (.seq
    (.ops [.op ⟨(some 9), (.alloc [(.int .i64 0)]), none⟩])
    (.seq
    (.ops [.op ⟨(some 16), (.mv (.t 1)), none⟩,
      .op ⟨(some 17), (.mv (.t 8)), none⟩,
      .op ⟨(some 18), (.bin .quo (.t 17) (.k (.raw (.int .i64 4)))), none⟩,
      .op ⟨(some 19), (.bin .mul (.t 18) (.k (.raw (.int .i64 1)))), none⟩,
      .op ⟨(some 20), (.bin .add (.t 16) (.t 19)), none⟩,
      .op ⟨(some 10), (.mv (.t 20)), none⟩])
    (.seq
    (.ops [.op ⟨(some 21), (.mv (.t 1)), none⟩,
      .op ⟨(some 22), (.mv (.t 8)), none⟩,
      .op ⟨(some 23), (.bin .quo (.t 22) (.k (.raw (.int .i64 4)))), none⟩,
      .op ⟨(some 24), (.bin .mul (.t 23) (.k (.raw (.int .i64 2)))), none⟩,
      .op ⟨(some 25), (.bin .add (.t 21) (.t 24)), none⟩,
      .op ⟨(some 11), (.mv (.t 25)), none⟩])
    (.seq
    (.ops [.op ⟨(some 26), (.mv (.t 1)), none⟩,
      .op ⟨(some 27), (.mv (.t 8)), none⟩,
      .op ⟨(some 28), (.bin .quo (.t 27) (.k (.raw (.int .i64 4)))), none⟩,
      .op ⟨(some 29), (.bin .mul (.t 28) (.k (.raw (.int .i64 3)))), none⟩,
      .op ⟨(some 30), (.bin .add (.t 26) (.t 29)), none⟩,
      .op ⟨(some 12), (.mv (.t 30)), none⟩])
    (.seq
    (.seq
    (.ops [.op ⟨(some 31), (.mv (.t 8)), none⟩,
      .op ⟨(some 32), (.bin .geq (.t 31) (.k (.raw (.int .i64 8)))), none⟩])
    (.cond (.t 32)
     (.seq
     (.seq
     (.ops [.op ⟨(some 33), (.mv (.t 8)), none⟩,
       .op ⟨(some 34), (.bin .geq (.t 33) (.k (.raw (.int .i64 50)))), none⟩])
     (.cond (.t 34)
      (.seq
      (.ops [.op ⟨(some 35), (.mv (.t 0)), none⟩,
        .op ⟨(some 36), (.mv (.t 10)), none⟩,
        .op ⟨(some 37), (.call f_slices_medianAdjacentOrdered_int_ [(.t 35), (.t 36), (.t 9)]), none⟩,
        .op ⟨(some 10), (.mv (.t 37)), none⟩])
      (.seq
      (.ops [.op ⟨(some 38), (.mv (.t 0)), none⟩,
        .op ⟨(some 39), (.mv (.t 11)), none⟩,
        .op ⟨(some 40), (.call f_slices_medianAdjacentOrdered_int_ [(.t 38), (.t 39), (.t 9)]), none⟩,
        .op ⟨(some 11), (.mv (.t 40)), none⟩])
      (.ops [.op ⟨(some 41), (.mv (.t 0)), none⟩,
        .op ⟨(some 42), (.mv (.t 12)), none⟩,
        .op ⟨(some 43), (.call f_slices_medianAdjacentOrdered_int_ [(.t 41), (.t 42), (.t 9)]), none⟩,
        .op ⟨(some 12), (.mv (.t 43)), none⟩])))
      (.skip)))
     (.ops [.op ⟨(some 44), (.mv (.t 0)), none⟩,
       .op ⟨(some 45), (.mv (.t 10)), none⟩,
       .op ⟨(some 46), (.mv (.t 11)), none⟩,
       .op ⟨(some 47), (.mv (.t 12)), none⟩,
       .op ⟨(some 48), (.call f_slices_medianOrdered_int_ [(.t 44), (.t 45), (.t 46), (.t 47), (.t 9)]), none⟩,
       .op ⟨(some 11), (.mv (.t 48)), none⟩]))
     (.skip)))
    (.seq
    (.ops [.op ⟨(some 49), (.load none (.t 9)), none⟩])
    (.block 0
     (.seq
     (.ops [.op ⟨(some 52), (.bin .eql (.t 49) (.k (.raw (.int .i64 0)))), none⟩,
       .op ⟨(some 51), (.mv (.t 52)), none⟩])
     (.cond (.t 51)
      (.seq
      (.ops [.op ⟨(some 53), (.mv (.t 11)), none⟩,
        .op ⟨(some 6), (.mv (.t 53)), none⟩,
        .op ⟨(some 7), (.mv (.k (.raw (.int .i64 1)))), none⟩])
      (.ret))
      (.seq
      (.ops [.op ⟨(some 55), (.bin .eql (.t 49) (.k (.raw (.int .i64 12)))), none⟩,
        .op ⟨(some 54), (.mv (.t 55)), none⟩])
      (.cond (.t 54)
       (.seq
       (.ops [.op ⟨(some 56), (.mv (.t 11)), none⟩,
         .op ⟨(some 6), (.mv (.t 56)), none⟩,
         .op ⟨(some 7), (.mv (.k (.raw (.int .i64 2)))), none⟩])
       (.ret))
       (.seq
       (.ops [.op ⟨(some 50), (.mv (.t 11)), none⟩,
         .op ⟨(some 6), (.mv (.t 50)), none⟩,
         .op ⟨(some 7), (.mv (.k (.raw (.int .i64 0)))), none⟩])
       (.ret)))))))))))))),
    [.tmp 6, .tmp 7], 57⟩
theorem c_slices_choosePivotOrdered_int_ : compFn Tryz.prog f_slices_choosePivotOrdered_int_ = some x_slices_choosePivotOrdered_int_ := by kernel_rfl

/- slices.reverseRangeOrdered[int] -/
def x_slices_reverseRangeOrdered_int_ : XFn := ⟨
    .seq
    (.ops [.op ⟨(some 8), (.mv (.t 1)), none⟩,
      .op ⟨(some 6), (.mv (.t 8)), none⟩])
    (.seq
    (.ops [.op ⟨(some 9), (.mv (.t 2)), none⟩,
      .op ⟨(some 10), (.bin .sub (.t 9) (.k (.raw (.int .i64 1)))), none⟩,
      .op ⟨(some 7), (.mv (.t 10)), none⟩])
    (.block 0
     (.loop
      (.seq
      (.seq
      (.ops [.op ⟨(some 11), (.mv (.t 6)), none⟩,
        .op ⟨(some 12), (.mv (.t 7)), none⟩,
        .op ⟨(some 13), (.bin .lss (.t 11) (.t 12)), none⟩])
      (.cond (.t 13)
       (.skip)
       (.exit 0)))
      (.block 1
       (.seq
       (.draw [⟨(some 14), (.mv (.t 0)), none⟩,
         ⟨(some 15), (.mv (.t 6)), none⟩,
         ⟨(some 16), (.mv (.t 0)), none⟩,
         ⟨(some 17), (.mv (.t 7)), none⟩,
         ⟨(some 18), (.mv (.t 0)), none⟩,
         ⟨(some 19), (.mv (.t 7)), none⟩,
         ⟨(some 20), (.idxAddr 1 (.t 18) (.t 19)), none⟩,
         ⟨(some 21), (.load none (.t 20)), none⟩,
         ⟨(some 22), (.mv (.t 0)), none⟩,
         ⟨(some 23), (.mv (.t 6)), none⟩,
         ⟨(some 24), (.idxAddr 1 (.t 22) (.t 23)), none⟩,
         ⟨(some 25), (.load none (.t 24)), none⟩,
         ⟨(some 26), (.idxAddr 1 (.t 14) (.t 15)), none⟩,
         ⟨none, (.store 1 (.t 26) (.t 21)), none⟩,
         ⟨(some 27), (.idxAddr 1 (.t 16) (.t 17)), none⟩,
         ⟨none, (.store 1 (.t 27) (.t 25)), none⟩]
         [[], [], [], [], [], [], [5, 4], [4, 5, 6], [], [], [9, 8], [8, 9, 10], [10, 9, 8, 11, 7, 6, 5, 4, 1, 0], [0, 1, 4, 5, 6, 7, 11, 8, 9, 10, 12], [13, 12, 11, 10, 9, 8, 7, 6, 5, 4, 1, 0, 3, 2], [2, 3, 0, 1, 4, 5, 6, 7, 8, 9, 10, 11, 12, 13, 14]]
         [.q 0, .q 1, .q 2, .q 3, .q 4, .q 5, .q 6, .q 7, .q 8, .q 9, .q 10, .q 11, .q 12, .eff 13, .q 14, .eff 15])
       (.seq
       (.ops [.op ⟨(some 28), (.mv (.t 6)), none⟩,
         .op ⟨(some 29), (.bin .add (.t 28) (.k (.raw (.int .i64 1)))), none⟩,
         .op ⟨(some 6), (.mv (.t 29)), none⟩])
       (.ops [.op ⟨(some 30), (.mv (.t 7)), none⟩,
         .op ⟨(some 31), (.bin .sub (.t 30) (.k (.raw (.int .i64 1)))), none⟩,
         .op ⟨(some 7), (.mv (.t 31)), none⟩])))))))),
    [], 32⟩
theorem c_slices_reverseRangeOrdered_int_ : compFn Tryz.prog f_slices_reverseRangeOrdered_int_ = some x_slices_reverseRangeOrdered_int_ := by kernel_rfl

/- slices.partialInsertionSortOrdered[int] -/
def x_slices_partialInsertionSortOrdered_int_ : XFn := ⟨
    .seq
    (.ops [.op ⟨(some 6), (.mv (.k (.raw (.bool false)))), none⟩])
    (.seq
    (.ops [.op ⟨(some 11), (.mv (.t 1)), none⟩,
      .op ⟨(some 12), (.bin .add (.t 11) (.k (.raw (.int .i64 1)))), none⟩,
      .op ⟨(some 7), (.mv (.t 12)), none⟩])
    (.seq
    (.seq
    (.ops [.op ⟨(some 8), (.mv (.k (.raw (.int .i64 0)))), none⟩])
    (.block 0
     (.loop
      (.seq
      (.seq
      (.ops [.op ⟨(some 13), (.mv (.t 8)), none⟩,
        .op ⟨(some 14), (.bin .lss (.t 13) (.k (.raw (.int .i64 5)))), none⟩])
      (.cond (.t 14)
       (.skip)
       (.exit 0)))
      (.seq
      (.block 1
       (.seq
       (.block 2
        (.loop
         (.seq
         (.seq
         (.draw [⟨(some 17), (.mv (.t 7)), none⟩,
           ⟨(some 18), (.mv (.t 2)), none⟩,
           ⟨(some 19), (.bin .lss (.t 17) (.t 18)), none⟩,
           ⟨(some 20), (.mv (.t 19)), none⟩,
           ⟨(some 21), (.mv (.t 0)), (some (20, true))⟩,
           ⟨(some 22), (.mv (.t 7)), (some (20, true))⟩,
           ⟨(some 23), (.idxAddr 1 (.t 21) (.t 22)), (some (20, true))⟩,
           ⟨(some 24), (.load none (.t 23)), (some (20, true))⟩,
           ⟨(some 25), (.mv (.t 0)), (some (20, true))⟩,
           ⟨(some 26), (.mv (.t 7)), (some (20, true))⟩,
           ⟨(some 27), (.bin .sub (.t 26) (.k (.raw (.int .i64 1)))), (some (20, true))⟩,
           ⟨(some 28), (.idxAddr 1 (.t 25) (.t 27)), (some (20, true))⟩,
           ⟨(some 29), (.load none (.t 28)), (some (20, true))⟩,
           ⟨(some 30), (.call f_cmp_Less_int_ [(.t 24), (.t 29)]), (some (20, true))⟩,
           ⟨(some 31), (.un .not (.t 30)), (some (20, true))⟩,
           ⟨(some 32), (.pick (.t 20) (.t 31) (.k (.raw (.bool false)))), none⟩]
           [[], [], [1, 0], [0, 1, 2], [2, 1, 0, 3], [2, 1, 0, 3], [5, 3, 0, 1, 2, 4], [4, 2, 1, 0, 3, 5, 6], [2, 1, 0, 3], [2, 1, 0, 3], [3, 0, 1, 2, 9], [9, 10, 3, 0, 1, 2, 8], [8, 2, 1, 0, 3, 10, 9, 11], [11, 9, 10, 8, 12, 6, 5, 3, 0, 1, 2, 4, 7], [7, 4, 2, 1, 0, 3, 5, 6, 12, 8, 10, 9, 11, 13], [13, 11, 9, 10, 8, 12, 6, 5, 4, 7, 14, 2, 1, 0, 3]]
           [.q 0, .q 1, .q 2, .q 3, .split 20, .q 4, .q 5, .q 6, .q 7, .q 8, .q 9, .q 10, .q 11, .q 12, .eff 13, .q 14, .q 15])
         (.cond (.t 32)
          (.skip)
          (.exit 2)))
         (.block 3
          (.ops [.op ⟨(some 33), (.mv (.t 7)), none⟩,
            .op ⟨(some 34), (.bin .add (.t 33) (.k (.raw (.int .i64 1)))), none⟩,
            .op ⟨(some 7), (.mv (.t 34)), none⟩])))))
       (.seq
       (.seq
       (.ops [.op ⟨(some 35), (.mv (.t 7)), none⟩,
         .op ⟨(some 36), (.mv (.t 2)), none⟩,
         .op ⟨(some 37), (.bin .eql (.t 35) (.t 36)), none⟩])
       (.cond (.t 37)
        (.seq
        (.ops [.op ⟨(some 6), (.mv (.k (.raw (.bool true)))), none⟩])
        (.ret))
        (.skip)))
       (.seq
       (.seq
       (.ops [.op ⟨(some 38), (.mv (.t 2)), none⟩,
         .op ⟨(some 39), (.mv (.t 1)), none⟩,
         .op ⟨(some 40), (.bin .sub (.t 38) (.t 39)), none⟩,
         .op ⟨(some 41), (.bin .lss (.t 40) (.k (.raw (.int .i64 50)))), none⟩])
       (.cond (.t 41)
        (.seq
        (.ops [.op ⟨(some 6), (.mv (.k (.raw (.bool false)))), none⟩])
        (.ret))
        (.skip)))
       (.seq
       (.draw [⟨(some 42), (.mv (.t 0)), none⟩,
         ⟨(some 43), (.mv (.t 7)), none⟩,
         ⟨(some 44), (.mv (.t 0)), none⟩,
         ⟨(some 45), (.mv (.t 7)), none⟩,
         ⟨(some 46), (.bin .sub (.t 45) (.k (.raw (.int .i64 1)))), none⟩,
         ⟨(some 47), (.mv (.t 0)), none⟩,
         ⟨(some 48), (.mv (.t 7)), none⟩,
         ⟨(some 49), (.bin .sub (.t 48) (.k (.raw (.int .i64 1)))), none⟩,
         ⟨(some 50), (.idxAddr 1 (.t 47) (.t 49)), none⟩,
         ⟨(some 51), (.load none (.t 50)), none⟩,
         ⟨(some 52), (.mv (.t 0)), none⟩,
         ⟨(some 53), (.mv (.t 7)), none⟩,
         ⟨(some 54), (.idxAddr 1 (.t 52) (.t 53)), none⟩,
         ⟨(some 55), (.load none (.t 54)), none⟩,
         ⟨(some 56), (.idxAddr 1 (.t 42) (.t 43)), none⟩,
         ⟨none, (.store 1 (.t 56) (.t 51)), none⟩,
         ⟨(some 57), (.idxAddr 1 (.t 44) (.t 46)), none⟩,
         ⟨none, (.store 1 (.t 57) (.t 55)), none⟩]
         [[], [], [], [], [3], [], [], [6], [6, 7, 5], [5, 7, 6, 8], [], [], [11, 10], [10, 11, 12], [12, 11, 10, 13, 9, 8, 7, 6, 5, 1, 0], [0, 1, 5, 6, 7, 8, 9, 13, 10, 11, 12, 14], [15, 14, 13, 12, 11, 10, 9, 8, 7, 6, 5, 1, 0, 3, 4, 2], [2, 4, 3, 0, 1, 5, 6, 7, 8, 9, 10, 11, 12, 13, 14, 15, 16]]
         [.q 0, .q 1, .q 2, .q 3, .q 4, .q 5, .q 6, .q 7, .q 8, .q 9, .q 10, .q 11, .q 12, .q 13, .q 14, .eff 15, .q 16, .eff 17])
       (.seq
       (.seq
       (.ops [.op ⟨(some 58), (.mv (.t 7)), none⟩,
         .op ⟨(some 59), (.mv (.t 1)), none⟩,
         .op ⟨(some 60), (.bin .sub (.t 58) (.t 59)), none⟩,
         .op ⟨(some 61), (.bin .geq (.t 60) (.k (.raw (.int .i64 2)))), none⟩])
       (.cond (.t 61)
        (.seq
        (.ops [.op ⟨(some 62), (.mv (.t 7)), none⟩,
          .op ⟨(some 63), (.bin .sub (.t 62) (.k (.raw (.int .i64 1)))), none⟩,
          .op ⟨(some 9), (.mv (.t 63)), none⟩])
        (.block 4
         (.loop
          (.seq
          (.seq
          (.ops [.op ⟨(some 64), (.mv (.t 9)), none⟩,
            .op ⟨(some 65), (.bin .geq (.t 64) (.k (.raw (.int .i64 1)))), none⟩])
          (.cond (.t 65)
           (.skip)
           (.exit 4)))
          (.seq
          (.block 5
           (.seq
           (.seq
           (.draw [⟨(some 68), (.mv (.t 0)), none⟩,
             ⟨(some 69), (.mv (.t 9)), none⟩,
             ⟨(some 70), (.idxAddr 1 (.t 68) (.t 69)), none⟩,
             ⟨(some 71), (.load none (.t 70)), none⟩,
             ⟨(some 72), (.mv (.t 0)), none⟩,
             ⟨(some 73), (.mv (.t 9)), none⟩,
             ⟨(some 74), (.bin .sub (.t 73) (.k (.raw (.int .i64 1)))), none⟩,
             ⟨(some 75), (.idxAddr 1 (.t 72) (.t 74)), none⟩,
             ⟨(some 76), (.load none (.t 75)), none⟩,
             ⟨(some 77), (.call f_cmp_Less_int_ [(.t 71), (.t 76)]), none⟩,
             ⟨(some 78), (.un .not (.t 77)), none⟩]
             [[], [], [1, 0], [0, 1, 2], [], [], [5], [5, 6, 4], [4, 6, 5, 7], [7, 5, 6, 4, 8, 2, 1, 0, 3], [3, 0, 1, 2, 8, 4, 6, 5, 7, 9]]
             [.q 0, .q 1, .q 2, .q 3, .q 4, .q 5, .q 6, .q 7, .q 8, .eff 9, .q 10])
           (.cond (.t 78)
            (.exit 4)
            (.skip)))
           (.draw [⟨(some 79), (.mv (.t 0)), none⟩,
             ⟨(some 80), (.mv (.t 9)), none⟩,
             ⟨(some 81), (.mv (.t 0)), none⟩,
             ⟨(some 82), (.mv (.t 9)), none⟩,
             ⟨(some 83), (.bin .sub (.t 82) (.k (.raw (.int .i64 1)))), none⟩,
             ⟨(some 84), (.mv (.t 0)), none⟩,
             ⟨(some 85), (.mv (.t 9)), none⟩,
             ⟨(some 86), (.bin .sub (.t 85) (.k (.raw (.int .i64 1)))), none⟩,
             ⟨(some 87), (.idxAddr 1 (.t 84) (.t 86)), none⟩,
             ⟨(some 88), (.load none (.t 87)), none⟩,
             ⟨(some 89), (.mv (.t 0)), none⟩,
             ⟨(some 90), (.mv (.t 9)), none⟩,
             ⟨(some 91), (.idxAddr 1 (.t 89) (.t 90)), none⟩,
             ⟨(some 92), (.load none (.t 91)), none⟩,
             ⟨(some 93), (.idxAddr 1 (.t 79) (.t 80)), none⟩,
             ⟨none, (.store 1 (.t 93) (.t 88)), none⟩,
             ⟨(some 94), (.idxAddr 1 (.t 81) (.t 83)), none⟩,
             ⟨none, (.store 1 (.t 94) (.t 92)), none⟩]
             [[], [], [], [], [3], [], [], [6], [6, 7, 5], [5, 7, 6, 8], [], [], [11, 10], [10, 11, 12], [12, 11, 10, 13, 9, 8, 7, 6, 5, 1, 0], [0, 1, 5, 6, 7, 8, 9, 13, 10, 11, 12, 14], [15, 14, 13, 12, 11, 10, 9, 8, 7, 6, 5, 1, 0, 3, 4, 2], [2, 4, 3, 0, 1, 5, 6, 7, 8, 9, 10, 11, 12, 13, 14, 15, 16]]
             [.q 0, .q 1, .q 2, .q 3, .q 4, .q 5, .q 6, .q 7, .q 8, .q 9, .q 10, .q 11, .q 12, .q 13, .q 14, .eff 15, .q 16, .eff 17])))
          (.ops [.op ⟨(some 66), (.mv (.t 9)), none⟩,
            .op ⟨(some 67), (.bin .sub (.t 66) (.k (.raw (.int .i64 1)))), none⟩,
            .op ⟨(some 9), (.mv (.t 67)), none⟩]))))))
        (.skip)))
       (.seq
       (.ops [.op ⟨(some 95), (.mv (.t 2)), none⟩,
         .op ⟨(some 96), (.mv (.t 7)), none⟩,
         .op ⟨(some 97), (.bin .sub (.t 95) (.t 96)), none⟩,
         .op ⟨(some 98), (.bin .geq (.t 97) (.k (.raw (.int .i64 2)))), none⟩])
       (.cond (.t 98)
        (.seq
        (.ops [.op ⟨(some 99), (.mv (.t 7)), none⟩,
          .op ⟨(some 100), (.bin .add (.t 99) (.k (.raw (.int .i64 1)))), none⟩,
          .op ⟨(some 10), (.mv (.t 100)), none⟩])
        (.block 6
         (.loop
          (.seq
          (.seq
          (.ops [.op ⟨(some 101), (.mv (.t 10)), none⟩,
            .op ⟨(some 102), (.mv (.t 2)), none⟩,
            .op ⟨(some 103), (.bin .lss (.t 101) (.t 102)), none⟩])
          (.cond (.t 103)
           (.skip)
           (.exit 6)))
          (.seq
          (.block 7
           (.seq
           (.seq
           (.draw [⟨(some 106), (.mv (.t 0)), none⟩,
             ⟨(some 107), (.mv (.t 10)), none⟩,
             ⟨(some 108), (.idxAddr 1 (.t 106) (.t 107)), none⟩,
             ⟨(some 109), (.load none (.t 108)), none⟩,
             ⟨(some 110), (.mv (.t 0)), none⟩,
             ⟨(some 111), (.mv (.t 10)), none⟩,
             ⟨(some 112), (.bin .sub (.t 111) (.k (.raw (.int .i64 1)))), none⟩,
             ⟨(some 113), (.idxAddr 1 (.t 110) (.t 112)), none⟩,
             ⟨(some 114), (.load none (.t 113)), none⟩,
             ⟨(some 115), (.call f_cmp_Less_int_ [(.t 109), (.t 114)]), none⟩,
             ⟨(some 116), (.un .not (.t 115)), none⟩]
             [[], [], [1, 0], [0, 1, 2], [], [], [5], [5, 6, 4], [4, 6, 5, 7], [7, 5, 6, 4, 8, 2, 1, 0, 3], [3, 0, 1, 2, 8, 4, 6, 5, 7, 9]]
             [.q 0, .q 1, .q 2, .q 3, .q 4, .q 5, .q 6, .q 7, .q 8, .eff 9, .q 10])
           (.cond (.t 116)
            (.exit 6)
            (.skip)))
           (.draw [⟨(some 117), (.mv (.t 0)), none⟩,
             ⟨(some 118), (.mv (.t 10)), none⟩,
             ⟨(some 119), (.mv (.t 0)), none⟩,
             ⟨(some 120), (.mv (.t 10)), none⟩,
             ⟨(some 121), (.bin .sub (.t 120) (.k (.raw (.int .i64 1)))), none⟩,
             ⟨(some 122), (.mv (.t 0)), none⟩,
             ⟨(some 123), (.mv (.t 10)), none⟩,
             ⟨(some 124), (.bin .sub (.t 123) (.k (.raw (.int .i64 1)))), none⟩,
             ⟨(some 125), (.idxAddr 1 (.t 122) (.t 124)), none⟩,
             ⟨(some 126), (.load none (.t 125)), none⟩,
             ⟨(some 127), (.mv (.t 0)), none⟩,
             ⟨(some 128), (.mv (.t 10)), none⟩,
             ⟨(some 129), (.idxAddr 1 (.t 127) (.t 128)), none⟩,
             ⟨(some 130), (.load none (.t 129)), none⟩,
             ⟨(some 131), (.idxAddr 1 (.t 117) (.t 118)), none⟩,
             ⟨none, (.store 1 (.t 131) (.t 126)), none⟩,
             ⟨(some 132), (.idxAddr 1 (.t 119) (.t 121)), none⟩,
             ⟨none, (.store 1 (.t 132) (.t 130)), none⟩]
             [[], [], [], [], [3], [], [], [6], [6, 7, 5], [5, 7, 6, 8], [], [], [11, 10], [10, 11, 12], [12, 11, 10, 13, 9, 8, 7, 6, 5, 1, 0], [0, 1, 5, 6, 7, 8, 9, 13, 10, 11, 12, 14], [15, 14, 13, 12, 11, 10, 9, 8, 7, 6, 5, 1, 0, 3, 4, 2], [2, 4, 3, 0, 1, 5, 6, 7, 8, 9, 10, 11, 12, 13, 14, 15, 16]]
             [.q 0, .q 1, .q 2, .q 3, .q 4, .q 5, .q 6, .q 7, .q 8, .q 9, .q 10, .q 11, .q 12, .q 13, .q 14, .eff 15, .q 16, .eff 17])))
          (.ops [.op ⟨(some 104), (.mv (.t 10)), none⟩,
            .op ⟨(some 105), (.bin .add (.t 104) (.k (.raw (.int .i64 1)))), none⟩,
            .op ⟨(some 10), (.mv (.t 105)), none⟩]))))))
        (.skip)))))))))
      (.ops [.op ⟨(some 15), (.mv (.t 8)), none⟩,
        .op ⟨(some 16), (.bin .add (.t 15) (.k (.raw (.int .i64 1)))), none⟩,
        .op ⟨(some 8), (.mv (.t 16)), none⟩]))))))
    (.seq
    (.ops [.op ⟨(some 6), (.mv (.k (.raw (.bool false)))), none⟩])
    (.ret)))),
    [.tmp 6], 133⟩
theorem c_slices_partialInsertionSortOrdered_int_ : compFn Tryz.prog f_slices_partialInsertionSortOrdered_int_ = some x_slices_partialInsertionSortOrdered_int_ := by kernel_rfl

/- cmp.Less[int] -/
def x_cmp_Less_int_ : XFn := ⟨
    .seq
    (.ops [.op ⟨(some 4), (.mv (.k (.raw (.bool false)))), none⟩])
    (.seq
    (.ops [.op ⟨(some 5), (.mv (.t 0)), none⟩,
      .op ⟨(some 6), (.call f_cmp_isNaN_int_ [(.t 5)]), none⟩,
      .op ⟨(some 7), (.mv (.t 6)), none⟩,
      .split 7,
      .op ⟨(some 8), (.mv (.t 1)), (some (7, true))⟩,
      .op ⟨(some 9), (.call f_cmp_isNaN_int_ [(.t 8)]), (some (7, true))⟩,
      .op ⟨(some 10), (.un .not (.t 9)), (some (7, true))⟩,
      .op ⟨(some 11), (.pick (.t 7) (.t 10) (.k (.raw (.bool false)))), none⟩,
      .op ⟨(some 12), (.mv (.t 11)), none⟩,
      .split 12,
      .op ⟨(some 13), (.mv (.t 0)), (some (12, false))⟩,
      .op ⟨(some 14), (.mv (.t 1)), (some (12, false))⟩,
      .op ⟨(some 15), (.bin .lss (.t 13) (.t 14)), (some (12, false))⟩,
      .op ⟨(some 16), (.pick (.t 12) (.k (.raw (.bool true))) (.t 15)), none⟩,
      .op ⟨(some 4), (.mv (.t 16)), none⟩])
    (.ret)),
    [.tmp 4], 17⟩
theorem c_cmp_Less_int_ : compFn Tryz.prog f_cmp_Less_int_ = some x_cmp_Less_int_ := by kernel_rfl

/- slices.partitionEqualOrdered[int] -/
def x_slices_partitionEqualOrdered_int_ : XFn := ⟨
    .seq
    (.ops [.op ⟨(some 8), (.mv (.k (.raw (.int .i64 0)))), none⟩])
    (.seq
    (.draw [⟨(some 11), (.mv (.t 0)), none⟩,
      ⟨(some 12), (.mv (.t 1)), none⟩,
      ⟨(some 13), (.mv (.t 0)), none⟩,
      ⟨(some 14), (.mv (.t 3)), none⟩,
      ⟨(some 15), (.mv (.t 0)), none⟩,
      ⟨(some 16), (.mv (.t 3)), none⟩,
      ⟨(some 17), (.idxAddr 1 (.t 15) (.t 16)), none⟩,
      ⟨(some 18), (.load none (.t 17)), none⟩,
      ⟨(some 19), (.mv (.t 0)), none⟩,
      ⟨(some 20), (.mv (.t 1)), none⟩,
      ⟨(some 21), (.idxAddr 1 (.t 19) (.t 20)), none⟩,
      ⟨(some 22), (.load none (.t 21)), none⟩,
      ⟨(some 23), (.idxAddr 1 (.t 11) (.t 12)), none⟩,
      ⟨none, (.store 1 (.t 23) (.t 18)), none⟩,
      ⟨(some 24), (.idxAddr 1 (.t 13) (.t 14)), none⟩,
      ⟨none, (.store 1 (.t 24) (.t 22)), none⟩]
      [[], [], [], [], [], [], [5, 4], [4, 5, 6], [], [], [9, 8], [8, 9, 10], [10, 9, 8, 11, 7, 6, 5, 4, 1, 0], [0, 1, 4, 5, 6, 7, 11, 8, 9, 10, 12], [13, 12, 11, 10, 9, 8, 7, 6, 5, 4, 1, 0, 3, 2], [2, 3, 0, 1, 4, 5, 6, 7, 8, 9, 10, 11, 12, 13, 14]]
      [.q 0, .q 1, .q 2, .q 3, .q 4, .q 5, .q 6, .q 7, .q 8, .q 9, .q 10, .q 11, .q 12, .eff 13, .q 14, .eff 15])
    (.seq
    (.ops [.op ⟨(some 25), (.mv (.t 1)), none⟩,
      .op ⟨(some 26), (.bin .add (.t 25) (.k (.raw (.int .i64 1)))), none⟩,
      .op ⟨(some 27), (.mv (.t 2)), none⟩,
      .op ⟨(some 28), (.bin .sub (.t 27) (.k (.raw (.int .i64 1)))), none⟩,
      .op ⟨(some 9), (.mv (.t 26)), none⟩,
      .op ⟨(some 10), (.mv (.t 28)), none⟩])
    (.seq
    (.block 0
     (.loop
      (.block 1
       (.seq
       (.block 2
        (.loop
         (.seq
         (.seq
         (.draw [⟨(some 29), (.mv (.t 9)), none⟩,
           ⟨(some 30), (.mv (.t 10)), none⟩,
           ⟨(some 31), (.bin .leq (.t 29) (.t 30)), none⟩,
           ⟨(some 32), (.mv (.t 31)), none⟩,
           ⟨(some 33), (.mv (.t 0)), (some (32, true))⟩,
           ⟨(some 34), (.mv (.t 1)), (some (32, true))⟩,
           ⟨(some 35), (.idxAddr 1 (.t 33) (.t 34)), (some (32, true))⟩,
           ⟨(some 36), (.load none (.t 35)), (some (32, true))⟩,
           ⟨(some 37), (.mv (.t 0)), (some (32, true))⟩,
           ⟨(some 38), (.mv (.t 9)), (some (32, true))⟩,
           ⟨(some 39), (.idxAddr 1 (.t 37) (.t 38)), (some (32, true))⟩,
           ⟨(some 40), (.load none (.t 39)), (some (32, true))⟩,
           ⟨(some 41), (.call f_cmp_Less_int_ [(.t 36), (.t 40)]), (some (32, true))⟩,
           ⟨(some 42), (.un .not (.t 41)), (some (32, true))⟩,
           ⟨(some 43), (.pick (.t 32) (.t 42) (.k (.raw (.bool false)))), none⟩]
           [[], [], [1, 0], [0, 1, 2], [2, 1, 0, 3], [2, 1, 0, 3], [5, 3, 0, 1, 2, 4], [4, 2, 1, 0, 3, 5, 6], [2, 1, 0, 3], [2, 1, 0, 3], [9, 3, 0, 1, 2, 8], [8, 2, 1, 0, 3, 9, 10], [10, 9, 8, 11, 6, 5, 3, 0, 1, 2, 4, 7], [7, 4, 2, 1, 0, 3, 5, 6, 11, 8, 9, 10, 12], [12, 10, 9, 8, 11, 6, 5, 4, 7, 13, 2, 1, 0, 3]]
           [.q 0, .q 1, .q 2, .q 3, .split 32, .q 4, .q 5, .q 6, .q 7, .q 8, .q 9, .q 10, .q 11, .eff 12, .q 13, .q 14])
         (.cond (.t 43)
          (.skip)
          (.exit 2)))
         (.block 3
          (.ops [.op ⟨(some 44), (.mv (.t 9)), none⟩,
            .op ⟨(some 45), (.bin .add (.t 44) (.k (.raw (.int .i64 1)))), none⟩,
            .op ⟨(some 9), (.mv (.t 45)), none⟩])))))
       (.seq
       (.block 4
        (.loop
         (.seq
         (.seq
         (.draw [⟨(some 46), (.mv (.t 9)), none⟩,
           ⟨(some 47), (.mv (.t 10)), none⟩,
           ⟨(some 48), (.bin .leq (.t 46) (.t 47)), none⟩,
           ⟨(some 49), (.mv (.t 48)), none⟩,
           ⟨(some 50), (.mv (.t 0)), (some (49, true))⟩,
           ⟨(some 51), (.mv (.t 1)), (some (49, true))⟩,
           ⟨(some 52), (.idxAddr 1 (.t 50) (.t 51)), (some (49, true))⟩,
           ⟨(some 53), (.load none (.t 52)), (some (49, true))⟩,
           ⟨(some 54), (.mv (.t 0)), (some (49, true))⟩,
           ⟨(some 55), (.mv (.t 10)), (some (49, true))⟩,
           ⟨(some 56), (.idxAddr 1 (.t 54) (.t 55)), (some (49, true))⟩,
           ⟨(some 57), (.load none (.t 56)), (some (49, true))⟩,
           ⟨(some 58), (.call f_cmp_Less_int_ [(.t 53), (.t 57)]), (some (49, true))⟩,
           ⟨(some 59), (.pick (.t 49) (.t 58) (.k (.raw (.bool false)))), none⟩]
           [[], [], [1, 0], [0, 1, 2], [2, 1, 0, 3], [2, 1, 0, 3], [5, 3, 0, 1, 2, 4], [4, 2, 1, 0, 3, 5, 6], [2, 1, 0, 3], [2, 1, 0, 3], [9, 3, 0, 1, 2, 8], [8, 2, 1, 0, 3, 9, 10], [10, 9, 8, 11, 6, 5, 3, 0, 1, 2, 4, 7], [7, 4, 5, 6, 11, 8, 9, 10, 12, 2, 1, 0, 3]]
           [.q 0, .q 1, .q 2, .q 3, .split 49, .q 4, .q 5, .q 6, .q 7, .q 8, .q 9, .q 10, .q 11, .eff 12, .q 13])
         (.cond (.t 59)
          (.skip)
          (.exit 4)))
         (.block 5
          (.ops [.op ⟨(some 60), (.mv (.t 10)), none⟩,
            .op ⟨(some 61), (.bin .sub (.t 60) (.k (.raw (.int .i64 1)))), none⟩,
            .op ⟨(some 10), (.mv (.t 61)), none⟩])))))
       (.seq
       (.seq
       (.ops [.op ⟨(some 62), (.mv (.t 9)), none⟩,
         .op ⟨(some 63), (.mv (.t 10)), none⟩,
         .op ⟨(some 64), (.bin .gtr (.t 62) (.t 63)), none⟩])
       (.cond (.t 64)
        (.exit 0)
        (.skip)))
       (.seq
       (.draw [⟨(some 65), (.mv (.t 0)), none⟩,
         ⟨(some 66), (.mv (.t 9)), none⟩,
         ⟨(some 67), (.mv (.t 0)), none⟩,
         ⟨(some 68), (.mv (.t 10)), none⟩,
         ⟨(some 69), (.mv (.t 0)), none⟩,
         ⟨(some 70), (.mv (.t 10)), none⟩,
         ⟨(some 71), (.idxAddr 1 (.t 69) (.t 70)), none⟩,
         ⟨(some 72), (.load none (.t 71)), none⟩,
         ⟨(some 73), (.mv (.t 0)), none⟩,
         ⟨(some 74), (.mv (.t 9)), none⟩,
         ⟨(some 75), (.idxAddr 1 (.t 73) (.t 74)), none⟩,
         ⟨(some 76), (.load none (.t 75)), none⟩,
         ⟨(some 77), (.idxAddr 1 (.t 65) (.t 66)), none⟩,
         ⟨none, (.store 1 (.t 77) (.t 72)), none⟩,
         ⟨(some 78), (.idxAddr 1 (.t 67) (.t 68)), none⟩,
         ⟨none, (.store 1 (.t 78) (.t 76)), none⟩]
         [[], [], [], [], [], [], [5, 4], [4, 5, 6], [], [], [9, 8], [8, 9, 10], [10, 9, 8, 11, 7, 6, 5, 4, 1, 0], [0, 1, 4, 5, 6, 7, 11, 8, 9, 10, 12], [13, 12, 11, 10, 9, 8, 7, 6, 5, 4, 1, 0, 3, 2], [2, 3, 0, 1, 4, 5, 6, 7, 8, 9, 10, 11, 12, 13, 14]]
         [.q 0, .q 1, .q 2, .q 3, .q 4, .q 5, .q 6, .q 7, .q 8, .q 9, .q 10, .q 11, .q 12, .eff 13, .q 14, .eff 15])
       (.seq
       (.ops [.op ⟨(some 79), (.mv (.t 9)), none⟩,
         .op ⟨(some 80), (.bin .add (.t 79) (.k (.raw (.int .i64 1)))), none⟩,
         .op ⟨(some 9), (.mv (.t 80)), none⟩])
       (.ops [.op ⟨(some 81), (.mv (.t 10)), none⟩,
         .op ⟨(some 82), (.bin .sub (.t 81) (.k (.raw (.int .i64 1)))), none⟩,
         .op ⟨(some 10), (.mv (.t 82)), none⟩])))))))))
    (.seq
    (.ops [.op ⟨(some 83), (.mv (.t 9)), none⟩,
      .op ⟨(some 8), (.mv (.t 83)), none⟩])
    (.ret))))),
    [.tmp 8], 84⟩
theorem c_slices_partitionEqualOrdered_int_ : compFn Tryz.prog f_slices_partitionEqualOrdered_int_ = some x_slices_partitionEqualOrdered_int_ := by kernel_rfl

/- slices.partitionOrdered[int] -/
def x_slices_partitionOrdered_int_ : XFn := ⟨
    .seq
    (.ops [.op ⟨(some 8), (.mv (.k (.raw (.int .i64 0)))), none⟩,
      .op ⟨(some 9), (.mv (.k (.raw (.bool false)))), none⟩])
    (.seq
    (.draw [⟨(some 12), (.mv (.t 0)), none⟩,
      ⟨(some 13), (.mv (.t 1)), none⟩,
      ⟨(some 14), (.mv (.t 0)), none⟩,
      ⟨(some 15), (.mv (.t 3)), none⟩,
      ⟨(some 16), (.mv (.t 0)), none⟩,
      ⟨(some 17), (.mv (.t 3)), none⟩,
      ⟨(some 18), (.idxAddr 1 (.t 16) (.t 17)), none⟩,
      ⟨(some 19), (.load none (.t 18)), none⟩,
      ⟨(some 20), (.mv (.t 0)), none⟩,
      ⟨(some 21), (.mv (.t 1)), none⟩,
      ⟨(some 22), (.idxAddr 1 (.t 20) (.t 21)), none⟩,
      ⟨(some 23), (.load none (.t 22)), none⟩,
      ⟨(some 24), (.idxAddr 1 (.t 12) (.t 13)), none⟩,
      ⟨none, (.store 1 (.t 24) (.t 19)), none⟩,
      ⟨(some 25), (.idxAddr 1 (.t 14) (.t 15)), none⟩,
      ⟨none, (.store 1 (.t 25) (.t 23)), none⟩]
      [[], [], [], [], [], [], [5, 4], [4, 5, 6], [], [], [9, 8], [8, 9, 10], [10, 9, 8, 11, 7, 6, 5, 4, 1, 0], [0, 1, 4, 5, 6, 7, 11, 8, 9, 10, 12], [13, 12, 11, 10, 9, 8, 7, 6, 5, 4, 1, 0, 3, 2], [2, 3, 0, 1, 4, 5, 6, 7, 8, 9, 10, 11, 12, 13, 14]]
      [.q 0, .q 1, .q 2, .q 3, .q 4, .q 5, .q 6, .q 7, .q 8, .q 9, .q 10, .q 11, .q 12, .eff 13, .q 14, .eff 15])
    (.seq
    (.ops [.op ⟨(some 26), (.mv (.t 1)), none⟩,
      .op ⟨(some 27), (.bin .add (.t 26) (.k (.raw (.int .i64 1)))), none⟩,
      .op ⟨(some 28), (.mv (.t 2)), none⟩,
      .op ⟨(some 29), (.bin .sub (.t 28) (.k (.raw (.int .i64 1)))), none⟩,
      .op ⟨(some 10), (.mv (.t 27)), none⟩,
      .op ⟨(some 11), (.mv (.t 29)), none⟩])
    (.seq
    (.block 0
     (.loop
      (.seq
      (.seq
      (.draw [⟨(some 30), (.mv (.t 10)), none⟩,
        ⟨(some 31), (.mv (.t 11)), none⟩,
        ⟨(some 32), (.bin .leq (.t 30) (.t 31)), none⟩,
        ⟨(some 33), (.mv (.t 32)), none⟩,
        ⟨(some 34), (.mv (.t 0)), (some (33, true))⟩,
        ⟨(some 35), (.mv (.t 10)), (some (33, true))⟩,
        ⟨(some 36), (.idxAddr 1 (.t 34) (.t 35)), (some (33, true))⟩,
        ⟨(some 37), (.load none (.t 36)), (some (33, true))⟩,
        ⟨(some 38), (.mv (.t 0)), (some (33, true))⟩,
        ⟨(some 39), (.mv (.t 1)), (some (33, true))⟩,
        ⟨(some 40), (.idxAddr 1 (.t 38) (.t 39)), (some (33, true))⟩,
        ⟨(some 41), (.load none (.t 40)), (some (33, true))⟩,
        ⟨(some 42), (.call f_cmp_Less_int_ [(.t 37), (.t 41)]), (some (33, true))⟩,
        ⟨(some 43), (.pick (.t 33) (.t 42) (.k (.raw (.bool false)))), none⟩]
        [[], [], [1, 0], [0, 1, 2], [2, 1, 0, 3], [2, 1, 0, 3], [5, 3, 0, 1, 2, 4], [4, 2, 1, 0, 3, 5, 6], [2, 1, 0, 3], [2, 1, 0, 3], [9, 3, 0, 1, 2, 8], [8, 2, 1, 0, 3, 9, 10], [10, 9, 8, 11, 6, 5, 3, 0, 1, 2, 4, 7], [7, 4, 5, 6, 11, 8, 9, 10, 12, 2, 1, 0, 3]]
        [.q 0, .q 1, .q 2, .q 3, .split 33, .q 4, .q 5, .q 6, .q 7, .q 8, .q 9, .q 10, .q 11, .eff 12, .q 13])
      (.cond (.t 43)
       (.skip)
       (.exit 0)))
      (.block 1
       (.ops [.op ⟨(some 44), (.mv (.t 10)), none⟩,
         .op ⟨(some 45), (.bin .add (.t 44) (.k (.raw (.int .i64 1)))), none⟩,
         .op ⟨(some 10), (.mv (.t 45)), none⟩])))))
    (.seq
    (.block 2
     (.loop
      (.seq
      (.seq
      (.draw [⟨(some 46), (.mv (.t 10)), none⟩,
        ⟨(some 47), (.mv (.t 11)), none⟩,
        ⟨(some 48), (.bin .leq (.t 46) (.t 47)), none⟩,
        ⟨(some 49), (.mv (.t 48)), none⟩,
        ⟨(some 50), (.mv (.t 0)), (some (49, true))⟩,
        ⟨(some 51), (.mv (.t 11)), (some (49, true))⟩,
        ⟨(some 52), (.idxAddr 1 (.t 50) (.t 51)), (some (49, true))⟩,
        ⟨(some 53), (.load none (.t 52)), (some (49, true))⟩,
        ⟨(some 54), (.mv (.t 0)), (some (49, true))⟩,
        ⟨(some 55), (.mv (.t 1)), (some (49, true))⟩,
        ⟨(some 56), (.idxAddr 1 (.t 54) (.t 55)), (some (49, true))⟩,
        ⟨(some 57), (.load none (.t 56)), (some (49, true))⟩,
        ⟨(some 58), (.call f_cmp_Less_int_ [(.t 53), (.t 57)]), (some (49, true))⟩,
        ⟨(some 59), (.un .not (.t 58)), (some (49, true))⟩,
        ⟨(some 60), (.pick (.t 49) (.t 59) (.k (.raw (.bool false)))), none⟩]
        [[], [], [1, 0], [0, 1, 2], [2, 1, 0, 3], [2, 1, 0, 3], [5, 3, 0, 1, 2, 4], [4, 2, 1, 0, 3, 5, 6], [2, 1, 0, 3], [2, 1, 0, 3], [9, 3, 0, 1, 2, 8], [8, 2, 1, 0, 3, 9, 10], [10, 9, 8, 11, 6, 5, 3, 0, 1, 2, 4, 7], [7, 4, 2, 1, 0, 3, 5, 6, 11, 8, 9, 10, 12], [12, 10, 9, 8, 11, 6, 5, 4, 7, 13, 2, 1, 0, 3]]
        [.q 0, .q 1, .q 2, .q 3, .split 49, .q 4, .q 5, .q 6, .q 7, .q 8, .q 9, .q 10, .q 11, .eff 12, .q 13, .q 14])
      (.cond (.t 60)
       (.skip)
       (.exit 2)))
      (.block 3
       (.ops [.op ⟨(some 61), (.mv (.t 11)), none⟩,
         .op ⟨(some 62), (.bin .sub (.t 61) (.k (.raw (.int .i64 1)))), none⟩,
         .op ⟨(some 11), (.mv (.t 62)), none⟩])))))
    (.seq
    (.seq
    (.ops [.op ⟨(some 63), (.mv (.t 10)), none⟩,
      .op ⟨(some 64), (.mv (.t 11)), none⟩,
      .op ⟨(some 65), (.bin .gtr (.t 63) (.t 64)), none⟩])
    (.cond (.t 65)
     (.seq
     (.draw [⟨(some 66), (.mv (.t 0)), none⟩,
       ⟨(some 67), (.mv (.t 11)), none⟩,
       ⟨(some 68), (.mv (.t 0)), none⟩,
       ⟨(some 69), (.mv (.t 1)), none⟩,
       ⟨(some 70), (.mv (.t 0)), none⟩,
       ⟨(some 71), (.mv (.t 1)), none⟩,
       ⟨(some 72), (.idxAddr 1 (.t 70) (.t 71)), none⟩,
       ⟨(some 73), (.load none (.t 72)), none⟩,
       ⟨(some 74), (.mv (.t 0)), none⟩,
       ⟨(some 75), (.mv (.t 11)), none⟩,
       ⟨(some 76), (.idxAddr 1 (.t 74) (.t 75)), none⟩,
       ⟨(some 77), (.load none (.t 76)), none⟩,
       ⟨(some 78), (.idxAddr 1 (.t 66) (.t 67)), none⟩,
       ⟨none, (.store 1 (.t 78) (.t 73)), none⟩,
       ⟨(some 79), (.idxAddr 1 (.t 68) (.t 69)), none⟩,
       ⟨none, (.store 1 (.t 79) (.t 77)), none⟩]
       [[], [], [], [], [], [], [5, 4], [4, 5, 6], [], [], [9, 8], [8, 9, 10], [10, 9, 8, 11, 7, 6, 5, 4, 1, 0], [0, 1, 4, 5, 6, 7, 11, 8, 9, 10, 12], [13, 12, 11, 10, 9, 8, 7, 6, 5, 4, 1, 0, 3, 2], [2, 3, 0, 1, 4, 5, 6, 7, 8, 9, 10, 11, 12, 13, 14]]
       [.q 0, .q 1, .q 2, .q 3, .q 4, .q 5, .q 6, .q 7, .q 8, .q 9, .q 10, .q 11, .q 12, .eff 13, .q 14, .eff 15])
     (.seq
     (.ops [.op ⟨(some 80), (.mv (.t 11)), none⟩,
       .op ⟨(some 8), (.mv (.t 80)), none⟩,
       .op ⟨(some 9), (.mv (.k (.raw (.bool true)))), none⟩])
     (.ret)))
     (.skip)))
    (.seq
    (.draw [⟨(some 81), (.mv (.t 0)), none⟩,
      ⟨(some 82), (.mv (.t 10)), none⟩,
      ⟨(some 83), (.mv (.t 0)), none⟩,
      ⟨(some 84), (.mv (.t 11)), none⟩,
      ⟨(some 85), (.mv (.t 0)), none⟩,
      ⟨(some 86), (.mv (.t 11)), none⟩,
      ⟨(some 87), (.idxAddr 1 (.t 85) (.t 86)), none⟩,
      ⟨(some 88), (.load none (.t 87)), none⟩,
      ⟨(some 89), (.mv (.t 0)), none⟩,
      ⟨(some 90), (.mv (.t 10)), none⟩,
      ⟨(some 91), (.idxAddr 1 (.t 89) (.t 90)), none⟩,
      ⟨(some 92), (.load none (.t 91)), none⟩,
      ⟨(some 93), (.idxAddr 1 (.t 81) (.t 82)), none⟩,
      ⟨none, (.store 1 (.t 93) (.t 88)), none⟩,
      ⟨(some 94), (.idxAddr 1 (.t 83) (.t 84)), none⟩,
      ⟨none, (.store 1 (.t 94) (.t 92)), none⟩]
      [[], [], [], [], [], [], [5, 4], [4, 5, 6], [], [], [9, 8], [8, 9, 10], [10, 9, 8, 11, 7, 6, 5, 4, 1, 0], [0, 1, 4, 5, 6, 7, 11, 8, 9, 10, 12], [13, 12, 11, 10, 9, 8, 7, 6, 5, 4, 1, 0, 3, 2], [2, 3, 0, 1, 4, 5, 6, 7, 8, 9, 10, 11, 12, 13, 14]]
      [.q 0, .q 1, .q 2, .q 3, .q 4, .q 5, .q 6, .q 7, .q 8, .q 9, .q 10, .q 11, .q 12, .eff 13, .q 14, .eff 15])
    (.seq
    (.ops [.op ⟨(some 95), (.mv (.t 10)), none⟩,
      .op ⟨(some 96), (.bin .add (.t 95) (.k (.raw (.int .i64 1)))), none⟩,
      .op ⟨(some 10), (.mv (.t 96)), none⟩])
    (.seq
    (.ops [.op ⟨(some 97), (.mv (.t 11)), none⟩,
      .op ⟨(some 98), (.bin .sub (.t 97) (.k (.raw (.int .i64 1)))), none⟩,
      .op ⟨(some 11), (.mv (.t 98)), none⟩])
    (.seq
    (.block 4
     (.loop
      (.block 5
       (.seq
       (.block 6
        (.loop
         (.seq
         (.seq
         (.draw [⟨(some 99), (.mv (.t 10)), none⟩,
           ⟨(some 100), (.mv (.t 11)), none⟩,
           ⟨(some 101), (.bin .leq (.t 99) (.t 100)), none⟩,
           ⟨(some 102), (.mv (.t 101)), none⟩,
           ⟨(some 103), (.mv (.t 0)), (some (102, true))⟩,
           ⟨(some 104), (.mv (.t 10)), (some (102, true))⟩,
           ⟨(some 105), (.idxAddr 1 (.t 103) (.t 104)), (some (102, true))⟩,
           ⟨(some 106), (.load none (.t 105)), (some (102, true))⟩,
           ⟨(some 107), (.mv (.t 0)), (some (102, true))⟩,
           ⟨(some 108), (.mv (.t 1)), (some (102, true))⟩,
           ⟨(some 109), (.idxAddr 1 (.t 107) (.t 108)), (some (102, true))⟩,
           ⟨(some 110), (.load none (.t 109)), (some (102, true))⟩,
           ⟨(some 111), (.call f_cmp_Less_int_ [(.t 106), (.t 110)]), (some (102, true))⟩,
           ⟨(some 112), (.pick (.t 102) (.t 111) (.k (.raw (.bool false)))), none⟩]
           [[], [], [1, 0], [0, 1, 2], [2, 1, 0, 3], [2, 1, 0, 3], [5, 3, 0, 1, 2, 4], [4, 2, 1, 0, 3, 5, 6], [2, 1, 0, 3], [2, 1, 0, 3], [9, 3, 0, 1, 2, 8], [8, 2, 1, 0, 3, 9, 10], [10, 9, 8, 11, 6, 5, 3, 0, 1, 2, 4, 7], [7, 4, 5, 6, 11, 8, 9, 10, 12, 2, 1, 0, 3]]
           [.q 0, .q 1, .q 2, .q 3, .split 102, .q 4, .q 5, .q 6, .q 7, .q 8, .q 9, .q 10, .q 11, .eff 12, .q 13])
         (.cond (.t 112)
          (.skip)
          (.exit 6)))
         (.block 7
          (.ops [.op ⟨(some 113), (.mv (.t 10)), none⟩,
            .op ⟨(some 114), (.bin .add (.t 113) (.k (.raw (.int .i64 1)))), none⟩,
            .op ⟨(some 10), (.mv (.t 114)), none⟩])))))
       (.seq
       (.block 8
        (.loop
         (.seq
         (.seq
         (.draw [⟨(some 115), (.mv (.t 10)), none⟩,
           ⟨(some 116), (.mv (.t 11)), none⟩,
           ⟨(some 117), (.bin .leq (.t 115) (.t 116)), none⟩,
           ⟨(some 118), (.mv (.t 117)), none⟩,
           ⟨(some 119), (.mv (.t 0)), (some (118, true))⟩,
           ⟨(some 120), (.mv (.t 11)), (some (118, true))⟩,
           ⟨(some 121), (.idxAddr 1 (.t 119) (.t 120)), (some (118, true))⟩,
           ⟨(some 122), (.load none (.t 121)), (some (118, true))⟩,
           ⟨(some 123), (.mv (.t 0)), (some (118, true))⟩,
           ⟨(some 124), (.mv (.t 1)), (some (118, true))⟩,
           ⟨(some 125), (.idxAddr 1 (.t 123) (.t 124)), (some (118, true))⟩,
           ⟨(some 126), (.load none (.t 125)), (some (118, true))⟩,
           ⟨(some 127), (.call f_cmp_Less_int_ [(.t 122), (.t 126)]), (some (118, true))⟩,
           ⟨(some 128), (.un .not (.t 127)), (some (118, true))⟩,
           ⟨(some 129), (.pick (.t 118) (.t 128) (.k (.raw (.bool false)))), none⟩]
           [[], [], [1, 0], [0, 1, 2], [2, 1, 0, 3], [2, 1, 0, 3], [5, 3, 0, 1, 2, 4], [4, 2, 1, 0, 3, 5, 6], [2, 1, 0, 3], [2, 1, 0, 3], [9, 3, 0, 1, 2, 8], [8, 2, 1, 0, 3, 9, 10], [10, 9, 8, 11, 6, 5, 3, 0, 1, 2, 4, 7], [7, 4, 2, 1, 0, 3, 5, 6, 11, 8, 9, 10, 12], [12, 10, 9, 8, 11, 6, 5, 4, 7, 13, 2, 1, 0, 3]]
           [.q 0, .q 1, .q 2, .q 3, .split 118, .q 4, .q 5, .q 6, .q 7, .q 8, .q 9, .q 10, .q 11, .eff 12, .q 13, .q 14])
         (.cond (.t 129)
          (.skip)
          (.exit 8)))
         (.block 9
          (.ops [.op ⟨(some 130), (.mv (.t 11)), none⟩,
            .op ⟨(some 131), (.bin .sub (.t 130) (.k (.raw (.int .i64 1)))), none⟩,
            .op ⟨(some 11), (.mv (.t 131)), none⟩])))))
       (.seq
       (.seq
       (.ops [.op ⟨(some 132), (.mv (.t 10)), none⟩,
         .op ⟨(some 133), (.mv (.t 11)), none⟩,
         .op ⟨(some 134), (.bin .gtr (.t 132) (.t 133)), none⟩])
       (.cond (.t 134)
        (.exit 4)
        (.skip)))
       (.seq
       (.draw [⟨(some 135), (.mv (.t 0)), none⟩,
         ⟨(some 136), (.mv (.t 10)), none⟩,
         ⟨(some 137), (.mv (.t 0)), none⟩,
         ⟨(some 138), (.mv (.t 11)), none⟩,
         ⟨(some 139), (.mv (.t 0)), none⟩,
         ⟨(some 140), (.mv (.t 11)), none⟩,
         ⟨(some 141), (.idxAddr 1 (.t 139) (.t 140)), none⟩,
         ⟨(some 142), (.load none (.t 141)), none⟩,
         ⟨(some 143), (.mv (.t 0)), none⟩,
         ⟨(some 144), (.mv (.t 10)), none⟩,
         ⟨(some 145), (.idxAddr 1 (.t 143) (.t 144)), none⟩,
         ⟨(some 146), (.load none (.t 145)), none⟩,
         ⟨(some 147), (.idxAddr 1 (.t 135) (.t 136)), none⟩,
         ⟨none, (.store 1 (.t 147) (.t 142)), none⟩,
         ⟨(some 148), (.idxAddr 1 (.t 137) (.t 138)), none⟩,
         ⟨none, (.store 1 (.t 148) (.t 146)), none⟩]
         [[], [], [], [], [], [], [5, 4], [4, 5, 6], [], [], [9, 8], [8, 9, 10], [10, 9, 8, 11, 7, 6, 5, 4, 1, 0], [0, 1, 4, 5, 6, 7, 11, 8, 9, 10, 12], [13, 12, 11, 10, 9, 8, 7, 6, 5, 4, 1, 0, 3, 2], [2, 3, 0, 1, 4, 5, 6, 7, 8, 9, 10, 11, 12, 13, 14]]
         [.q 0, .q 1, .q 2, .q 3, .q 4, .q 5, .q 6, .q 7, .q 8, .q 9, .q 10, .q 11, .q 12, .eff 13, .q 14, .eff 15])
       (.seq
       (.ops [.op ⟨(some 149), (.mv (.t 10)), none⟩,
         .op ⟨(some 150), (.bin .add (.t 149) (.k (.raw (.int .i64 1)))), none⟩,
         .op ⟨(some 10), (.mv (.t 150)), none⟩])
       (.ops [.op ⟨(some 151), (.mv (.t 11)), none⟩,
         .op ⟨(some 152), (.bin .sub (.t 151) (.k (.raw (.int .i64 1)))), none⟩,
         .op ⟨(some 11), (.mv (.t 152)), none⟩])))))))))
    (.seq
    (.draw [⟨(some 153), (.mv (.t 0)), none⟩,
      ⟨(some 154), (.mv (.t 11)), none⟩,
      ⟨(some 155), (.mv (.t 0)), none⟩,
      ⟨(some 156), (.mv (.t 1)), none⟩,
      ⟨(some 157), (.mv (.t 0)), none⟩,
      ⟨(some 158), (.mv (.t 1)), none⟩,
      ⟨(some 159), (.idxAddr 1 (.t 157) (.t 158)), none⟩,
      ⟨(some 160), (.load none (.t 159)), none⟩,
      ⟨(some 161), (.mv (.t 0)), none⟩,
      ⟨(some 162), (.mv (.t 11)), none⟩,
      ⟨(some 163), (.idxAddr 1 (.t 161) (.t 162)), none⟩,
      ⟨(some 164), (.load none (.t 163)), none⟩,
      ⟨(some 165), (.idxAddr 1 (.t 153) (.t 154)), none⟩,
      ⟨none, (.store 1 (.t 165) (.t 160)), none⟩,
      ⟨(some 166), (.idxAddr 1 (.t 155) (.t 156)), none⟩,
      ⟨none, (.store 1 (.t 166) (.t 164)), none⟩]
      [[], [], [], [], [], [], [5, 4], [4, 5, 6], [], [], [9, 8], [8, 9, 10], [10, 9, 8, 11, 7, 6, 5, 4, 1, 0], [0, 1, 4, 5, 6, 7, 11, 8, 9, 10, 12], [13, 12, 11, 10, 9, 8, 7, 6, 5, 4, 1, 0, 3, 2], [2, 3, 0, 1, 4, 5, 6, 7, 8, 9, 10, 11, 12, 13, 14]]
      [.q 0, .q 1, .q 2, .q 3, .q 4, .q 5, .q 6, .q 7, .q 8, .q 9, .q 10, .q 11, .q 12, .eff 13, .q 14, .eff 15])
    (.seq
    (.ops [.op ⟨(some 167), (.mv (.t 11)), none⟩,
      .op ⟨(some 8), (.mv (.t 167)), none⟩,
      .op ⟨(some 9), (.mv (.k (.raw (.bool false)))), none⟩])
    (.ret)))))))))))),
    [.tmp 8, .tmp 9], 168⟩
theorem c_slices_partitionOrdered_int_ : compFn Tryz.prog f_slices_partitionOrdered_int_ = some x_slices_partitionOrdered_int_ := by kernel_rfl

/- math/bits.Len32 -/
def x_math_bits_Len32 : XFn := ⟨
    .seq
    (.ops [.op ⟨(some 2), (.mv (.k (.raw (.int .i64 0)))), none⟩])
    (.seq
    (.seq
    (.ops [.op ⟨(some 3), (.mv (.t 0)), none⟩,
      .op ⟨(some 4), (.bin .geq (.t 3) (.k (.raw (.int .u32 65536)))), none⟩])
    (.cond (.t 4)
     (.seq
     (.ops [.op ⟨(some 5), (.mv (.t 0)), none⟩,
       .op ⟨(some 6), (.bin .shr (.t 5) (.k (.raw (.int .u64 16)))), none⟩,
       .op ⟨(some 0), (.mv (.t 6)), none⟩])
     (.ops [.op ⟨(some 2), (.mv (.k (.raw (.int .i64 16)))), none⟩]))
     (.skip)))
    (.seq
    (.seq
    (.ops [.op ⟨(some 7), (.mv (.t 0)), none⟩,
      .op ⟨(some 8), (.bin .geq (.t 7) (.k (.raw (.int .u32 256)))), none⟩])
    (.cond (.t 8)
     (.seq
     (.ops [.op ⟨(some 9), (.mv (.t 0)), none⟩,
       .op ⟨(some 10), (.bin .shr (.t 9) (.k (.raw (.int .u64 8)))), none⟩,
       .op ⟨(some 0), (.mv (.t 10)), none⟩])
     (.ops [.op ⟨(some 11), (.mv (.t 2)), none⟩,
       .op ⟨(some 12), (.bin .add (.t 11) (.k (.raw (.int .i64 8)))), none⟩,
       .op ⟨(some 2), (.mv (.t 12)), none⟩]))
     (.skip)))
    (.seq
    (.ops [.op ⟨(some 13), (.mv (.t 2)), none⟩,
      .op ⟨(some 14), (.mv (.t 0)), none⟩,
      .op ⟨(some 15), (.conv .u8 (.t 14)), none⟩,
      .op ⟨(some 16), (.idxStr (.k (.raw (.string ⟨#[0, 1, 2, 2, 3, 3, 3, 3, 4, 4, 4, 4, 4, 4, 4, 4, 5, 5, 5, 5, 5, 5, 5, 5, 5, 5, 5, 5, 5, 5, 5, 5, 6, 6, 6, 6, 6, 6, 6, 6, 6, 6, 6, 6, 6, 6, 6, 6, 6, 6, 6, 6, 6, 6, 6, 6, 6, 6, 6, 6, 6, 6, 6, 6, 7, 7, 7, 7, 7, 7, 7, 7, 7, 7, 7, 7, 7, 7, 7, 7, 7, 7, 7, 7, 7, 7, 7, 7, 7, 7, 7, 7, 7, 7, 7, 7, 7, 7, 7, 7, 7, 7, 7, 7, 7, 7, 7, 7, 7, 7, 7, 7, 7, 7, 7, 7, 7, 7, 7, 7, 7, 7, 7, 7, 7, 7, 7, 7, 8, 8, 8, 8, 8, 8, 8, 8, 8, 8, 8, 8, 8, 8, 8, 8, 8, 8, 8, 8, 8, 8, 8, 8, 8, 8, 8, 8, 8, 8, 8, 8, 8, 8, 8, 8, 8, 8, 8, 8, 8, 8, 8, 8, 8, 8, 8, 8, 8, 8, 8, 8, 8, 8, 8, 8, 8, 8, 8, 8, 8, 8, 8, 8, 8, 8, 8, 8, 8, 8, 8, 8, 8, 8, 8, 8, 8, 8, 8, 8, 8, 8, 8, 8, 8, 8, 8, 8, 8, 8, 8, 8, 8, 8, 8, 8, 8, 8, 8, 8, 8, 8, 8, 8, 8, 8, 8, 8, 8, 8, 8, 8, 8, 8, 8, 8, 8, 8, 8, 8, 8, 8, 8, 8, 8, 8, 8, 8]⟩))) (.t 15)), none⟩,
      .op ⟨(some 17), (.conv .i64 (.t 16)), none⟩,
      .op ⟨(some 18), (.bin .add (.t 13) (.t 17)), none⟩,
      .op ⟨(some 2), (.mv (.t 18)), none⟩])
    (.ret)))),
    [.tmp 2], 19⟩
theorem c_math_bits_Len32 : compFn Tryz.prog f_math_bits_Len32 = some x_math_bits_Len32 := by kernel_rfl

/- math/bits.Len64 -/
def x_math_bits_Len64 : XFn := ⟨
    .seq
    (.ops [.op ⟨(some 2), (.mv (.k (.raw (.int .i64 0)))), none⟩])
    (.seq
    (.seq
    (.ops [.op ⟨(some 3), (.mv (.t 0)), none⟩,
      .op ⟨(some 4), (.bin .geq (.t 3) (.k (.raw (.int .u64 4294967296)))), none⟩])
    (.cond (.t 4)
     (.seq
     (.ops [.op ⟨(some 5), (.mv (.t 0)), none⟩,
       .op ⟨(some 6), (.bin .shr (.t 5) (.k (.raw (.int .u64 32)))), none⟩,
       .op ⟨(some 0), (.mv (.t 6)), none⟩])
     (.ops [.op ⟨(some 2), (.mv (.k (.raw (.int .i64 32)))), none⟩]))
     (.skip)))
    (.seq
    (.seq
    (.ops [.op ⟨(some 7), (.mv (.t 0)), none⟩,
      .op ⟨(some 8), (.bin .geq (.t 7) (.k (.raw (.int .u64 65536)))), none⟩])
    (.cond (.t 8)
     (.seq
     (.ops [.op ⟨(some 9), (.mv (.t 0)), none⟩,
       .op ⟨(some 10), (.bin .shr (.t 9) (.k (.raw (.int .u64 16)))), none⟩,
       .op ⟨(some 0), (.mv (.t 10)), none⟩])
     (.ops [.op ⟨(some 11), (.mv (.t 2)), none⟩,
       .op ⟨(some 12), (.bin .add (.t 11) (.k (.raw (.int .i64 16)))), none⟩,
       .op ⟨(some 2), (.mv (.t 12)), none⟩]))
     (.skip)))
    (.seq
    (.seq
    (.ops [.op ⟨(some 13), (.mv (.t 0)), none⟩,
      .op ⟨(some 14), (.bin .geq (.t 13) (.k (.raw (.int .u64 256)))), none⟩])
    (.cond (.t 14)
     (.seq
     (.ops [.op ⟨(some 15), (.mv (.t 0)), none⟩,
       .op ⟨(some 16), (.bin .shr (.t 15) (.k (.raw (.int .u64 8)))), none⟩,
       .op ⟨(some 0), (.mv (.t 16)), none⟩])
     (.ops [.op ⟨(some 17), (.mv (.t 2)), none⟩,
       .op ⟨(some 18), (.bin .add (.t 17) (.k (.raw (.int .i64 8)))), none⟩,
       .op ⟨(some 2), (.mv (.t 18)), none⟩]))
     (.skip)))
    (.seq
    (.ops [.op ⟨(some 19), (.mv (.t 2)), none⟩,
      .op ⟨(some 20), (.mv (.t 0)), none⟩,
      .op ⟨(some 21), (.conv .u8 (.t 20)), none⟩,
      .op ⟨(some 22), (.idxStr (.k (.raw (.string ⟨#[0, 1, 2, 2, 3, 3, 3, 3, 4, 4, 4, 4, 4, 4, 4, 4, 5, 5, 5, 5, 5, 5, 5, 5, 5, 5, 5, 5, 5, 5, 5, 5, 6, 6, 6, 6, 6, 6, 6, 6, 6, 6, 6, 6, 6, 6, 6, 6, 6, 6, 6, 6, 6, 6, 6, 6, 6, 6, 6, 6, 6, 6, 6, 6, 7, 7, 7, 7, 7, 7, 7, 7, 7, 7, 7, 7, 7, 7, 7, 7, 7, 7, 7, 7, 7, 7, 7, 7, 7, 7, 7, 7, 7, 7, 7, 7, 7, 7, 7, 7, 7, 7, 7, 7, 7, 7, 7, 7, 7, 7, 7, 7, 7, 7, 7, 7, 7, 7, 7, 7, 7, 7, 7, 7, 7, 7, 7, 7, 8, 8, 8, 8, 8, 8, 8, 8, 8, 8, 8, 8, 8, 8, 8, 8, 8, 8, 8, 8, 8, 8, 8, 8, 8, 8, 8, 8, 8, 8, 8, 8, 8, 8, 8, 8, 8, 8, 8, 8, 8, 8, 8, 8, 8, 8, 8, 8, 8, 8, 8, 8, 8, 8, 8, 8, 8, 8, 8, 8, 8, 8, 8, 8, 8, 8, 8, 8, 8, 8, 8, 8, 8, 8, 8, 8, 8, 8, 8, 8, 8, 8, 8, 8, 8, 8, 8, 8, 8, 8, 8, 8, 8, 8, 8, 8, 8, 8, 8, 8, 8, 8, 8, 8, 8, 8, 8, 8, 8, 8, 8, 8, 8, 8, 8, 8, 8, 8, 8, 8, 8, 8, 8, 8, 8, 8, 8, 8]⟩))) (.t 21)), none⟩,
      .op ⟨(some 23), (.conv .i64 (.t 22)), none⟩,
      .op ⟨(some 24), (.bin .add (.t 19) (.t 23)), none⟩,
      .op ⟨(some 2), (.mv (.t 24)), none⟩])
    (.ret))))),
    [.tmp 2], 25⟩
theorem c_math_bits_Len64 : compFn Tryz.prog f_math_bits_Len64 = some x_math_bits_Len64 := by kernel_rfl

/- vigil/wire.Check -/
def x_vigil_wire_Check : XFn := ⟨
    .seq
    (.ops [.op ⟨(some 1), (.box (.t 0)), none⟩,
      .op ⟨(some 2), (.mv (.k (.raw (.int .i64 0)))), none⟩])
    (.seq
    (.block 0
     (.seq
     (.ops [.op ⟨(some 4), (.fieldAddr 0 (.t 1)), none⟩,
       .op ⟨(some 5), (.load none (.t 4)), none⟩,
       .op ⟨(some 6), (.bin .lss (.t 5) (.k (.raw (.int .i64 0)))), none⟩,
       .op ⟨(some 7), (.mv (.t 6)), none⟩,
       .split 7,
       .op ⟨(some 8), (.fieldAddr 0 (.t 1)), (some (7, false))⟩,
       .op ⟨(some 9), (.load none (.t 8)), (some (7, false))⟩,
       .op ⟨(some 10), (.bin .gtr (.t 9) (.k (.raw (.int .i64 4)))), (some (7, false))⟩,
       .op ⟨(some 11), (.pick (.t 7) (.k (.raw (.bool true))) (.t 10)), none⟩,
       .op ⟨(some 3), (.mv (.t 11)), none⟩])
     (.cond (.t 3)
      (.seq
      (.ops [.op ⟨(some 2), (.mv (.k (.raw (.int .i64 13)))), none⟩])
      (.ret))
      (.seq
      (.ops [.op ⟨(some 13), (.fieldAddr 0 (.t 1)), none⟩,
        .op ⟨(some 14), (.load none (.t 13)), none⟩,
        .op ⟨(some 15), (.bin .eql (.t 14) (.k (.raw (.int .i64 4)))), none⟩,
        .op ⟨(some 16), (.mv (.t 15)), none⟩,
        .split 16,
        .op ⟨(some 17), (.fieldAddr 1 (.t 1)), (some (16, true))⟩,
        .op ⟨(some 18), (.load none (.t 17)), (some (16, true))⟩,
        .op ⟨(some 19), (.bin .neq (.t 18) (.k (.raw (.int .i64 0)))), (some (16, true))⟩,
        .op ⟨(some 20), (.pick (.t 16) (.t 19) (.k (.raw (.bool false)))), none⟩,
        .op ⟨(some 21), (.mv (.t 20)), none⟩,
        .split 21,
        .op ⟨(some 22), (.fieldAddr 0 (.t 1)), (some (21, false))⟩,
        .op ⟨(some 23), (.load none (.t 22)), (some (21, false))⟩,
        .op ⟨(some 24), (.bin .lss (.t 23) (.k (.raw (.int .i64 4)))), (some (21, false))⟩,
        .op ⟨(some 25), (.mv (.t 24)), (some (21, false))⟩,
        .split 25,
        .op ⟨(some 26), (.fieldAddr 2 (.t 1)), (some (25, true))⟩,
        .op ⟨(some 27), (.load none (.t 26)), (some (25, true))⟩,
        .op ⟨(some 28), (.len (.t 27)), (some (25, true))⟩,
        .op ⟨(some 29), (.bin .gtr (.t 28) (.k (.raw (.int .i64 0)))), (some (25, true))⟩,
        .op ⟨(some 30), (.pick (.t 25) (.t 29) (.k (.raw (.bool false)))), (some (21, false))⟩,
        .op ⟨(some 31), (.pick (.t 21) (.k (.raw (.bool true))) (.t 30)), none⟩,
        .op ⟨(some 12), (.mv (.t 31)), none⟩])
      (.cond (.t 12)
       (.seq
       (.ops [.op ⟨(some 2), (.mv (.k (.raw (.int .i64 10)))), none⟩])
       (.ret))
       (.seq
       (.draw [⟨(some 33), (.fieldAddr 1 (.t 1)), none⟩,
         ⟨(some 34), (.load none (.t 33)), none⟩,
         ⟨(some 35), (.bin .lss (.t 34) (.k (.raw (.int .i64 0)))), none⟩,
         ⟨(some 36), (.mv (.t 35)), none⟩,
         ⟨(some 37), (.fieldAddr 0 (.t 1)), (some (36, false))⟩,
         ⟨(some 38), (.load none (.t 37)), (some (36, false))⟩,
         ⟨(some 39), (.bin .lss (.t 38) (.k (.raw (.int .i64 3)))), (some (36, false))⟩,
         ⟨(some 40), (.mv (.t 39)), (some (36, false))⟩,
         ⟨(some 41), (.fieldAddr 1 (.t 1)), (some (40, true))⟩,
         ⟨(some 42), (.load none (.t 41)), (some (40, true))⟩,
         ⟨(some 43), (.fieldAddr 0 (.t 1)), (some (40, true))⟩,
         ⟨(some 44), (.load none (.t 43)), (some (40, true))⟩,
         ⟨(some 45), (.call f_vigil_wire_width [(.t 44)]), (some (40, true))⟩,
         ⟨(some 46), (.bin .mul (.k (.raw (.int .i64 8))) (.t 45)), (some (40, true))⟩,
         ⟨(some 47), (.bin .shr (.t 42) (.t 46)), (some (40, true))⟩,
         ⟨(some 48), (.bin .neq (.t 47) (.k (.raw (.int .i64 0)))), (some (40, true))⟩,
         ⟨(some 49), (.pick (.t 40) (.t 48) (.k (.raw (.bool false)))), (some (36, false))⟩,
         ⟨(some 50), (.pick (.t 36) (.k (.raw (.bool true))) (.t 49)), none⟩,
         ⟨(some 32), (.mv (.t 50)), none⟩]
         [[], [0], [0, 1], [1, 0, 2], [2, 0, 1, 3], [3, 1, 0, 2, 4], [4, 2, 0, 1, 3, 5], [5, 3, 1, 0, 2, 4, 6], [6, 4, 2, 0, 1, 3, 5, 7], [7, 5, 3, 1, 0, 2, 4, 6, 8], [6, 4, 2, 0, 1, 3, 5, 7], [7, 5, 3, 1, 0, 2, 4, 6, 10], [10, 6, 4, 2, 0, 1, 3, 5, 7, 11], [11, 7, 5, 3, 1, 0, 2, 4, 6, 10, 12], [12, 10, 11, 13, 8, 6, 4, 2, 0, 1, 3, 5, 7, 9], [9, 7, 5, 3, 1, 0, 2, 4, 6, 8, 13, 11, 10, 12, 14], [14, 12, 10, 11, 13, 8, 9, 15, 6, 4, 2, 0, 1, 3, 5, 7], [7, 5, 4, 6, 15, 9, 8, 13, 11, 10, 12, 14, 16, 2, 0, 1, 3], [3, 1, 0, 2, 16, 14, 12, 10, 11, 13, 8, 9, 15, 6, 4, 5, 7, 17]]
         [.q 0, .q 1, .q 2, .q 3, .split 36, .q 4, .q 5, .q 6, .q 7, .split 40, .q 8, .q 9, .q 10, .q 11, .eff 12, .q 13, .q 14, .q 15, .q 16, .q 17, .q 18])
       (.cond (.t 32)
        (.seq
        (.ops [.op ⟨(some 2), (.mv (.k (.raw (.int .i64 10)))), none⟩])
        (.ret))
        (.seq
        (.ops [.op ⟨(some 52), (.fieldAddr 2 (.t 1)), none⟩,
          .op ⟨(some 53), (.load none (.t 52)), none⟩,
          .op ⟨(some 54), (.len (.t 53)), none⟩,
          .op ⟨(some 55), (.bin .gtr (.t 54) (.k (.raw (.int .i64 512)))), none⟩,
          .op ⟨(some 51), (.mv (.t 55)), none⟩])
        (.cond (.t 51)
         (.seq
         (.ops [.op ⟨(some 2), (.mv (.k (.raw (.int .i64 2)))), none⟩])
         (.ret))
         (.skip))))))))))
    (.seq
    (.ops [.op ⟨(some 2), (.mv (.k (.raw (.int .i64 0)))), none⟩])
    (.ret))),
    [.tmp 2], 56⟩
theorem c_vigil_wire_Check : compFn Tryz.prog f_vigil_wire_Check = some x_vigil_wire_Check := by kernel_rfl

/- (vigil/wire.Field).out -/
def x__vigil_wire_Field__out : XFn := ⟨
    .seq
    (.ops [.op ⟨(some 1), (.box (.t 0)), none⟩,
      .op ⟨(some 2), (.mv (.k (.raw (.slice none 0 0)))), none⟩])
    (.seq
    (.seq
    (.ops [.op ⟨(some 3), (.fieldAddr 0 (.t 1)), none⟩,
      .op ⟨(some 4), (.load none (.t 3)), none⟩,
      .op ⟨(some 5), (.bin .eql (.t 4) (.k (.raw (.int .i64 4)))), none⟩])
    (.cond (.t 5)
     (.seq
     (.draw [⟨(some 6), (.fieldAddr 2 (.t 1)), none⟩,
       ⟨(some 7), (.load none (.t 6)), none⟩,
       ⟨(some 8), (.len (.t 7)), none⟩,
       ⟨(some 9), (.call f_vigil_wire_number [(.k (.raw (.int .i64 1))), (.t 8)]), none⟩,
       ⟨(some 10), (.fieldAddr 2 (.t 1)), none⟩,
       ⟨(some 11), (.load none (.t 10)), none⟩,
       ⟨(some 12), (.append 1 1 (.t 9) (.t 11)), none⟩,
       ⟨(some 2), (.mv (.t 12)), none⟩]
       [[], [0], [0, 1], [1, 0, 2], [], [4], [4, 5, 2, 0, 1, 3], [3, 1, 0, 2, 5, 4, 6]]
       [.q 0, .q 1, .q 2, .q 4, .q 5, .eff 3, .eff 6, .q 7])
     (.ret))
     (.skip)))
    (.seq
    (.ops [.op ⟨(some 13), (.fieldAddr 0 (.t 1)), none⟩,
      .op ⟨(some 14), (.load none (.t 13)), none⟩,
      .op ⟨(some 15), (.fieldAddr 1 (.t 1)), none⟩,
      .op ⟨(some 16), (.load none (.t 15)), none⟩,
      .op ⟨(some 17), (.call f_vigil_wire_number [(.t 14), (.t 16)]), none⟩,
      .op ⟨(some 2), (.mv (.t 17)), none⟩])
    (.ret))),
    [.tmp 2], 18⟩
theorem c__vigil_wire_Field__out : compFn Tryz.prog f__vigil_wire_Field__out = some x__vigil_wire_Field__out := by kernel_rfl

/- vigil/wire.width -/
def x_vigil_wire_width : XFn := ⟨
    .seq
    (.ops [.op ⟨(some 2), (.mv (.k (.raw (.int .i64 0)))), none⟩])
    (.seq
    (.ops [.op ⟨(some 3), (.mv (.t 0)), none⟩,
      .op ⟨(some 4), (.bin .shl (.k (.raw (.int .i64 1))) (.t 3)), none⟩,
      .op ⟨(some 2), (.mv (.t 4)), none⟩])
    (.ret)),
    [.tmp 2], 5⟩
theorem c_vigil_wire_width : compFn Tryz.prog f_vigil_wire_width = some x_vigil_wire_width := by kernel_rfl

/- slices.AppendSeq[[]int,int] -/
def x_slices_AppendSeq___int_int_ : XFn := ⟨
    .seq
    (.ops [.op ⟨(some 2), (.box (.t 0)), none⟩,
      .op ⟨(some 4), (.mv (.k (.raw (.slice none 0 0)))), none⟩])
    (.seq
    (.seq
    (.ops [.op ⟨(some 6), (.mv (.t 1)), none⟩])
    (.block 0
     (.rangeFunc (.t 6) #[7]
      (.ops [.op ⟨(some 5), (.mv (.t 7)), none⟩])
      (.block 1
       (.ops [.op ⟨(some 8), (.load none (.t 2)), none⟩,
         .op ⟨(some 9), (.mv (.t 5)), none⟩,
         .op ⟨(some 10), (.buildF 1 [(.int .i64 0)] [(0, 1, (.t 9))]), none⟩,
         .op ⟨(some 11), (.append 1 8 (.t 8) (.t 10)), none⟩,
         .op ⟨none, (.store 1 (.t 2) (.t 11)), none⟩])))))
    (.seq
    (.ops [.op ⟨(some 12), (.load none (.t 2)), none⟩,
      .op ⟨(some 4), (.mv (.t 12)), none⟩])
    (.ret))),
    [.tmp 4], 13⟩
theorem c_slices_AppendSeq___int_int_ : compFn Tryz.prog f_slices_AppendSeq___int_int_ = some x_slices_AppendSeq___int_int_ := by kernel_rfl

/- (*vigil/digest.state).mix -/
def x___vigil_digest_state__mix : XFn := ⟨
    .seq
    (.ops [.op ⟨(some 12), (.mv (.t 1)), none⟩,
      .op ⟨(some 13), (.call f_vigil_digest_spread [(.t 12)]), none⟩,
      .op ⟨(some 14), (.call f_vigil_digest_table []), none⟩,
      .op ⟨(some 4), (.alloc [(.int .u32 0), (.int .u32 0), (.int .u32 0), (.int .u32 0), (.int .u32 0), (.int .u32 0), (.int .u32 0), (.int .u32 0), (.int .u32 0), (.int .u32 0), (.int .u32 0), (.int .u32 0), (.int .u32 0), (.int .u32 0), (.int .u32 0), (.int .u32 0), (.int .u32 0), (.int .u32 0), (.int .u32 0), (.int .u32 0), (.int .u32 0), (.int .u32 0), (.int .u32 0), (.int .u32 0), (.int .u32 0), (.int .u32 0), (.int .u32 0), (.int .u32 0), (.int .u32 0), (.int .u32 0), (.int .u32 0), (.int .u32 0), (.int .u32 0), (.int .u32 0), (.int .u32 0), (.int .u32 0), (.int .u32 0), (.int .u32 0), (.int .u32 0), (.int .u32 0), (.int .u32 0), (.int .u32 0), (.int .u32 0), (.int .u32 0), (.int .u32 0), (.int .u32 0), (.int .u32 0), (.int .u32 0), (.int .u32 0), (.int .u32 0), (.int .u32 0), (.int .u32 0), (.int .u32 0), (.int .u32 0), (.int .u32 0), (.int .u32 0), (.int .u32 0), (.int .u32 0), (.int .u32 0), (.int .u32 0), (.int .u32 0), (.int .u32 0), (.int .u32 0), (.int .u32 0)]), none⟩,
      .op ⟨(some 5), (.alloc [(.int .u32 0), (.int .u32 0), (.int .u32 0), (.int .u32 0), (.int .u32 0), (.int .u32 0), (.int .u32 0), (.int .u32 0), (.int .u32 0), (.int .u32 0), (.int .u32 0), (.int .u32 0), (.int .u32 0), (.int .u32 0), (.int .u32 0), (.int .u32 0), (.int .u32 0), (.int .u32 0), (.int .u32 0), (.int .u32 0), (.int .u32 0), (.int .u32 0), (.int .u32 0), (.int .u32 0), (.int .u32 0), (.int .u32 0), (.int .u32 0), (.int .u32 0), (.int .u32 0), (.int .u32 0), (.int .u32 0), (.int .u32 0), (.int .u32 0), (.int .u32 0), (.int .u32 0), (.int .u32 0), (.int .u32 0), (.int .u32 0), (.int .u32 0), (.int .u32 0), (.int .u32 0), (.int .u32 0), (.int .u32 0), (.int .u32 0), (.int .u32 0), (.int .u32 0), (.int .u32 0), (.int .u32 0), (.int .u32 0), (.int .u32 0), (.int .u32 0), (.int .u32 0), (.int .u32 0), (.int .u32 0), (.int .u32 0), (.int .u32 0), (.int .u32 0), (.int .u32 0), (.int .u32 0), (.int .u32 0), (.int .u32 0), (.int .u32 0), (.int .u32 0), (.int .u32 0)]), none⟩,
      .op ⟨none, (.store 64 (.t 4) (.t 13)), none⟩,
      .op ⟨none, (.store 64 (.t 5) (.t 14)), none⟩])
    (.seq
    (.ops [.op ⟨(some 15), (.mv (.t 0)), none⟩,
      .op ⟨(some 16), (.nilCheck (.t 15)), none⟩,
      .op ⟨(some 17), (.fieldAddr 0 (.t 16)), none⟩,
      .op ⟨(some 18), (.load (some 8) (.t 17)), none⟩,
      .op ⟨(some 6), (.alloc [(.int .u32 0), (.int .u32 0), (.int .u32 0), (.int .u32 0), (.int .u32 0), (.int .u32 0), (.int .u32 0), (.int .u32 0)]), none⟩,
      .op ⟨none, (.store 8 (.t 6) (.t 18)), none⟩])
    (.seq
    (.ops [.op ⟨(some 7), (.mv (.k (.func (.func f___vigil_digest_state__mix_1) [] []))), none⟩])
    (.seq
    (.seq
    (.ops [.op ⟨(some 19), (.mv (.k (.raw (.int .i64 0)))), none⟩])
    (.block 0
     (.loop
      (.seq
      (.ops [.op ⟨(some 20), (.bin .lss (.t 19) (.k (.raw (.int .i64 64)))), none⟩])
      (.seq
      (.cond (.t 20)
       (.skip)
       (.exit 0))
      (.seq
      (.block 1
       (.seq
       (.ops [.op ⟨(some 21), (.mv (.t 19)), none⟩,
         .op ⟨(some 8), (.mv (.t 21)), none⟩])
       (.seq
       (.draw [⟨(some 22), (.idxAddrArr 8 1 (.t 6) (.k (.raw (.int .i64 7)))), none⟩,
         ⟨(some 23), (.load none (.t 22)), none⟩,
         ⟨(some 24), (.mv (.t 7)), none⟩,
         ⟨(some 25), (.idxAddrArr 8 1 (.t 6) (.k (.raw (.int .i64 4)))), none⟩,
         ⟨(some 26), (.load none (.t 25)), none⟩,
         ⟨(some 27), (.callv (.t 24) [(.t 26), (.k (.raw (.int .i64 6))), (.k (.raw (.int .i64 11))), (.k (.raw (.int .i64 25)))]), none⟩,
         ⟨(some 28), (.bin .add (.t 23) (.t 27)), none⟩,
         ⟨(some 29), (.idxAddrArr 8 1 (.t 6) (.k (.raw (.int .i64 4)))), none⟩,
         ⟨(some 30), (.load none (.t 29)), none⟩,
         ⟨(some 31), (.idxAddrArr 8 1 (.t 6) (.k (.raw (.int .i64 5)))), none⟩,
         ⟨(some 32), (.load none (.t 31)), none⟩,
         ⟨(some 33), (.bin .and (.t 30) (.t 32)), none⟩,
         ⟨(some 34), (.idxAddrArr 8 1 (.t 6) (.k (.raw (.int .i64 4)))), none⟩,
         ⟨(some 35), (.load none (.t 34)), none⟩,
         ⟨(some 36), (.un .xor (.t 35)), none⟩,
         ⟨(some 37), (.idxAddrArr 8 1 (.t 6) (.k (.raw (.int .i64 6)))), none⟩,
         ⟨(some 38), (.load none (.t 37)), none⟩,
         ⟨(some 39), (.bin .and (.t 36) (.t 38)), none⟩,
         ⟨(some 40), (.bin .xor (.t 33) (.t 39)), none⟩,
         ⟨(some 41), (.bin .add (.t 28) (.t 40)), none⟩,
         ⟨(some 42), (.mv (.t 8)), none⟩,
         ⟨(some 43), (.idxAddrArr 64 1 (.t 5) (.t 42)), none⟩,
         ⟨(some 44), (.load none (.t 43)), none⟩,
         ⟨(some 45), (.bin .add (.t 41) (.t 44)), none⟩,
         ⟨(some 46), (.mv (.t 8)), none⟩,
         ⟨(some 47), (.idxAddrArr 64 1 (.t 4) (.t 46)), none⟩,
         ⟨(some 48), (.load none (.t 47)), none⟩,
         ⟨(some 49), (.bin .add (.t 45) (.t 48)), none⟩,
         ⟨(some 9), (.mv (.t 49)), none⟩]
         [[], [0], [], [], [3], [3, 4, 2], [2, 4, 3, 5, 0, 1], [], [7], [], [9], [9, 10, 7, 8], [], [12], [12, 13], [], [15], [15, 16, 13, 12, 14], [14, 12, 13, 16, 15, 17, 8, 7, 10, 9, 11], [11, 9, 10, 7, 8, 17, 15, 16, 13, 12, 14, 18, 1, 0, 5, 3, 4, 2, 6], [], [20], [20, 21], [21, 20, 22, 6, 2, 4, 3, 5, 0, 1, 18, 14, 12, 13, 16, 15, 17, 8, 7, 10, 9, 11, 19], [], [24], [24, 25], [25, 24, 26, 19, 11, 9, 10, 7, 8, 17, 15, 16, 13, 12, 14, 18, 1, 0, 5, 3, 4, 2, 6, 22, 20, 21, 23], [23, 21, 20, 22, 6, 2, 4, 3, 5, 0, 1, 18, 14, 12, 13, 16, 15, 17, 8, 7, 10, 9, 11, 19, 26, 24, 25, 27]]
         [.q 0, .q 1, .q 2, .q 3, .q 4, .q 7, .q 8, .q 9, .q 10, .q 11, .q 12, .q 13, .q 14, .q 15, .q 16, .q 17, .q 18, .q 20, .q 21, .q 22, .q 24, .q 25, .q 26, .eff 5, .q 6, .q 19, .q 23, .q 27, .q 28])
       (.seq
       (.draw [⟨(some 50), (.mv (.t 7)), none⟩,
         ⟨(some 51), (.idxAddrArr 8 1 (.t 6) (.k (.raw (.int .i64 0)))), none⟩,
         ⟨(some 52), (.load none (.t 51)), none⟩,
         ⟨(some 53), (.callv (.t 50) [(.t 52), (.k (.raw (.int .i64 2))), (.k (.raw (.int .i64 13))), (.k (.raw (.int .i64 22)))]), none⟩,
         ⟨(some 54), (.idxAddrArr 8 1 (.t 6) (.k (.raw (.int .i64 0)))), none⟩,
         ⟨(some 55), (.load none (.t 54)), none⟩,
         ⟨(some 56), (.idxAddrArr 8 1 (.t 6) (.k (.raw (.int .i64 1)))), none⟩,
         ⟨(some 57), (.load none (.t 56)), none⟩,
         ⟨(some 58), (.bin .and (.t 55) (.t 57)), none⟩,
         ⟨(some 59), (.idxAddrArr 8 1 (.t 6) (.k (.raw (.int .i64 0)))), none⟩,
         ⟨(some 60), (.load none (.t 59)), none⟩,
         ⟨(some 61), (.idxAddrArr 8 1 (.t 6) (.k (.raw (.int .i64 2)))), none⟩,
         ⟨(some 62), (.load none (.t 61)), none⟩,
         ⟨(some 63), (.bin .and (.t 60) (.t 62)), none⟩,
         ⟨(some 64), (.bin .xor (.t 58) (.t 63)), none⟩,
         ⟨(some 65), (.idxAddrArr 8 1 (.t 6) (.k (.raw (.int .i64 1)))), none⟩,
         ⟨(some 66), (.load none (.t 65)), none⟩,
         ⟨(some 67), (.idxAddrArr 8 1 (.t 6) (.k (.raw (.int .i64 2)))), none⟩,
         ⟨(some 68), (.load none (.t 67)), none⟩,
         ⟨(some 69), (.bin .and (.t 66) (.t 68)), none⟩,
         ⟨(some 70), (.bin .xor (.t 64) (.t 69)), none⟩,
         ⟨(some 71), (.bin .add (.t 53) (.t 70)), none⟩,
         ⟨(some 10), (.mv (.t 71)), none⟩]
         [[], [], [1], [1, 2, 0], [], [4], [], [6], [6, 7, 4, 5], [], [9], [], [11], [11, 12, 9, 10], [10, 9, 12, 11, 13, 5, 4, 7, 6, 8], [], [15], [], [17], [17, 18, 15, 16], [16, 15, 18, 17, 19, 8, 6, 7, 4, 5, 13, 11, 12, 9, 10, 14], [14, 10, 9, 12, 11, 13, 5, 4, 7, 6, 8, 19, 17, 18, 15, 16, 20, 0, 2, 1, 3], [3, 1, 2, 0, 20, 16, 15, 18, 17, 19, 8, 6, 7, 4, 5, 13, 11, 12, 9, 10, 14, 21]]
         [.q 0, .q 1, .q 2, .q 4, .q 5, .q 6, .q 7, .q 8, .q 9, .q 10, .q 11, .q 12, .q 13, .q 14, .q 15, .q 16, .q 17, .q 18, .q 19, .q 20, .eff 3, .q 21, .q 22])
       (.ops [.op ⟨(some 72), (.mv (.t 9)), none⟩,
         .op ⟨(some 73), (.mv (.t 10)), none⟩,
         .op ⟨(some 74), (.bin .add (.t 72) (.t 73)), none⟩,
         .op ⟨(some 75), (.idxAddrArr 8 1 (.t 6) (.k (.raw (.int .i64 0)))), none⟩,
         .op ⟨(some 76), (.load none (.t 75)), none⟩,
         .op ⟨(some 77), (.idxAddrArr 8 1 (.t 6) (.k (.raw (.int .i64 1)))), none⟩,
         .op ⟨(some 78), (.load none (.t 77)), none⟩,
         .op ⟨(some 79), (.idxAddrArr 8 1 (.t 6) (.k (.raw (.int .i64 2)))), none⟩,
         .op ⟨(some 80), (.load none (.t 79)), none⟩,
         .op ⟨(some 81), (.idxAddrArr 8 1 (.t 6) (.k (.raw (.int .i64 3)))), none⟩,
         .op ⟨(some 82), (.load none (.t 81)), none⟩,
         .op ⟨(some 83), (.mv (.t 9)), none⟩,
         .op ⟨(some 84), (.bin .add (.t 82) (.t 83)), none⟩,
         .op ⟨(some 85), (.idxAddrArr 8 1 (.t 6) (.k (.raw (.int .i64 4)))), none⟩,
         .op ⟨(some 86), (.load none (.t 85)), none⟩,
         .op ⟨(some 87), (.idxAddrArr 8 1 (.t 6) (.k (.raw (.int .i64 5)))), none⟩,
         .op ⟨(some 88), (.load none (.t 87)), none⟩,
         .op ⟨(some 89), (.idxAddrArr 8 1 (.t 6) (.k (.raw (.int .i64 6)))), none⟩,
         .op ⟨(some 90), (.load none (.t 89)), none⟩,
         .op ⟨(some 91), (.build [(.int .u32 0), (.int .u32 0), (.int .u32 0), (.int .u32 0), (.int .u32 0), (.int .u32 0), (.int .u32 0), (.int .u32 0)] [(0, 1, (.t 74)), (1, 1, (.t 76)), (2, 1, (.t 78)), (3, 1, (.t 80)), (4, 1, (.t 84)), (5, 1, (.t 86)), (6, 1, (.t 88)), (7, 1, (.t 90))]), none⟩,
         .op ⟨none, (.store 8 (.t 6) (.t 91)), none⟩])))))
      (.ops [.op ⟨(some 92), (.bin .add (.t 19) (.k (.raw (.int .i64 1)))), none⟩,
        .op ⟨(some 19), (.mv (.t 92)), none⟩])))))))
    (.seq
    (.ops [.op ⟨(some 93), (.mv (.k (.raw (.int .i64 0)))), none⟩])
    (.block 2
     (.loop
      (.seq
      (.ops [.op ⟨(some 94), (.bin .lss (.t 93) (.k (.raw (.int .i64 8)))), none⟩])
      (.seq
      (.cond (.t 94)
       (.skip)
       (.exit 2))
      (.seq
      (.block 3
       (.seq
       (.ops [.op ⟨(some 95), (.mv (.t 93)), none⟩,
         .op ⟨(some 11), (.mv (.t 95)), none⟩])
       (.draw [⟨(some 96), (.mv (.t 0)), none⟩,
         ⟨(some 97), (.mv (.t 11)), none⟩,
         ⟨(some 98), (.nilCheck (.t 96)), none⟩,
         ⟨(some 99), (.fieldAddr 0 (.t 98)), none⟩,
         ⟨(some 100), (.idxAddrArr 8 1 (.t 99) (.t 97)), none⟩,
         ⟨(some 101), (.load none (.t 100)), none⟩,
         ⟨(some 102), (.mv (.t 11)), none⟩,
         ⟨(some 103), (.idxAddrArr 8 1 (.t 6) (.t 102)), none⟩,
         ⟨(some 104), (.load none (.t 103)), none⟩,
         ⟨(some 105), (.bin .add (.t 101) (.t 104)), none⟩,
         ⟨(some 106), (.nilCheck (.t 96)), none⟩,
         ⟨(some 107), (.fieldAddr 0 (.t 106)), none⟩,
         ⟨(some 108), (.idxAddrArr 8 1 (.t 107) (.t 97)), none⟩,
         ⟨none, (.store 1 (.t 108) (.t 105)), none⟩]
         [[], [], [0], [0, 2], [1, 2, 0, 3], [3, 0, 2, 1, 4], [], [6], [6, 7], [7, 6, 8, 4, 1, 2, 0, 3, 5], [0], [0, 10], [9, 8, 7, 6, 5, 4, 3, 2, 1, 10, 0, 11], [11, 0, 10, 1, 2, 3, 4, 5, 6, 7, 8, 9, 12]]
         [.q 0, .q 1, .q 2, .q 3, .q 4, .q 5, .q 6, .q 7, .q 8, .q 9, .q 10, .q 11, .q 12, .eff 13])))
      (.ops [.op ⟨(some 109), (.bin .add (.t 93) (.k (.raw (.int .i64 1)))), none⟩,
        .op ⟨(some 93), (.mv (.t 109)), none⟩])))))))))),
    [], 110⟩
theorem c___vigil_digest_state__mix : compFn Tryz.prog f___vigil_digest_state__mix = some x___vigil_digest_state__mix := by kernel_rfl

/- slices.siftDownOrdered[int] -/
def x_slices_siftDownOrdered_int_ : XFn := ⟨
    .seq
    (.ops [.op ⟨(some 10), (.mv (.t 1)), none⟩,
      .op ⟨(some 8), (.mv (.t 10)), none⟩])
    (.block 0
     (.loop
      (.block 1
       (.seq
       (.ops [.op ⟨(some 11), (.mv (.t 8)), none⟩,
         .op ⟨(some 12), (.bin .mul (.k (.raw (.int .i64 2))) (.t 11)), none⟩,
         .op ⟨(some 13), (.bin .add (.t 12) (.k (.raw (.int .i64 1)))), none⟩,
         .op ⟨(some 9), (.mv (.t 13)), none⟩])
       (.seq
       (.seq
       (.ops [.op ⟨(some 14), (.mv (.t 9)), none⟩,
         .op ⟨(some 15), (.mv (.t 2)), none⟩,
         .op ⟨(some 16), (.bin .geq (.t 14) (.t 15)), none⟩])
       (.cond (.t 16)
        (.exit 0)
        (.skip)))
       (.seq
       (.seq
       (.draw [⟨(some 17), (.mv (.t 9)), none⟩,
         ⟨(some 18), (.bin .add (.t 17) (.k (.raw (.int .i64 1)))), none⟩,
         ⟨(some 19), (.mv (.t 2)), none⟩,
         ⟨(some 20), (.bin .lss (.t 18) (.t 19)), none⟩,
         ⟨(some 21), (.mv (.t 20)), none⟩,
         ⟨(some 22), (.mv (.t 0)), (some (21, true))⟩,
         ⟨(some 23), (.mv (.t 3)), (some (21, true))⟩,
         ⟨(some 24), (.mv (.t 9)), (some (21, true))⟩,
         ⟨(some 25), (.bin .add (.t 23) (.t 24)), (some (21, true))⟩,
         ⟨(some 26), (.idxAddr 1 (.t 22) (.t 25)), (some (21, true))⟩,
         ⟨(some 27), (.load none (.t 26)), (some (21, true))⟩,
         ⟨(some 28), (.mv (.t 0)), (some (21, true))⟩,
         ⟨(some 29), (.mv (.t 3)), (some (21, true))⟩,
         ⟨(some 30), (.mv (.t 9)), (some (21, true))⟩,
         ⟨(some 31), (.bin .add (.t 29) (.t 30)), (some (21, true))⟩,
         ⟨(some 32), (.bin .add (.t 31) (.k (.raw (.int .i64 1)))), (some (21, true))⟩,
         ⟨(some 33), (.idxAddr 1 (.t 28) (.t 32)), (some (21, true))⟩,
         ⟨(some 34), (.load none (.t 33)), (some (21, true))⟩,
         ⟨(some 35), (.call f_cmp_Less_int_ [(.t 27), (.t 34)]), (some (21, true))⟩,
         ⟨(some 36), (.pick (.t 21) (.t 35) (.k (.raw (.bool false)))), none⟩]
         [[], [0], [], [2, 0, 1], [1, 0, 2, 3], [3, 2, 0, 1, 4], [3, 2, 0, 1, 4], [3, 2, 0, 1, 4], [7, 4, 1, 0, 2, 3, 6], [6, 7, 8, 4, 1, 0, 2, 3, 5], [5, 3, 2, 0, 1, 4, 8, 7, 6, 9], [3, 2, 0, 1, 4], [3, 2, 0, 1, 4], [3, 2, 0, 1, 4], [13, 4, 1, 0, 2, 3, 12], [12, 3, 2, 0, 1, 4, 13, 14], [14, 13, 12, 15, 4, 1, 0, 2, 3, 11], [11, 3, 2, 0, 1, 4, 15, 12, 13, 14, 16], [16, 14, 13, 12, 15, 11, 17, 9, 6, 7, 8, 4, 1, 0, 2, 3, 5, 10], [10, 5, 8, 7, 6, 9, 17, 11, 15, 12, 13, 14, 16, 18, 3, 2, 0, 1, 4]]
         [.q 0, .q 1, .q 2, .q 3, .q 4, .split 21, .q 5, .q 6, .q 7, .q 8, .q 9, .q 10, .q 11, .q 12, .q 13, .q 14, .q 15, .q 16, .q 17, .eff 18, .q 19])
       (.cond (.t 36)
        (.ops [.op ⟨(some 37), (.mv (.t 9)), none⟩,
          .op ⟨(some 38), (.bin .add (.t 37) (.k (.raw (.int .i64 1)))), none⟩,
          .op ⟨(some 9), (.mv (.t 38)), none⟩])
        (.skip)))
       (.seq
       (.seq
       (.draw [⟨(some 39), (.mv (.t 0)), none⟩,
         ⟨(some 40), (.mv (.t 3)), none⟩,
         ⟨(some 41), (.mv (.t 8)), none⟩,
         ⟨(some 42), (.bin .add (.t 40) (.t 41)), none⟩,
         ⟨(some 43), (.idxAddr 1 (.t 39) (.t 42)), none⟩,
         ⟨(some 44), (.load none (.t 43)), none⟩,
         ⟨(some 45), (.mv (.t 0)), none⟩,
         ⟨(some 46), (.mv (.t 3)), none⟩,
         ⟨(some 47), (.mv (.t 9)), none⟩,
         ⟨(some 48), (.bin .add (.t 46) (.t 47)), none⟩,
         ⟨(some 49), (.idxAddr 1 (.t 45) (.t 48)), none⟩,
         ⟨(some 50), (.load none (.t 49)), none⟩,
         ⟨(some 51), (.call f_cmp_Less_int_ [(.t 44), (.t 50)]), none⟩,
         ⟨(some 52), (.un .not (.t 51)), none⟩]
         [[], [], [], [2, 1], [1, 2, 3, 0], [0, 3, 2, 1, 4], [], [], [], [8, 7], [7, 8, 9, 6], [6, 9, 8, 7, 10], [10, 7, 8, 9, 6, 11, 4, 1, 2, 3, 0, 5], [5, 0, 3, 2, 1, 4, 11, 6, 9, 8, 7, 10, 12]]
         [.q 0, .q 1, .q 2, .q 3, .q 4, .q 5, .q 6, .q 7, .q 8, .q 9, .q 10, .q 11, .eff 12, .q 13])
       (.cond (.t 52)
        (.ret)
        (.skip)))
       (.seq
       (.draw [⟨(some 53), (.mv (.t 0)), none⟩,
         ⟨(some 54), (.mv (.t 3)), none⟩,
         ⟨(some 55), (.mv (.t 8)), none⟩,
         ⟨(some 56), (.bin .add (.t 54) (.t 55)), none⟩,
         ⟨(some 57), (.mv (.t 0)), none⟩,
         ⟨(some 58), (.mv (.t 3)), none⟩,
         ⟨(some 59), (.mv (.t 9)), none⟩,
         ⟨(some 60), (.bin .add (.t 58) (.t 59)), none⟩,
         ⟨(some 61), (.mv (.t 0)), none⟩,
         ⟨(some 62), (.mv (.t 3)), none⟩,
         ⟨(some 63), (.mv (.t 9)), none⟩,
         ⟨(some 64), (.bin .add (.t 62) (.t 63)), none⟩,
         ⟨(some 65), (.idxAddr 1 (.t 61) (.t 64)), none⟩,
         ⟨(some 66), (.load none (.t 65)), none⟩,
         ⟨(some 67), (.mv (.t 0)), none⟩,
         ⟨(some 68), (.mv (.t 3)), none⟩,
         ⟨(some 69), (.mv (.t 8)), none⟩,
         ⟨(some 70), (.bin .add (.t 68) (.t 69)), none⟩,
         ⟨(some 71), (.idxAddr 1 (.t 67) (.t 70)), none⟩,
         ⟨(some 72), (.load none (.t 71)), none⟩,
         ⟨(some 73), (.idxAddr 1 (.t 53) (.t 56)), none⟩,
         ⟨none, (.store 1 (.t 73) (.t 66)), none⟩,
         ⟨(some 74), (.idxAddr 1 (.t 57) (.t 60)), none⟩,
         ⟨none, (.store 1 (.t 74) (.t 72)), none⟩]
         [[], [], [], [2, 1], [], [], [], [6, 5], [], [], [], [10, 9], [9, 10, 11, 8], [8, 11, 10, 9, 12], [], [], [], [16, 15], [15, 16, 17, 14], [14, 17, 16, 15, 18], [18, 15, 16, 17, 14, 19, 13, 12, 11, 10, 9, 8, 1, 2, 3, 0], [0, 3, 2, 1, 8, 9, 10, 11, 12, 13, 19, 14, 17, 16, 15, 18, 20], [21, 20, 19, 18, 17, 16, 15, 14, 13, 12, 11, 10, 9, 8, 3, 2, 1, 0, 5, 6, 7, 4], [4, 7, 6, 5, 0, 1, 2, 3, 8, 9, 10, 11, 12, 13, 14, 15, 16, 17, 18, 19, 20, 21, 22]]
         [.q 0, .q 1, .q 2, .q 3, .q 4, .q 5, .q 6, .q 7, .q 8, .q 9, .q 10, .q 11, .q 12, .q 13, .q 14, .q 15, .q 16, .q 17, .q 18, .q 19, .q 20, .eff 21, .q 22, .eff 23])
       (.ops [.op ⟨(some 75), (.mv (.t 9)), none⟩,
         .op ⟨(some 8), (.mv (.t 75)), none⟩]))))))))),
    [], 76⟩
theorem c_slices_siftDownOrdered_int_ : compFn Tryz.prog f_slices_siftDownOrdered_int_ = some x_slices_siftDownOrdered_int_ := by kernel_rfl

/- slices.nextPowerOfTwo -/
def x_slices_nextPowerOfTwo : XFn := ⟨
    .seq
    (.ops [.op ⟨(some 2), (.mv (.k (.raw (.int .u64 0)))), none⟩])
    (.seq
    (.ops [.op ⟨(some 3), (.mv (.t 0)), none⟩,
      .op ⟨(some 4), (.conv .u64 (.t 3)), none⟩,
      .op ⟨(some 5), (.call f_math_bits_Len [(.t 4)]), none⟩,
      .op ⟨(some 6), (.bin .shl (.k (.raw (.int .u64 1))) (.t 5)), none⟩,
      .op ⟨(some 2), (.mv (.t 6)), none⟩])
    (.ret)),
    [.tmp 2], 7⟩
theorem c_slices_nextPowerOfTwo : compFn Tryz.prog f_slices_nextPowerOfTwo = some x_slices_nextPowerOfTwo := by kernel_rfl

/- (*slices.xorshift).Next -/
def x___slices_xorshift__Next : XFn := ⟨
    .seq
    (.ops [.op ⟨(some 2), (.mv (.k (.raw (.int .u64 0)))), none⟩])
    (.seq
    (.draw [⟨(some 3), (.mv (.t 0)), none⟩,
      ⟨(some 4), (.nilCheck (.t 3)), none⟩,
      ⟨(some 5), (.load none (.t 4)), none⟩,
      ⟨(some 6), (.mv (.t 0)), none⟩,
      ⟨(some 7), (.nilCheck (.t 6)), none⟩,
      ⟨(some 8), (.load none (.t 7)), none⟩,
      ⟨(some 9), (.bin .shl (.t 8) (.k (.raw (.int .u64 13)))), none⟩,
      ⟨(some 10), (.bin .xor (.t 5) (.t 9)), none⟩,
      ⟨(some 11), (.nilCheck (.t 3)), none⟩,
      ⟨none, (.store 1 (.t 11) (.t 10)), none⟩]
      [[], [0], [0, 1], [], [3], [3, 4], [4, 3, 5], [5, 3, 4, 6, 1, 0, 2], [7, 6, 5, 4, 3, 2, 1, 0], [0, 1, 2, 3, 4, 5, 6, 7, 8]]
      [.q 0, .q 1, .q 2, .q 3, .q 4, .q 5, .q 6, .q 7, .q 8, .eff 9])
    (.seq
    (.draw [⟨(some 12), (.mv (.t 0)), none⟩,
      ⟨(some 13), (.nilCheck (.t 12)), none⟩,
      ⟨(some 14), (.load none (.t 13)), none⟩,
      ⟨(some 15), (.mv (.t 0)), none⟩,
      ⟨(some 16), (.nilCheck (.t 15)), none⟩,
      ⟨(some 17), (.load none (.t 16)), none⟩,
      ⟨(some 18), (.bin .shr (.t 17) (.k (.raw (.int .u64 7)))), none⟩,
      ⟨(some 19), (.bin .xor (.t 14) (.t 18)), none⟩,
      ⟨(some 20), (.nilCheck (.t 12)), none⟩,
      ⟨none, (.store 1 (.t 20) (.t 19)), none⟩]
      [[], [0], [0, 1], [], [3], [3, 4], [4, 3, 5], [5, 3, 4, 6, 1, 0, 2], [7, 6, 5, 4, 3, 2, 1, 0], [0, 1, 2, 3, 4, 5, 6, 7, 8]]
      [.q 0, .q 1, .q 2, .q 3, .q 4, .q 5, .q 6, .q 7, .q 8, .eff 9])
    (.seq
    (.draw [⟨(some 21), (.mv (.t 0)), none⟩,
      ⟨(some 22), (.nilCheck (.t 21)), none⟩,
      ⟨(some 23), (.load none (.t 22)), none⟩,
      ⟨(some 24), (.mv (.t 0)), none⟩,
      ⟨(some 25), (.nilCheck (.t 24)), none⟩,
      ⟨(some 26), (.load none (.t 25)), none⟩,
      ⟨(some 27), (.bin .shl (.t 26) (.k (.raw (.int .u64 17)))), none⟩,
      ⟨(some 28), (.bin .xor (.t 23) (.t 27)), none⟩,
      ⟨(some 29), (.nilCheck (.t 21)), none⟩,
      ⟨none, (.store 1 (.t 29) (.t 28)), none⟩]
      [[], [0], [0, 1], [], [3], [3, 4], [4, 3, 5], [5, 3, 4, 6, 1, 0, 2], [7, 6, 5, 4, 3, 2, 1, 0], [0, 1, 2, 3, 4, 5, 6, 7, 8]]
      [.q 0, .q 1, .q 2, .q 3, .q 4, .q 5, .q 6, .q 7, .q 8, .eff 9])
    (.seq
    (.ops [.op ⟨(some 30), (.mv (.t 0)), none⟩,
      .op ⟨(some 31), (.nilCheck (.t 30)), none⟩,
      .op ⟨(some 32), (.load none (.t 31)), none⟩,
      .op ⟨(some 2), (.mv (.t 32)), none⟩])
    (.ret))))),
    [.tmp 2], 33⟩
theorem c___slices_xorshift__Next : compFn Tryz.prog f___slices_xorshift__Next = some x___slices_xorshift__Next := by kernel_rfl

/- slices.medianAdjacentOrdered[int] -/
def x_slices_medianAdjacentOrdered_int_ : XFn := ⟨
    .seq
    (.ops [.op ⟨(some 6), (.mv (.k (.raw (.int .i64 0)))), none⟩])
    (.seq
    (.ops [.op ⟨(some 7), (.mv (.t 0)), none⟩,
      .op ⟨(some 8), (.mv (.t 1)), none⟩,
      .op ⟨(some 9), (.bin .sub (.t 8) (.k (.raw (.int .i64 1)))), none⟩,
      .op ⟨(some 10), (.mv (.t 1)), none⟩,
      .op ⟨(some 11), (.mv (.t 1)), none⟩,
      .op ⟨(some 12), (.bin .add (.t 11) (.k (.raw (.int .i64 1)))), none⟩,
      .op ⟨(some 13), (.mv (.t 2)), none⟩,
      .op ⟨(some 14), (.call f_slices_medianOrdered_int_ [(.t 7), (.t 9), (.t 10), (.t 12), (.t 13)]), none⟩,
      .op ⟨(some 6), (.mv (.t 14)), none⟩])
    (.ret)),
    [.tmp 6], 15⟩
theorem c_slices_medianAdjacentOrdered_int_ : compFn Tryz.prog f_slices_medianAdjacentOrdered_int_ = some x_slices_medianAdjacentOrdered_int_ := by kernel_rfl

/- slices.medianOrdered[int] -/
def x_slices_medianOrdered_int_ : XFn := ⟨
    .seq
    (.ops [.op ⟨(some 10), (.mv (.k (.raw (.int .i64 0)))), none⟩])
    (.seq
    (.ops [.op ⟨(some 12), (.mv (.t 0)), none⟩,
      .op ⟨(some 13), (.mv (.t 1)), none⟩,
      .op ⟨(some 14), (.mv (.t 2)), none⟩,
      .op ⟨(some 15), (.mv (.t 4)), none⟩,
      .op ⟨(some 16), (.call f_slices_order2Ordered_int_ [(.t 12), (.t 13), (.t 14), (.t 15)]), none⟩,
      .op ⟨(some 11), (.mv (.t 16)), none⟩,
      .op ⟨(some 17), (.extract (.t 11) 0), none⟩,
      .op ⟨(some 18), (.extract (.t 11) 1), none⟩,
      .op ⟨(some 1), (.mv (.t 17)), none⟩,
      .op ⟨(some 2), (.mv (.t 18)), none⟩])
    (.seq
    (.ops [.op ⟨(some 20), (.mv (.t 0)), none⟩,
      .op ⟨(some 21), (.mv (.t 2)), none⟩,
      .op ⟨(some 22), (.mv (.t 3)), none⟩,
      .op ⟨(some 23), (.mv (.t 4)), none⟩,
      .op ⟨(some 24), (.call f_slices_order2Ordered_int_ [(.t 20), (.t 21), (.t 22), (.t 23)]), none⟩,
      .op ⟨(some 19), (.mv (.t 24)), none⟩,
      .op ⟨(some 25), (.extract (.t 19) 0), none⟩,
      .op ⟨(some 26), (.extract (.t 19) 1), none⟩,
      .op ⟨(some 2), (.mv (.t 25)), none⟩,
      .op ⟨(some 3), (.mv (.t 26)), none⟩])
    (.seq
    (.ops [.op ⟨(some 28), (.mv (.t 0)), none⟩,
      .op ⟨(some 29), (.mv (.t 1)), none⟩,
      .op ⟨(some 30), (.mv (.t 2)), none⟩,
      .op ⟨(some 31), (.mv (.t 4)), none⟩,
      .op ⟨(some 32), (.call f_slices_order2Ordered_int_ [(.t 28), (.t 29), (.t 30), (.t 31)]), none⟩,
      .op ⟨(some 27), (.mv (.t 32)), none⟩,
      .op ⟨(some 33), (.extract (.t 27) 0), none⟩,
      .op ⟨(some 34), (.extract (.t 27) 1), none⟩,
      .op ⟨(some 1), (.mv (.t 33)), none⟩,
      .op ⟨(some 2), (.mv (.t 34)), none⟩])
    (.seq
    (.ops [.op ⟨(some 35), (.mv (.t 2)), none⟩,
      .op ⟨(some 10), (.mv (.t 35)), none⟩])
    (.ret))))),
    [.tmp 10], 36⟩
theorem c_slices_medianOrdered_int_ : compFn Tryz.prog f_slices_medianOrdered_int_ = some x_slices_medianOrdered_int_ := by kernel_rfl

/- cmp.isNaN[int] -/
def x_cmp_isNaN_int_ : XFn := ⟨
    .seq
    (.ops [.op ⟨(some 2), (.mv (.k (.raw (.bool false)))), none⟩])
    (.seq
    (.ops [.op ⟨(some 3), (.mv (.t 0)), none⟩,
      .op ⟨(some 4), (.mv (.t 0)), none⟩,
      .op ⟨(some 5), (.bin .neq (.t 3) (.t 4)), none⟩,
      .op ⟨(some 2), (.mv (.t 5)), none⟩])
    (.ret)),
    [.tmp 2], 6⟩
theorem c_cmp_isNaN_int_ : compFn Tryz.prog f_cmp_isNaN_int_ = some x_cmp_isNaN_int_ := by kernel_rfl

/- vigil/wire.number -/
def x_vigil_wire_number : XFn := ⟨
    .seq
    (.ops [.op ⟨(some 4), (.mv (.k (.raw (.slice none 0 0)))), none⟩])
    (.seq
    (.ops [.op ⟨(some 7), (.mv (.t 0)), none⟩,
      .op ⟨(some 8), (.call f_vigil_wire_width [(.t 7)]), none⟩,
      .op ⟨(some 9), (.mkSlice 1 1 [(.int .u8 0)] (.t 8) (.t 8)), none⟩,
      .op ⟨(some 5), (.mv (.t 9)), none⟩])
    (.seq
    (.seq
    (.ops [.op ⟨(some 10), (.mv (.t 5)), none⟩,
      .op ⟨(some 11), (.len (.t 10)), none⟩,
      .op ⟨(some 12), (.mv (.k (.raw (.int .i64 0)))), none⟩])
    (.block 0
     (.loop
      (.seq
      (.ops [.op ⟨(some 13), (.bin .lss (.t 12) (.t 11)), none⟩])
      (.seq
      (.cond (.t 13)
       (.skip)
       (.exit 0))
      (.seq
      (.block 1
       (.seq
       (.ops [.op ⟨(some 14), (.mv (.t 12)), none⟩,
         .op ⟨(some 6), (.mv (.t 14)), none⟩])
       (.ops [.op ⟨(some 15), (.mv (.t 5)), none⟩,
         .op ⟨(some 16), (.mv (.t 5)), none⟩,
         .op ⟨(some 17), (.len (.t 16)), none⟩,
         .op ⟨(some 18), (.bin .sub (.t 17) (.k (.raw (.int .i64 1)))), none⟩,
         .op ⟨(some 19), (.mv (.t 6)), none⟩,
         .op ⟨(some 20), (.bin .sub (.t 18) (.t 19)), none⟩,
         .op ⟨(some 21), (.mv (.t 1)), none⟩,
         .op ⟨(some 22), (.conv .u64 (.t 21)), none⟩,
         .op ⟨(some 23), (.mv (.t 6)), none⟩,
         .op ⟨(some 24), (.bin .mul (.k (.raw (.int .i64 8))) (.t 23)), none⟩,
         .op ⟨(some 25), (.bin .shr (.t 22) (.t 24)), none⟩,
         .op ⟨(some 26), (.conv .u8 (.t 25)), none⟩,
         .op ⟨(some 27), (.idxAddr 1 (.t 15) (.t 20)), none⟩,
         .op ⟨none, (.store 1 (.t 27) (.t 26)), none⟩])))
      (.ops [.op ⟨(some 28), (.bin .add (.t 12) (.k (.raw (.int .i64 1)))), none⟩,
        .op ⟨(some 12), (.mv (.t 28)), none⟩])))))))
    (.seq
    (.ops [.op ⟨(some 29), (.mv (.t 5)), none⟩,
      .op ⟨(some 4), (.mv (.t 29)), none⟩])
    (.ret)))),
    [.tmp 4], 30⟩
theorem c_vigil_wire_number : compFn Tryz.prog f_vigil_wire_number = some x_vigil_wire_number := by kernel_rfl

/- vigil/digest.spread -/
def x_vigil_digest_spread : XFn := ⟨
    .seq
    (.ops [.op ⟨(some 2), (.alloc [(.int .u32 0), (.int .u32 0), (.int .u32 0), (.int .u32 0), (.int .u32 0), (.int .u32 0), (.int .u32 0), (.int .u32 0), (.int .u32 0), (.int .u32 0), (.int .u32 0), (.int .u32 0), (.int .u32 0), (.int .u32 0), (.int .u32 0), (.int .u32 0), (.int .u32 0), (.int .u32 0), (.int .u32 0), (.int .u32 0), (.int .u32 0), (.int .u32 0), (.int .u32 0), (.int .u32 0), (.int .u32 0), (.int .u32 0), (.int .u32 0), (.int .u32 0), (.int .u32 0), (.int .u32 0), (.int .u32 0), (.int .u32 0), (.int .u32 0), (.int .u32 0), (.int .u32 0), (.int .u32 0), (.int .u32 0), (.int .u32 0), (.int .u32 0), (.int .u32 0), (.int .u32 0), (.int .u32 0), (.int .u32 0), (.int .u32 0), (.int .u32 0), (.int .u32 0), (.int .u32 0), (.int .u32 0), (.int .u32 0), (.int .u32 0), (.int .u32 0), (.int .u32 0), (.int .u32 0), (.int .u32 0), (.int .u32 0), (.int .u32 0), (.int .u32 0), (.int .u32 0), (.int .u32 0), (.int .u32 0), (.int .u32 0), (.int .u32 0), (.int .u32 0), (.int .u32 0)]), none⟩])
    (.seq
    (.ops [.op ⟨(some 3), (.alloc [(.int .u32 0), (.int .u32 0), (.int .u32 0), (.int .u32 0), (.int .u32 0), (.int .u32 0), (.int .u32 0), (.int .u32 0), (.int .u32 0), (.int .u32 0), (.int .u32 0), (.int .u32 0), (.int .u32 0), (.int .u32 0), (.int .u32 0), (.int .u32 0), (.int .u32 0), (.int .u32 0), (.int .u32 0), (.int .u32 0), (.int .u32 0), (.int .u32 0), (.int .u32 0), (.int .u32 0), (.int .u32 0), (.int .u32 0), (.int .u32 0), (.int .u32 0), (.int .u32 0), (.int .u32 0), (.int .u32 0), (.int .u32 0), (.int .u32 0), (.int .u32 0), (.int .u32 0), (.int .u32 0), (.int .u32 0), (.int .u32 0), (.int .u32 0), (.int .u32 0), (.int .u32 0), (.int .u32 0), (.int .u32 0), (.int .u32 0), (.int .u32 0), (.int .u32 0), (.int .u32 0), (.int .u32 0), (.int .u32 0), (.int .u32 0), (.int .u32 0), (.int .u32 0), (.int .u32 0), (.int .u32 0), (.int .u32 0), (.int .u32 0), (.int .u32 0), (.int .u32 0), (.int .u32 0), (.int .u32 0), (.int .u32 0), (.int .u32 0), (.int .u32 0), (.int .u32 0)]), none⟩])
    (.seq
    (.seq
    (.ops [.op ⟨(some 9), (.mv (.k (.raw (.int .i64 0)))), none⟩])
    (.block 0
     (.loop
      (.seq
      (.ops [.op ⟨(some 10), (.bin .lss (.t 9) (.k (.raw (.int .i64 64)))), none⟩])
      (.seq
      (.cond (.t 10)
       (.skip)
       (.exit 0))
      (.seq
      (.block 1
       (.seq
       (.ops [.op ⟨(some 11), (.mv (.t 9)), none⟩,
         .op ⟨(some 4), (.mv (.t 11)), none⟩])
       (.seq
       (.seq
       (.ops [.op ⟨(some 12), (.mv (.t 4)), none⟩,
         .op ⟨(some 13), (.bin .lss (.t 12) (.k (.raw (.int .i64 16)))), none⟩])
       (.cond (.t 13)
        (.seq
        (.ops [.op ⟨(some 14), (.mv (.t 4)), none⟩,
          .op ⟨(some 15), (.mv (.t 0)), none⟩,
          .op ⟨(some 16), (.mv (.t 4)), none⟩,
          .op ⟨(some 17), (.bin .mul (.k (.raw (.int .i64 4))) (.t 16)), none⟩,
          .op ⟨(some 18), (.slice 1 (.t 15) (some (.t 17)) none none), none⟩,
          .op ⟨(some 19), (.call f_vigil_digest_word [(.t 18)]), none⟩,
          .op ⟨(some 20), (.idxAddrArr 64 1 (.t 3) (.t 14)), none⟩,
          .op ⟨none, (.store 1 (.t 20) (.t 19)), none⟩])
        (.exit 1))
        (.skip)))
       (.seq
       (.draw [⟨(some 21), (.mv (.t 4)), none⟩,
         ⟨(some 22), (.bin .sub (.t 21) (.k (.raw (.int .i64 15)))), none⟩,
         ⟨(some 23), (.idxAddrArr 64 1 (.t 3) (.t 22)), none⟩,
         ⟨(some 24), (.load none (.t 23)), none⟩,
         ⟨(some 25), (.mv (.t 4)), none⟩,
         ⟨(some 26), (.bin .sub (.t 25) (.k (.raw (.int .i64 2)))), none⟩,
         ⟨(some 27), (.idxAddrArr 64 1 (.t 3) (.t 26)), none⟩,
         ⟨(some 28), (.load none (.t 27)), none⟩,
         ⟨(some 5), (.mv (.t 24)), none⟩,
         ⟨(some 6), (.mv (.t 28)), none⟩]
         [[], [0], [0, 1], [1, 0, 2], [], [4], [4, 5], [5, 4, 6], [2, 0, 1, 3], [3, 1, 0, 2, 8, 6, 4, 5, 7]]
         [.q 0, .q 1, .q 2, .q 3, .q 4, .q 5, .q 6, .q 7, .q 8, .q 9])
       (.seq
       (.ops [.op ⟨(some 29), (.mv (.t 5)), none⟩,
         .op ⟨(some 30), (.call f_math_bits_RotateLeft32 [(.t 29), (.k (.raw (.int .i64 (-7))))]), none⟩,
         .op ⟨(some 31), (.mv (.t 5)), none⟩,
         .op ⟨(some 32), (.call f_math_bits_RotateLeft32 [(.t 31), (.k (.raw (.int .i64 (-18))))]), none⟩,
         .op ⟨(some 33), (.bin .xor (.t 30) (.t 32)), none⟩,
         .op ⟨(some 34), (.mv (.t 5)), none⟩,
         .op ⟨(some 35), (.bin .shr (.t 34) (.k (.raw (.int .u64 3)))), none⟩,
         .op ⟨(some 36), (.bin .xor (.t 33) (.t 35)), none⟩,
         .op ⟨(some 7), (.mv (.t 36)), none⟩])
       (.seq
       (.ops [.op ⟨(some 37), (.mv (.t 6)), none⟩,
         .op ⟨(some 38), (.call f_math_bits_RotateLeft32 [(.t 37), (.k (.raw (.int .i64 (-17))))]), none⟩,
         .op ⟨(some 39), (.mv (.t 6)), none⟩,
         .op ⟨(some 40), (.call f_math_bits_RotateLeft32 [(.t 39), (.k (.raw (.int .i64 (-19))))]), none⟩,
         .op ⟨(some 41), (.bin .xor (.t 38) (.t 40)), none⟩,
         .op ⟨(some 42), (.mv (.t 6)), none⟩,
         .op ⟨(some 43), (.bin .shr (.t 42) (.k (.raw (.int .u64 10)))), none⟩,
         .op ⟨(some 44), (.bin .xor (.t 41) (.t 43)), none⟩,
         .op ⟨(some 8), (.mv (.t 44)), none⟩])
       (.draw [⟨(some 45), (.mv (.t 4)), none⟩,
         ⟨(some 46), (.mv (.t 4)), none⟩,
         ⟨(some 47), (.bin .sub (.t 46) (.k (.raw (.int .i64 16)))), none⟩,
         ⟨(some 48), (.idxAddrArr 64 1 (.t 3) (.t 47)), none⟩,
         ⟨(some 49), (.load none (.t 48)), none⟩,
         ⟨(some 50), (.mv (.t 7)), none⟩,
         ⟨(some 51), (.bin .add (.t 49) (.t 50)), none⟩,
         ⟨(some 52), (.mv (.t 4)), none⟩,
         ⟨(some 53), (.bin .sub (.t 52) (.k (.raw (.int .i64 7)))), none⟩,
         ⟨(some 54), (.idxAddrArr 64 1 (.t 3) (.t 53)), none⟩,
         ⟨(some 55), (.load none (.t 54)), none⟩,
         ⟨(some 56), (.bin .add (.t 51) (.t 55)), none⟩,
         ⟨(some 57), (.mv (.t 8)), none⟩,
         ⟨(some 58), (.bin .add (.t 56) (.t 57)), none⟩,
         ⟨(some 59), (.idxAddrArr 64 1 (.t 3) (.t 45)), none⟩,
         ⟨none, (.store 1 (.t 59) (.t 58)), none⟩]
         [[], [], [1], [1, 2], [2, 1, 3], [], [5, 3, 1, 2, 4], [], [7], [7, 8], [8, 7, 9], [9, 7, 8, 10, 4, 2, 1, 3, 5, 6], [], [12, 6, 5, 3, 1, 2, 4, 10, 8, 7, 9, 11], [13, 12, 11, 10, 9, 8, 7, 6, 5, 4, 3, 2, 1, 0], [0, 1, 2, 3, 4, 5, 6, 7, 8, 9, 10, 11, 12, 13, 14]]
         [.q 0, .q 1, .q 2, .q 3, .q 4, .q 5, .q 6, .q 7, .q 8, .q 9, .q 10, .q 11, .q 12, .q 13, .q 14, .eff 15])))))))
      (.ops [.op ⟨(some 60), (.bin .add (.t 9) (.k (.raw (.int .i64 1)))), none⟩,
        .op ⟨(some 9), (.mv (.t 60)), none⟩])))))))
    (.seq
    (.ops [.op ⟨(some 61), (.load (some 64) (.t 3)), none⟩,
      .op ⟨none, (.store 64 (.t 2) (.t 61)), none⟩])
    (.ret)))),
    [.cell 2 (some 64)], 62⟩
theorem c_vigil_digest_spread : compFn Tryz.prog f_vigil_digest_spread = some x_vigil_digest_spread := by kernel_rfl

/- vigil/digest.table -/
def x_vigil_digest_table : XFn := ⟨
    .seq
    (.ops [.op ⟨(some 0), (.alloc [(.int .u32 0), (.int .u32 0), (.int .u32 0), (.int .u32 0), (.int .u32 0), (.int .u32 0), (.int .u32 0), (.int .u32 0), (.int .u32 0), (.int .u32 0), (.int .u32 0), (.int .u32 0), (.int .u32 0), (.int .u32 0), (.int .u32 0), (.int .u32 0), (.int .u32 0), (.int .u32 0), (.int .u32 0), (.int .u32 0), (.int .u32 0), (.int .u32 0), (.int .u32 0), (.int .u32 0), (.int .u32 0), (.int .u32 0), (.int .u32 0), (.int .u32 0), (.int .u32 0), (.int .u32 0), (.int .u32 0), (.int .u32 0), (.int .u32 0), (.int .u32 0), (.int .u32 0), (.int .u32 0), (.int .u32 0), (.int .u32 0), (.int .u32 0), (.int .u32 0), (.int .u32 0), (.int .u32 0), (.int .u32 0), (.int .u32 0), (.int .u32 0), (.int .u32 0), (.int .u32 0), (.int .u32 0), (.int .u32 0), (.int .u32 0), (.int .u32 0), (.int .u32 0), (.int .u32 0), (.int .u32 0), (.int .u32 0), (.int .u32 0), (.int .u32 0), (.int .u32 0), (.int .u32 0), (.int .u32 0), (.int .u32 0), (.int .u32 0), (.int .u32 0), (.int .u32 0)]), none⟩])
    (.seq
    (.ops [.op ⟨(some 1), (.build [(.int .u32 0), (.int .u32 0), (.int .u32 0), (.int .u32 0), (.int .u32 0), (.int .u32 0), (.int .u32 0), (.int .u32 0), (.int .u32 0), (.int .u32 0), (.int .u32 0), (.int .u32 0), (.int .u32 0), (.int .u32 0), (.int .u32 0), (.int .u32 0), (.int .u32 0), (.int .u32 0), (.int .u32 0), (.int .u32 0), (.int .u32 0), (.int .u32 0), (.int .u32 0), (.int .u32 0), (.int .u32 0), (.int .u32 0), (.int .u32 0), (.int .u32 0), (.int .u32 0), (.int .u32 0), (.int .u32 0), (.int .u32 0), (.int .u32 0), (.int .u32 0), (.int .u32 0), (.int .u32 0), (.int .u32 0), (.int .u32 0), (.int .u32 0), (.int .u32 0), (.int .u32 0), (.int .u32 0), (.int .u32 0), (.int .u32 0), (.int .u32 0), (.int .u32 0), (.int .u32 0), (.int .u32 0), (.int .u32 0), (.int .u32 0), (.int .u32 0), (.int .u32 0), (.int .u32 0), (.int .u32 0), (.int .u32 0), (.int .u32 0), (.int .u32 0), (.int .u32 0), (.int .u32 0), (.int .u32 0), (.int .u32 0), (.int .u32 0), (.int .u32 0), (.int .u32 0)] [(0, 1, (.k (.raw (.int .u32 1116352408)))), (1, 1, (.k (.raw (.int .u32 1899447441)))), (2, 1, (.k (.raw (.int .u32 3049323471)))), (3, 1, (.k (.raw (.int .u32 3921009573)))), (4, 1, (.k (.raw (.int .u32 961987163)))), (5, 1, (.k (.raw (.int .u32 1508970993)))), (6, 1, (.k (.raw (.int .u32 2453635748)))), (7, 1, (.k (.raw (.int .u32 2870763221)))), (8, 1, (.k (.raw (.int .u32 3624381080)))), (9, 1, (.k (.raw (.int .u32 310598401)))), (10, 1, (.k (.raw (.int .u32 607225278)))), (11, 1, (.k (.raw (.int .u32 1426881987)))), (12, 1, (.k (.raw (.int .u32 1925078388)))), (13, 1, (.k (.raw (.int .u32 2162078206)))), (14, 1, (.k (.raw (.int .u32 2614888103)))), (15, 1, (.k (.raw (.int .u32 3248222580)))), (16, 1, (.k (.raw (.int .u32 3835390401)))), (17, 1, (.k (.raw (.int .u32 4022224774)))), (18, 1, (.k (.raw (.int .u32 264347078)))), (19, 1, (.k (.raw (.int .u32 604807628)))), (20, 1, (.k (.raw (.int .u32 770255983)))), (21, 1, (.k (.raw (.int .u32 1249150122)))), (22, 1, (.k (.raw (.int .u32 1555081692)))), (23, 1, (.k (.raw (.int .u32 1996064986)))), (24, 1, (.k (.raw (.int .u32 2554220882)))), (25, 1, (.k (.raw (.int .u32 2821834349)))), (26, 1, (.k (.raw (.int .u32 2952996808)))), (27, 1, (.k (.raw (.int .u32 3210313671)))), (28, 1, (.k (.raw (.int .u32 3336571891)))), (29, 1, (.k (.raw (.int .u32 3584528711)))), (30, 1, (.k (.raw (.int .u32 113926993)))), (31, 1, (.k (.raw (.int .u32 338241895)))), (32, 1, (.k (.raw (.int .u32 666307205)))), (33, 1, (.k (.raw (.int .u32 773529912)))), (34, 1, (.k (.raw (.int .u32 1294757372)))), (35, 1, (.k (.raw (.int .u32 1396182291)))), (36, 1, (.k (.raw (.int .u32 1695183700)))), (37, 1, (.k (.raw (.int .u32 1986661051)))), (38, 1, (.k (.raw (.int .u32 2177026350)))), (39, 1, (.k (.raw (.int .u32 2456956037)))), (40, 1, (.k (.raw (.int .u32 2730485921)))), (41, 1, (.k (.raw (.int .u32 2820302411)))), (42, 1, (.k (.raw (.int .u32 3259730800)))), (43, 1, (.k (.raw (.int .u32 3345764771)))), (44, 1, (.k (.raw (.int .u32 3516065817)))), (45, 1, (.k (.raw (.int .u32 3600352804)))), (46, 1, (.k (.raw (.int .u32 4094571909)))), (47, 1, (.k (.raw (.int .u32 275423344)))), (48, 1, (.k (.raw (.int .u32 430227734)))), (49, 1, (.k (.raw (.int .u32 506948616)))), (50, 1, (.k (.raw (.int .u32 659060556)))), (51, 1, (.k (.raw (.int .u32 883997877)))), (52, 1, (.k (.raw (.int .u32 958139571)))), (53, 1, (.k (.raw (.int .u32 1322822218)))), (54, 1, (.k (.raw (.int .u32 1537002063)))), (55, 1, (.k (.raw (.int .u32 1747873779)))), (56, 1, (.k (.raw (.int .u32 1955562222)))), (57, 1, (.k (.raw (.int .u32 2024104815)))), (58, 1, (.k (.raw (.int .u32 2227730452)))), (59, 1, (.k (.raw (.int .u32 2361852424)))), (60, 1, (.k (.raw (.int .u32 2428436474)))), (61, 1, (.k (.raw (.int .u32 2756734187)))), (62, 1, (.k (.raw (.int .u32 3204031479)))), (63, 1, (.k (.raw (.int .u32 3329325298))))]), none⟩,
      .op ⟨none, (.store 64 (.t 0) (.t 1)), none⟩])
    (.ret)),
    [.cell 0 (some 64)], 2⟩
theorem c_vigil_digest_table : compFn Tryz.prog f_vigil_digest_table = some x_vigil_digest_table := by kernel_rfl

/- (*vigil/digest.state).mix$1 -/
def x___vigil_digest_state__mix_1 : XFn := ⟨
    .seq
    (.ops [.op ⟨(some 8), (.mv (.k (.raw (.int .u32 0)))), none⟩])
    (.seq
    (.ops [.op ⟨(some 9), (.mv (.t 0)), none⟩,
      .op ⟨(some 10), (.mv (.t 1)), none⟩,
      .op ⟨(some 11), (.un .neg (.t 10)), none⟩,
      .op ⟨(some 12), (.call f_math_bits_RotateLeft32 [(.t 9), (.t 11)]), none⟩,
      .op ⟨(some 13), (.mv (.t 0)), none⟩,
      .op ⟨(some 14), (.mv (.t 2)), none⟩,
      .op ⟨(some 15), (.un .neg (.t 14)), none⟩,
      .op ⟨(some 16), (.call f_math_bits_RotateLeft32 [(.t 13), (.t 15)]), none⟩,
      .op ⟨(some 17), (.bin .xor (.t 12) (.t 16)), none⟩,
      .op ⟨(some 18), (.mv (.t 0)), none⟩,
      .op ⟨(some 19), (.mv (.t 3)), none⟩,
      .op ⟨(some 20), (.un .neg (.t 19)), none⟩,
      .op ⟨(some 21), (.call f_math_bits_RotateLeft32 [(.t 18), (.t 20)]), none⟩,
      .op ⟨(some 22), (.bin .xor (.t 17) (.t 21)), none⟩,
      .op ⟨(some 8), (.mv (.t 22)), none⟩])
    (.ret)),
    [.tmp 8], 23⟩
theorem c___vigil_digest_state__mix_1 : compFn Tryz.prog f___vigil_digest_state__mix_1 = some x___vigil_digest_state__mix_1 := by kernel_rfl

/- math/bits.RotateLeft32 -/
def x_math_bits_RotateLeft32 : XFn := ⟨
    .seq
    (.ops [.op ⟨(some 4), (.mv (.k (.raw (.int .u32 0)))), none⟩])
    (.seq
    (.ops [.op ⟨(some 6), (.mv (.t 1)), none⟩,
      .op ⟨(some 7), (.conv .u64 (.t 6)), none⟩,
      .op ⟨(some 8), (.bin .and (.t 7) (.k (.raw (.int .u64 31)))), none⟩,
      .op ⟨(some 5), (.mv (.t 8)), none⟩])
    (.seq
    (.ops [.op ⟨(some 9), (.mv (.t 0)), none⟩,
      .op ⟨(some 10), (.mv (.t 5)), none⟩,
      .op ⟨(some 11), (.bin .shl (.t 9) (.t 10)), none⟩,
      .op ⟨(some 12), (.mv (.t 0)), none⟩,
      .op ⟨(some 13), (.mv (.t 5)), none⟩,
      .op ⟨(some 14), (.bin .sub (.k (.raw (.int .u64 32))) (.t 13)), none⟩,
      .op ⟨(some 15), (.bin .shr (.t 12) (.t 14)), none⟩,
      .op ⟨(some 16), (.bin .or (.t 11) (.t 15)), none⟩,
      .op ⟨(some 4), (.mv (.t 16)), none⟩])
    (.ret))),
    [.tmp 4], 17⟩
theorem c_math_bits_RotateLeft32 : compFn Tryz.prog f_math_bits_RotateLeft32 = some x_math_bits_RotateLeft32 := by kernel_rfl

/- slices.order2Ordered[int] -/
def x_slices_order2Ordered_int_ : XFn := ⟨
    .seq
    (.ops [.op ⟨(some 8), (.mv (.k (.raw (.int .i64 0)))), none⟩,
      .op ⟨(some 9), (.mv (.k (.raw (.int .i64 0)))), none⟩])
    (.seq
    (.seq
    (.draw [⟨(some 10), (.mv (.t 0)), none⟩,
      ⟨(some 11), (.mv (.t 2)), none⟩,
      ⟨(some 12), (.idxAddr 1 (.t 10) (.t 11)), none⟩,
      ⟨(some 13), (.load none (.t 12)), none⟩,
      ⟨(some 14), (.mv (.t 0)), none⟩,
      ⟨(some 15), (.mv (.t 1)), none⟩,
      ⟨(some 16), (.idxAddr 1 (.t 14) (.t 15)), none⟩,
      ⟨(some 17), (.load none (.t 16)), none⟩,
      ⟨(some 18), (.call f_cmp_Less_int_ [(.t 13), (.t 17)]), none⟩]
      [[], [], [1, 0], [0, 1, 2], [], [], [5, 4], [4, 5, 6], [6, 5, 4, 7, 2, 1, 0, 3]]
      [.q 0, .q 1, .q 2, .q 3, .q 4, .q 5, .q 6, .q 7, .eff 8])
    (.cond (.t 18)
     (.seq
     (.ops [.op ⟨(some 19), (.mv (.t 3)), none⟩,
       .op ⟨(some 20), (.nilCheck (.t 19)), none⟩,
       .op ⟨(some 21), (.load none (.t 20)), none⟩,
       .op ⟨(some 22), (.bin .add (.t 21) (.k (.raw (.int .i64 1)))), none⟩,
       .op ⟨(some 23), (.nilCheck (.t 19)), none⟩,
       .op ⟨none, (.store 1 (.t 23) (.t 22)), none⟩])
     (.seq
     (.ops [.op ⟨(some 24), (.mv (.t 2)), none⟩,
       .op ⟨(some 25), (.mv (.t 1)), none⟩,
       .op ⟨(some 8), (.mv (.t 24)), none⟩,
       .op ⟨(some 9), (.mv (.t 25)), none⟩])
     (.ret)))
     (.skip)))
    (.seq
    (.ops [.op ⟨(some 26), (.mv (.t 1)), none⟩,
      .op ⟨(some 27), (.mv (.t 2)), none⟩,
      .op ⟨(some 8), (.mv (.t 26)), none⟩,
      .op ⟨(some 9), (.mv (.t 27)), none⟩])
    (.ret))),
    [.tmp 8, .tmp 9], 28⟩
theorem c_slices_order2Ordered_int_ : compFn Tryz.prog f_slices_order2Ordered_int_ = some x_slices_order2Ordered_int_ := by kernel_rfl

/- vigil/digest.word -/
def x_vigil_digest_word : XFn := ⟨
    .seq
    (.ops [.op ⟨(some 2), (.mv (.k (.raw (.int .u32 0)))), none⟩])
    (.seq
    (.draw [⟨(some 3), (.mv (.t 0)), none⟩,
      ⟨(some 4), (.idxAddr 1 (.t 3) (.k (.raw (.int .i64 0)))), none⟩,
      ⟨(some 5), (.load none (.t 4)), none⟩,
      ⟨(some 6), (.conv .u32 (.t 5)), none⟩,
      ⟨(some 7), (.bin .shl (.t 6) (.k (.raw (.int .u64 24)))), none⟩,
      ⟨(some 8), (.mv (.t 0)), none⟩,
      ⟨(some 9), (.idxAddr 1 (.t 8) (.k (.raw (.int .i64 1)))), none⟩,
      ⟨(some 10), (.load none (.t 9)), none⟩,
      ⟨(some 11), (.conv .u32 (.t 10)), none⟩,
      ⟨(some 12), (.bin .shl (.t 11) (.k (.raw (.int .u64 16)))), none⟩,
      ⟨(some 13), (.bin .or (.t 7) (.t 12)), none⟩,
      ⟨(some 14), (.mv (.t 0)), none⟩,
      ⟨(some 15), (.idxAddr 1 (.t 14) (.k (.raw (.int .i64 2)))), none⟩,
      ⟨(some 16), (.load none (.t 15)), none⟩,
      ⟨(some 17), (.conv .u32 (.t 16)), none⟩,
      ⟨(some 18), (.bin .shl (.t 17) (.k (.raw (.int .u64 8)))), none⟩,
      ⟨(some 19), (.bin .or (.t 13) (.t 18)), none⟩,
      ⟨(some 20), (.mv (.t 0)), none⟩,
      ⟨(some 21), (.idxAddr 1 (.t 20) (.k (.raw (.int .i64 3)))), none⟩,
      ⟨(some 22), (.load none (.t 21)), none⟩,
      ⟨(some 23), (.conv .u32 (.t 22)), none⟩,
      ⟨(some 24), (.bin .or (.t 19) (.t 23)), none⟩,
      ⟨(some 2), (.mv (.t 24)), none⟩]
      [[], [0], [0, 1], [1, 0, 2], [2, 0, 1, 3], [], [5], [5, 6], [6, 5, 7], [7, 5, 6, 8], [8, 6, 5, 7, 9, 3, 1, 0, 2, 4], [], [11], [11, 12], [12, 11, 13], [13, 11, 12, 14], [14, 12, 11, 13, 15, 4, 2, 0, 1, 3, 9, 7, 5, 6, 8, 10], [], [17], [17, 18], [18, 17, 19], [19, 17, 18, 20, 10, 8, 6, 5, 7, 9, 3, 1, 0, 2, 4, 15, 13, 11, 12, 14, 16], [16, 14, 12, 11, 13, 15, 4, 2, 0, 1, 3, 9, 7, 5, 6, 8, 10, 20, 18, 17, 19, 21]]
      [.q 0, .q 1, .q 2, .q 3, .q 4, .q 5, .q 6, .q 7, .q 8, .q 9, .q 10, .q 11, .q 12, .q 13, .q 14, .q 15, .q 16, .q 17, .q 18, .q 19, .q 20, .q 21, .q 22])
    (.ret)),
    [.tmp 2], 25⟩
theorem c_vigil_digest_word : compFn Tryz.prog f_vigil_digest_word = some x_vigil_digest_word := by kernel_rfl

end Go.Ab
