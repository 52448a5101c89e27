/- The abstract code of functions of the program, and that it is what the program's text says. -/
import Derived.Test.YtdnfnjdkemohaaaGreatDoorProg
import Derived.KernelRfl
import Derived.Test.YtdnfnjdkemohaaaGreatDoorAb33
namespace Go.Ab.Pr
open Go.Proofs

def ann37 : Nat → Ann := fun i => match i with
  | 0 => ⟨[0], [], []⟩
  | 1 => ⟨[0, 10], [], []⟩
  | 2 => ⟨[2], [], []⟩
  | 3 => ⟨[0, 3], [], []⟩
  | 4 => ⟨[0, 3, 4], [], []⟩
  | 5 => ⟨[0, 3, 4, 18], [], []⟩
  | 7 => ⟨[0, 3, 4], [], []⟩
  | 8 => ⟨[0, 3, 4], [], []⟩
  | 6 => ⟨[0, 3, 4], [], []⟩
  | 9 => ⟨[2], [], []⟩
  | _ => ⟨[], [], []⟩

/-- limnograph/store.Name -/
def ir37 : AFunc := ⟨32, (
  .seq (
    .region [⟨(some 2), none, (.mov (.con (.string (str []))))⟩] [0]) (
    .seq (
      .seq (
        .region [⟨(some 5), none, (.mov (.tmp 0))⟩,
          ⟨(some 6), none, (.bin .lss (.tmp 5) (.con (.int .i64 (0))))⟩,
          ⟨(some 7), none, (.mov (.tmp 6))⟩,
          ⟨(some 8), (some (7, false)), (.mov (.tmp 0))⟩,
          ⟨(some 9), (some (7, false)), (.bin .gtr (.tmp 8) (.con (.int .i64 (4503599627370496))))⟩,
          ⟨(some 10), none, (.pick (.tmp 7) (.con (.bool true)) (.tmp 9))⟩] [0, 10]) (
        .cond (.tmp 10) (
          .seq (
            .region [⟨(some 2), none, (.mov (.con (.string (str []))))⟩] [2]) (
            .ret)) (
          .skip))) (
      .seq (
        .region [⟨(some 11), none, (.call (.con (.func (.func 105) #[] #[])) [(.con (.string (str [48]))), (.con (.int .i64 (16)))])⟩,
          ⟨(some 12), none, (.bin .add (.con (.string (str [115, 101, 103, 45]))) (.tmp 11))⟩,
          ⟨(some 13), none, (.cBytes (.tmp 12))⟩,
          ⟨(some 3), none, (.mov (.tmp 13))⟩] [0, 3]) (
        .seq (
          .seq (
            .region [⟨(some 14), none, (.mov (.tmp 3))⟩,
              ⟨(some 15), none, (.lenSl (.tmp 14))⟩,
              ⟨(some 16), none, (.bin .sub (.tmp 15) (.con (.int .i64 (1))))⟩,
              ⟨(some 4), none, (.mov (.tmp 16))⟩] [0, 3, 4]) (
            .block 0 (
              .loop (
                .seq (
                  .seq (
                    .region [⟨(some 17), none, (.mov (.tmp 0))⟩,
                      ⟨(some 18), none, (.bin .gtr (.tmp 17) (.con (.int .i64 (0))))⟩] [0, 3, 4, 18]) (
                    .cond (.tmp 18) (
                      .skip) (
                      .exit 0))) (
                  .seq (
                    .block 1 (
                      .seq (
                        .region [⟨(some 21), none, (.mov (.tmp 3))⟩,
                          ⟨(some 22), none, (.mov (.tmp 4))⟩,
                          ⟨(some 23), none, (.mov (.tmp 0))⟩,
                          ⟨(some 24), none, (.bin .rem (.tmp 23) (.con (.int .i64 (10))))⟩,
                          ⟨(some 25), none, (.bin .add (.con (.int .i64 (48))) (.tmp 24))⟩,
                          ⟨(some 26), none, (.cInt .u8 (.tmp 25))⟩,
                          ⟨(some 27), none, (.idxSl 1 (.tmp 21) (.tmp 22))⟩,
                          ⟨none, none, (.store 1 (.tmp 27) (.tmp 26))⟩] [0, 3, 4]) (
                        .region [⟨(some 28), none, (.mov (.tmp 0))⟩,
                          ⟨(some 29), none, (.bin .quo (.tmp 28) (.con (.int .i64 (10))))⟩,
                          ⟨(some 0), none, (.mov (.tmp 29))⟩] [0, 3, 4]))) (
                    .region [⟨(some 19), none, (.mov (.tmp 4))⟩,
                      ⟨(some 20), none, (.bin .sub (.tmp 19) (.con (.int .i64 (1))))⟩,
                      ⟨(some 4), none, (.mov (.tmp 20))⟩] [0, 3, 4])))))) (
          .seq (
            .region [⟨(some 30), none, (.mov (.tmp 3))⟩,
              ⟨(some 31), none, (.cStr (.tmp 30))⟩,
              ⟨(some 2), none, (.mov (.tmp 31))⟩] [2]) (
            .ret)))))), [.tmp 2]⟩

theorem comp37 : cFunc Tryz.prog ann37 13 Tryz.f37 = some ir37 := by kernel_rfl

def ann38 : Nat → Ann := fun i => match i with
  | 0 => ⟨[0], [], []⟩
  | 1 => ⟨[0, 10], [], []⟩
  | 2 => ⟨[2], [], []⟩
  | 3 => ⟨[0, 3], [], []⟩
  | 4 => ⟨[0, 3, 4], [], []⟩
  | 5 => ⟨[0, 3, 4, 12], [], []⟩
  | 7 => ⟨[0, 3, 4], [], []⟩
  | 8 => ⟨[0, 3, 4], [], []⟩
  | 6 => ⟨[0, 3, 4], [], []⟩
  | 9 => ⟨[2], [], []⟩
  | _ => ⟨[], [], []⟩

/-- limnograph/limnographref22.Name -/
def ir38 : AFunc := ⟨27, (
  .seq (
    .region [⟨(some 2), none, (.mov (.con (.string (str []))))⟩] [0]) (
    .seq (
      .seq (
        .region [⟨(some 5), none, (.mov (.tmp 0))⟩,
          ⟨(some 6), none, (.bin .lss (.tmp 5) (.con (.int .i64 (0))))⟩,
          ⟨(some 7), none, (.mov (.tmp 6))⟩,
          ⟨(some 8), (some (7, false)), (.mov (.tmp 0))⟩,
          ⟨(some 9), (some (7, false)), (.bin .gtr (.tmp 8) (.con (.int .i64 (4503599627370496))))⟩,
          ⟨(some 10), none, (.pick (.tmp 7) (.con (.bool true)) (.tmp 9))⟩] [0, 10]) (
        .cond (.tmp 10) (
          .seq (
            .region [⟨(some 2), none, (.mov (.con (.string (str []))))⟩] [2]) (
            .ret)) (
          .skip))) (
      .seq (
        .region [⟨(some 3), none, (.mov (.con (.string (str []))))⟩] [0, 3]) (
        .seq (
          .seq (
            .region [⟨(some 4), none, (.mov (.con (.int .i64 (0))))⟩] [0, 3, 4]) (
            .block 0 (
              .loop (
                .seq (
                  .seq (
                    .region [⟨(some 11), none, (.mov (.tmp 4))⟩,
                      ⟨(some 12), none, (.bin .lss (.tmp 11) (.con (.int .i64 (16))))⟩] [0, 3, 4, 12]) (
                    .cond (.tmp 12) (
                      .skip) (
                      .exit 0))) (
                  .seq (
                    .block 1 (
                      .seq (
                        .region [⟨(some 15), none, (.mov (.tmp 0))⟩,
                          ⟨(some 16), none, (.bin .rem (.tmp 15) (.con (.int .i64 (10))))⟩,
                          ⟨(some 17), none, (.bin .add (.con (.int .i64 (48))) (.tmp 16))⟩,
                          ⟨(some 18), none, (.cInt .u8 (.tmp 17))⟩,
                          ⟨(some 19), none, (.buildSlice 1 1 [(.int .u8 (0))] [(0, 1, (.tmp 18))])⟩,
                          ⟨(some 20), none, (.cStr (.tmp 19))⟩,
                          ⟨(some 21), none, (.mov (.tmp 3))⟩,
                          ⟨(some 22), none, (.bin .add (.tmp 20) (.tmp 21))⟩,
                          ⟨(some 3), none, (.mov (.tmp 22))⟩] [0, 3, 4]) (
                        .region [⟨(some 23), none, (.mov (.tmp 0))⟩,
                          ⟨(some 24), none, (.bin .quo (.tmp 23) (.con (.int .i64 (10))))⟩,
                          ⟨(some 0), none, (.mov (.tmp 24))⟩] [0, 3, 4]))) (
                    .region [⟨(some 13), none, (.mov (.tmp 4))⟩,
                      ⟨(some 14), none, (.bin .add (.tmp 13) (.con (.int .i64 (1))))⟩,
                      ⟨(some 4), none, (.mov (.tmp 14))⟩] [0, 3, 4])))))) (
          .seq (
            .region [⟨(some 25), none, (.mov (.tmp 3))⟩,
              ⟨(some 26), none, (.bin .add (.con (.string (str [115, 101, 103, 45]))) (.tmp 25))⟩,
              ⟨(some 2), none, (.mov (.tmp 26))⟩] [2]) (
            .ret)))))), [.tmp 2]⟩

theorem comp38 : cFunc Tryz.prog ann38 13 Tryz.f38 = some ir38 := by kernel_rfl

end Go.Ab.Pr
