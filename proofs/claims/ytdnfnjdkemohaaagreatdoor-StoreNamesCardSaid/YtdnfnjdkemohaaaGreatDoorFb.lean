/- The abstract code of functions of the program, and that it is what the program's text says. -/
import Derived.Test.YtdnfnjdkemohaaaGreatDoorProg
import Derived.KernelRfl
import Derived.Test.YtdnfnjdkemohaaaGreatDoorAb33
namespace Go.Ab.Pr
open Go.Proofs

def ann36 : Nat → Ann := fun i => match i with
  | 0 => ⟨[], [], []⟩
  | 1 => ⟨[1], [], []⟩
  | 2 => ⟨[1, 12], [], []⟩
  | 3 => ⟨[0], [], []⟩
  | 4 => ⟨[1, 2, 3], [], []⟩
  | 5 => ⟨[2, 3, 4, 5], [], []⟩
  | 6 => ⟨[0], [], []⟩
  | _ => ⟨[], [], []⟩

/-- limnograph/limnographlaw22.awake -/
def ir36 : AFunc := ⟨61, (
  .seq (
    .region [⟨(some 0), none, (.mov (.con (.bool false)))⟩] []) (
    .seq (
      .region [⟨(some 6), none, (.call (.con (.func (.func 40) #[] #[])) [(.con (.slice none 0 0)), (.con (.int .i64 (1000)))])⟩,
        ⟨(some 1), none, (.mov (.tmp 6))⟩] [1]) (
      .seq (
        .seq (
          .region [⟨(some 7), none, (.mov (.tmp 1))⟩,
            ⟨(some 8), none, (.eqP false (.tmp 7) (.con (.pointer none)))⟩,
            ⟨(some 9), none, (.mov (.tmp 8))⟩,
            ⟨(some 10), (some (9, false)), (.call (.con (.func (.func 37) #[] #[])) [(.con (.int .i64 (7)))])⟩,
            ⟨(some 11), (some (9, false)), (.bin .neq (.tmp 10) (.con (.string (str [115, 101, 103, 45, 48, 48, 48, 48, 48, 48, 48, 48, 48, 48, 48, 48, 48, 48, 48, 55]))))⟩,
            ⟨(some 12), none, (.pick (.tmp 9) (.con (.bool true)) (.tmp 11))⟩] [1, 12]) (
          .cond (.tmp 12) (
            .seq (
              .region [⟨(some 0), none, (.mov (.con (.bool false)))⟩] [0]) (
              .ret)) (
            .skip))) (
        .seq (
          .region [⟨(some 14), none, (.mov (.tmp 1))⟩,
            ⟨(some 15), none, (.call (.con (.func (.func 45) #[] #[])) [(.tmp 14), (.con (.int .i64 (0))), (.con (.int .i64 (0)))])⟩,
            ⟨(some 13), none, (.mov (.tmp 15))⟩,
            ⟨(some 16), none, (.extract (.tmp 13) 0)⟩,
            ⟨(some 17), none, (.extract (.tmp 13) 1)⟩,
            ⟨(some 2), none, (.mov (.tmp 16))⟩,
            ⟨(some 3), none, (.mov (.tmp 17))⟩] [1, 2, 3]) (
          .seq (
            .region [⟨(some 19), none, (.mov (.tmp 1))⟩,
              ⟨(some 20), none, (.call (.con (.func (.func 45) #[] #[])) [(.tmp 19), (.con (.int .i64 (0))), (.con (.int .i64 (1)))])⟩,
              ⟨(some 18), none, (.mov (.tmp 20))⟩,
              ⟨(some 21), none, (.extract (.tmp 18) 0)⟩,
              ⟨(some 22), none, (.extract (.tmp 18) 1)⟩,
              ⟨(some 4), none, (.mov (.tmp 21))⟩,
              ⟨(some 5), none, (.mov (.tmp 22))⟩] [2, 3, 4, 5]) (
            .seq (
              .region [⟨(some 23), none, (.mov (.tmp 2))⟩,
                ⟨(some 24), none, (.eqP true (.tmp 23) (.con (.pointer none)))⟩,
                ⟨(some 25), none, (.mov (.tmp 24))⟩,
                ⟨(some 26), (some (25, true)), (.mov (.tmp 3))⟩,
                ⟨(some 27), (some (25, true)), (.bin .eql (.tmp 26) (.con (.int .i64 (0))))⟩,
                ⟨(some 28), none, (.pick (.tmp 25) (.tmp 27) (.con (.bool false)))⟩,
                ⟨(some 29), none, (.mov (.tmp 28))⟩,
                ⟨(some 30), (some (29, true)), (.mov (.tmp 4))⟩,
                ⟨(some 31), (some (29, true)), (.eqP false (.tmp 30) (.con (.pointer none)))⟩,
                ⟨(some 32), none, (.pick (.tmp 29) (.tmp 31) (.con (.bool false)))⟩,
                ⟨(some 33), none, (.mov (.tmp 32))⟩,
                ⟨(some 34), (some (33, true)), (.mov (.tmp 5))⟩,
                ⟨(some 35), (some (33, true)), (.bin .eql (.tmp 34) (.con (.int .i64 (15))))⟩,
                ⟨(some 36), none, (.pick (.tmp 33) (.tmp 35) (.con (.bool false)))⟩,
                ⟨(some 37), none, (.mov (.tmp 36))⟩,
                ⟨(some 38), (some (37, true)), (.mov (.tmp 2))⟩,
                ⟨(some 39), (some (37, true)), (.call (.con (.func (.func 49) #[] #[])) [(.tmp 38)])⟩,
                ⟨(some 40), (some (37, true)), (.lenSl (.tmp 39))⟩,
                ⟨(some 41), (some (37, true)), (.bin .eql (.tmp 40) (.con (.int .i64 (0))))⟩,
                ⟨(some 42), none, (.pick (.tmp 37) (.tmp 41) (.con (.bool false)))⟩,
                ⟨(some 43), none, (.mov (.tmp 42))⟩,
                ⟨(some 44), (some (43, true)), (.mov (.tmp 2))⟩,
                ⟨(some 45), (some (43, true)), (.buildSlice 1 1 [(.int .u8 (0))] [(0, 1, (.con (.int .u8 (120))))])⟩,
                ⟨(some 46), (some (43, true)), (.cSl (.tmp 45))⟩,
                ⟨(some 47), (some (43, true)), (.call (.con (.func (.func 52) #[] #[])) [(.tmp 44), (.con (.int .i64 (3))), (.tmp 46)])⟩,
                ⟨(some 48), (some (43, true)), (.bin .eql (.tmp 47) (.con (.int .i64 (0))))⟩,
                ⟨(some 49), none, (.pick (.tmp 43) (.tmp 48) (.con (.bool false)))⟩,
                ⟨(some 50), none, (.mov (.tmp 49))⟩,
                ⟨(some 51), (some (50, true)), (.mov (.tmp 2))⟩,
                ⟨(some 52), (some (50, true)), (.build [(.int .i64 (0)), (.int .i64 (0))] [(0, 1, (.con (.int .i64 (3)))), (1, 1, (.con (.int .i64 (5))))])⟩,
                ⟨(some 53), (some (50, true)), (.call (.con (.func (.func 54) #[] #[])) [(.tmp 51), (.tmp 52)])⟩,
                ⟨(some 54), none, (.pick (.tmp 50) (.tmp 53) (.con (.bool false)))⟩,
                ⟨(some 55), none, (.mov (.tmp 54))⟩,
                ⟨(some 56), (some (55, true)), (.mov (.tmp 2))⟩,
                ⟨(some 57), (some (55, true)), (.build [(.int .i64 (0)), (.int .i64 (0))] [(0, 1, (.con (.int .i64 (4)))), (1, 1, (.con (.int .i64 (6))))])⟩,
                ⟨(some 58), (some (55, true)), (.call (.con (.func (.func 54) #[] #[])) [(.tmp 56), (.tmp 57)])⟩,
                ⟨(some 59), (some (55, true)), (.un .not (.tmp 58))⟩,
                ⟨(some 60), none, (.pick (.tmp 55) (.tmp 59) (.con (.bool false)))⟩,
                ⟨(some 0), none, (.mov (.tmp 60))⟩] [0]) (
              .ret))))))), [.tmp 0]⟩

theorem comp36 : cFunc Tryz.prog ann36 8 Tryz.f36 = some ir36 := by kernel_rfl

def ann9 : Nat → Ann := fun i => match i with
  | 0 => ⟨[0, 1], [], []⟩
  | 1 => ⟨[0, 1, 8], [], []⟩
  | 2 => ⟨[4], [], []⟩
  | 3 => ⟨[0, 1, 5, 6], [], []⟩
  | 4 => ⟨[0, 1, 5, 6, 22], [], []⟩
  | 5 => ⟨[4], [], []⟩
  | 6 => ⟨[4], [], []⟩
  | _ => ⟨[], [], []⟩

/-- limnograph/limnographlaw22.StoreNames -/
def ir9 : AFunc := ⟨38, (
  .seq (
    .region [⟨(some 4), none, (.mov (.con (.bool false)))⟩] [0, 1]) (
    .seq (
      .seq (
        .region [⟨(some 7), none, (.call (.con (.func (.func 36) #[] #[])) [])⟩,
          ⟨(some 8), none, (.un .not (.tmp 7))⟩] [0, 1, 8]) (
        .cond (.tmp 8) (
          .seq (
            .region [⟨(some 4), none, (.mov (.con (.bool false)))⟩] [4]) (
            .ret)) (
          .skip))) (
      .seq (
        .region [⟨(some 9), none, (.mov (.tmp 0))⟩,
          ⟨(some 10), none, (.call (.con (.func (.func 37) #[] #[])) [(.tmp 9)])⟩,
          ⟨(some 11), none, (.mov (.tmp 1))⟩,
          ⟨(some 12), none, (.call (.con (.func (.func 37) #[] #[])) [(.tmp 11)])⟩,
          ⟨(some 5), none, (.mov (.tmp 10))⟩,
          ⟨(some 6), none, (.mov (.tmp 12))⟩] [0, 1, 5, 6]) (
        .seq (
          .seq (
            .region [⟨(some 13), none, (.mov (.tmp 5))⟩,
              ⟨(some 14), none, (.mov (.tmp 0))⟩,
              ⟨(some 15), none, (.call (.con (.func (.func 38) #[] #[])) [(.tmp 14)])⟩,
              ⟨(some 16), none, (.bin .neq (.tmp 13) (.tmp 15))⟩,
              ⟨(some 17), none, (.mov (.tmp 16))⟩,
              ⟨(some 18), (some (17, false)), (.mov (.tmp 6))⟩,
              ⟨(some 19), (some (17, false)), (.mov (.tmp 1))⟩,
              ⟨(some 20), (some (17, false)), (.call (.con (.func (.func 38) #[] #[])) [(.tmp 19)])⟩,
              ⟨(some 21), (some (17, false)), (.bin .neq (.tmp 18) (.tmp 20))⟩,
              ⟨(some 22), none, (.pick (.tmp 17) (.con (.bool true)) (.tmp 21))⟩] [0, 1, 5, 6, 22]) (
            .cond (.tmp 22) (
              .seq (
                .region [⟨(some 4), none, (.mov (.con (.bool false)))⟩] [4]) (
                .ret)) (
              .skip))) (
          .seq (
            .region [⟨(some 23), none, (.mov (.tmp 5))⟩,
              ⟨(some 24), none, (.bin .eql (.tmp 23) (.con (.string (str []))))⟩,
              ⟨(some 25), none, (.mov (.tmp 24))⟩,
              ⟨(some 26), (some (25, false)), (.mov (.tmp 6))⟩,
              ⟨(some 27), (some (25, false)), (.bin .eql (.tmp 26) (.con (.string (str []))))⟩,
              ⟨(some 28), none, (.pick (.tmp 25) (.con (.bool true)) (.tmp 27))⟩,
              ⟨(some 29), none, (.mov (.tmp 28))⟩,
              ⟨(some 30), (some (29, false)), (.mov (.tmp 5))⟩,
              ⟨(some 31), (some (29, false)), (.mov (.tmp 6))⟩,
              ⟨(some 32), (some (29, false)), (.bin .lss (.tmp 30) (.tmp 31))⟩,
              ⟨(some 33), (some (29, false)), (.mov (.tmp 0))⟩,
              ⟨(some 34), (some (29, false)), (.mov (.tmp 1))⟩,
              ⟨(some 35), (some (29, false)), (.bin .lss (.tmp 33) (.tmp 34))⟩,
              ⟨(some 36), (some (29, false)), (.eqB false (.tmp 32) (.tmp 35))⟩,
              ⟨(some 37), none, (.pick (.tmp 29) (.con (.bool true)) (.tmp 36))⟩,
              ⟨(some 4), none, (.mov (.tmp 37))⟩] [4]) (
            .ret)))))), [.tmp 4]⟩

theorem comp9 : cFunc Tryz.prog ann9 9 Tryz.f9 = some ir9 := by kernel_rfl

def ann40 : Nat → Ann := fun i => match i with
  | 0 => ⟨[0, 1], [], []⟩
  | 1 => ⟨[0, 1, 19], [], []⟩
  | 2 => ⟨[4], [], []⟩
  | 3 => ⟨[0, 1, 5], [], []⟩
  | 4 => ⟨[0, 1, 5, 6], [], []⟩
  | 5 => ⟨[1, 5, 6, 24, 25, 26], [], []⟩
  | 6 => ⟨[1, 5, 6, 24, 25, 26, 27], [], []⟩
  | 7 => ⟨[1, 5, 6, 8, 24, 25, 26], [], []⟩
  | 8 => ⟨[1, 5, 6, 8, 24, 25, 26, 52], [0, 1, 2, 3, 4, 5, 6, 7, 8, 9, 10, 11, 12, 13, 14, 15, 16, 17, 18, 19, 20, 21, 22], [0, 1, 3, 7, 15, 31, 63, 127, 255, 31, 543, 2047, 4095, 8191, 16383, 32767, 65535, 131071, 32767, 32767, 819199, 2097151, 4194303]⟩
  | 9 => ⟨[4], [], []⟩
  | 10 => ⟨[1, 5, 6, 8, 24, 25, 26], [], []⟩
  | 11 => ⟨[1, 5, 6, 24, 25, 26], [0, 1, 2, 3, 4, 5, 6, 7, 9, 10, 11, 8, 12, 13, 14], [0, 1, 3, 7, 0, 16, 0, 64, 192, 0, 512, 1536, 4032, 8128, 16383]⟩
  | 12 => ⟨[1, 5, 6, 24, 25, 26], [], []⟩
  | 13 => ⟨[4], [], []⟩
  | _ => ⟨[], [], []⟩

/-- limnograph/disk.New -/
def ir40 : AFunc := ⟨74, (
  .seq (
    .region [⟨(some 4), none, (.mov (.con (.pointer none)))⟩] [0, 1]) (
    .seq (
      .seq (
        .region [⟨(some 9), none, (.mov (.tmp 1))⟩,
          ⟨(some 10), none, (.bin .lss (.tmp 9) (.con (.int .i64 (1))))⟩,
          ⟨(some 11), none, (.mov (.tmp 10))⟩,
          ⟨(some 12), (some (11, false)), (.mov (.tmp 1))⟩,
          ⟨(some 13), (some (11, false)), (.bin .gtr (.tmp 12) (.con (.int .i64 (4194304))))⟩,
          ⟨(some 14), none, (.pick (.tmp 11) (.con (.bool true)) (.tmp 13))⟩,
          ⟨(some 15), none, (.mov (.tmp 14))⟩,
          ⟨(some 16), (some (15, false)), (.mov (.tmp 0))⟩,
          ⟨(some 17), (some (15, false)), (.lenSl (.tmp 16))⟩,
          ⟨(some 18), (some (15, false)), (.bin .gtr (.tmp 17) (.con (.int .i64 (4096))))⟩,
          ⟨(some 19), none, (.pick (.tmp 15) (.con (.bool true)) (.tmp 18))⟩] [0, 1, 19]) (
        .cond (.tmp 19) (
          .seq (
            .region [⟨(some 4), none, (.mov (.con (.pointer none)))⟩] [4]) (
            .ret)) (
          .skip))) (
      .seq (
        .region [⟨(some 20), none, .mkMap⟩,
          ⟨(some 21), none, (.mov (.tmp 1))⟩,
          ⟨(some 22), none, (.build [(.map none), (.int .i64 (0)), (.bool false), (.int .i64 (0)), (.int .i64 (0)), (.int .i64 (0)), (.int .i64 (0)), (.int .i64 (0))] [(0, 1, (.tmp 20)), (1, 1, (.tmp 21))])⟩,
          ⟨(some 23), none, (.box (.tmp 22))⟩,
          ⟨(some 5), none, (.mov (.tmp 23))⟩] [0, 1, 5]) (
        .seq (
          .region [⟨(some 6), none, (.mov (.con (.int .i64 (0))))⟩] [0, 1, 5, 6]) (
          .seq (
            .seq (
              .region [⟨(some 24), none, (.mov (.tmp 0))⟩,
                ⟨(some 25), none, (.lenSl (.tmp 24))⟩,
                ⟨(some 26), none, (.mov (.con (.int .i64 (0))))⟩] [1, 5, 6, 24, 25, 26]) (
              .block 0 (
                .loop (
                  .seq (
                    .region [⟨(some 27), none, (.bin .lss (.tmp 26) (.tmp 25))⟩] [1, 5, 6, 24, 25, 26, 27]) (
                    .seq (
                      .cond (.tmp 27) (
                        .skip) (
                        .exit 0)) (
                      .seq (
                        .block 1 (
                          .seq (
                            .region [⟨(some 28), none, (.idxSl 2 (.tmp 24) (.tmp 26))⟩,
                              ⟨(some 29), none, (.load true 2 (.tmp 28))⟩,
                              ⟨(some 8), none, (.new [(.string (str [])), (.slice none 0 0)])⟩,
                              ⟨none, none, (.store 2 (.tmp 8) (.tmp 29))⟩] [1, 5, 6, 8, 24, 25, 26]) (
                            .seq (
                              .seq (
                                .regionD [0, 1, 3, 7, 15, 31, 63, 127, 255, 31, 543, 2047, 4095, 8191, 16383, 32767, 65535, 131071, 32767, 32767, 819199, 2097151, 4194303] [(0, ⟨(some 30), none, (.off 0 (.tmp 8))⟩),
                                  (1, ⟨(some 31), none, (.load false 1 (.tmp 30))⟩),
                                  (2, ⟨(some 32), none, (.call (.con (.func (.func 106) #[] #[])) [(.tmp 31)])⟩),
                                  (3, ⟨(some 33), none, (.un .not (.tmp 32))⟩),
                                  (4, ⟨(some 34), none, (.mov (.tmp 33))⟩),
                                  (5, ⟨(some 35), (some (34, false)), (.mov (.tmp 5))⟩),
                                  (6, ⟨(some 36), (some (34, false)), (.nilCheck (.tmp 35))⟩),
                                  (7, ⟨(some 37), (some (34, false)), (.off 0 (.tmp 36))⟩),
                                  (8, ⟨(some 38), (some (34, false)), (.load false 1 (.tmp 37))⟩),
                                  (9, ⟨(some 39), (some (34, false)), (.off 0 (.tmp 8))⟩),
                                  (10, ⟨(some 40), (some (34, false)), (.load false 1 (.tmp 39))⟩),
                                  (11, ⟨(some 41), (some (34, false)), (.lookup 1 (.pointer none) false (.tmp 38) (.tmp 40))⟩),
                                  (12, ⟨(some 42), (some (34, false)), (.eqP true (.tmp 41) (.con (.pointer none)))⟩),
                                  (13, ⟨(some 43), none, (.pick (.tmp 34) (.con (.bool true)) (.tmp 42))⟩),
                                  (14, ⟨(some 44), none, (.mov (.tmp 43))⟩),
                                  (15, ⟨(some 45), (some (44, false)), (.off 1 (.tmp 8))⟩),
                                  (16, ⟨(some 46), (some (44, false)), (.load false 1 (.tmp 45))⟩),
                                  (17, ⟨(some 47), (some (44, false)), (.lenSl (.tmp 46))⟩),
                                  (18, ⟨(some 48), (some (44, false)), (.mov (.tmp 1))⟩),
                                  (19, ⟨(some 49), (some (44, false)), (.mov (.tmp 6))⟩),
                                  (20, ⟨(some 50), (some (44, false)), (.bin .sub (.tmp 48) (.tmp 49))⟩),
                                  (21, ⟨(some 51), (some (44, false)), (.bin .gtr (.tmp 47) (.tmp 50))⟩),
                                  (22, ⟨(some 52), none, (.pick (.tmp 44) (.con (.bool true)) (.tmp 51))⟩)] [1, 5, 6, 8, 24, 25, 26, 52]) (
                                .cond (.tmp 52) (
                                  .seq (
                                    .region [⟨(some 4), none, (.mov (.con (.pointer none)))⟩] [4]) (
                                    .ret)) (
                                  .skip))) (
                              .seq (
                                .region [⟨(some 53), none, (.mov (.tmp 6))⟩,
                                  ⟨(some 54), none, (.off 1 (.tmp 8))⟩,
                                  ⟨(some 55), none, (.load false 1 (.tmp 54))⟩,
                                  ⟨(some 56), none, (.lenSl (.tmp 55))⟩,
                                  ⟨(some 57), none, (.bin .add (.tmp 53) (.tmp 56))⟩,
                                  ⟨(some 6), none, (.mov (.tmp 57))⟩] [1, 5, 6, 8, 24, 25, 26]) (
                                .regionD [0, 1, 3, 7, 0, 16, 0, 64, 192, 0, 512, 1536, 4032, 8128, 16383] [(0, ⟨(some 58), none, (.mov (.tmp 5))⟩),
                                  (1, ⟨(some 59), none, (.nilCheck (.tmp 58))⟩),
                                  (2, ⟨(some 60), none, (.off 0 (.tmp 59))⟩),
                                  (3, ⟨(some 61), none, (.load false 1 (.tmp 60))⟩),
                                  (4, ⟨(some 62), none, (.off 0 (.tmp 8))⟩),
                                  (5, ⟨(some 63), none, (.load false 1 (.tmp 62))⟩),
                                  (6, ⟨(some 64), none, (.off 1 (.tmp 8))⟩),
                                  (7, ⟨(some 65), none, (.load false 1 (.tmp 64))⟩),
                                  (9, ⟨(some 67), none, (.off 1 (.tmp 8))⟩),
                                  (10, ⟨(some 68), none, (.load false 1 (.tmp 67))⟩),
                                  (11, ⟨(some 69), none, (.lenSl (.tmp 68))⟩),
                                  (8, ⟨(some 66), none, (.call (.con (.func (.func 107) #[] #[])) [(.tmp 65)])⟩),
                                  (12, ⟨(some 70), none, (.build [(.slice none 0 0), (.int .i64 (0))] [(0, 1, (.tmp 66)), (1, 1, (.tmp 69))])⟩),
                                  (13, ⟨(some 71), none, (.box (.tmp 70))⟩),
                                  (14, ⟨none, none, (.mapSet 1 (.tmp 61) (.tmp 63) (.tmp 71))⟩)] [1, 5, 6, 24, 25, 26]))))) (
                        .region [⟨(some 72), none, (.bin .add (.tmp 26) (.con (.int .i64 (1))))⟩,
                          ⟨(some 26), none, (.mov (.tmp 72))⟩] [1, 5, 6, 24, 25, 26]))))))) (
            .seq (
              .region [⟨(some 73), none, (.mov (.tmp 5))⟩,
                ⟨(some 4), none, (.mov (.tmp 73))⟩] [4]) (
              .ret))))))), [.tmp 4]⟩

theorem comp40 : cFunc Tryz.prog ann40 19 Tryz.f40 = some ir40 := by kernel_rfl

def ann45 : Nat → Ann := fun i => match i with
  | 0 => ⟨[0, 1, 2], [], []⟩
  | 1 => ⟨[0, 1, 2, 15], [], []⟩
  | 2 => ⟨[6, 7], [], []⟩
  | 3 => ⟨[0, 1, 2, 26], [], []⟩
  | 4 => ⟨[6, 7], [], []⟩
  | 5 => ⟨[0, 1, 2, 8], [], []⟩
  | 6 => ⟨[0, 1, 2, 8, 31, 32, 33], [], []⟩
  | 7 => ⟨[0, 1, 2, 8, 31, 32, 33, 34], [], []⟩
  | 8 => ⟨[0, 1, 2, 8, 10, 31, 32, 33], [], []⟩
  | 9 => ⟨[0, 1, 2, 8, 10, 31, 32, 33, 39], [], []⟩
  | 10 => ⟨[0, 1, 2, 8, 10, 11, 31, 32, 33], [], []⟩
  | 11 => ⟨[0, 1, 2, 8, 10, 11, 31, 32, 33, 43], [], []⟩
  | 12 => ⟨[6, 7], [], []⟩
  | 13 => ⟨[0, 1, 2, 8, 10, 11, 12, 31, 32, 33], [], []⟩
  | 14 => ⟨[0, 1, 2, 8, 10, 11, 12, 13, 31, 32, 33], [], []⟩
  | 15 => ⟨[0, 1, 2, 8, 10, 11, 12, 13, 31, 32, 33, 46], [], []⟩
  | 16 => ⟨[0, 1, 2, 8, 10, 11, 12, 13, 31, 32, 33], [], []⟩
  | 17 => ⟨[0, 1, 2, 8, 10, 12, 13, 31, 32, 33, 67], [], []⟩
  | 18 => ⟨[0, 1, 2, 8, 13, 31, 32, 33], [], []⟩
  | 19 => ⟨[0, 1, 2, 8, 12, 13, 31, 32, 33, 72], [], []⟩
  | 20 => ⟨[0, 1, 2, 8, 13, 31, 32, 33], [0, 1, 2, 3, 4, 5, 6, 7, 8, 9, 10], [0, 0, 2, 6, 14, 0, 32, 126, 255, 511, 1023]⟩
  | 21 => ⟨[0, 1, 2, 8, 13, 31, 32, 33, 84], [], []⟩
  | 22 => ⟨[6, 7], [], []⟩
  | 23 => ⟨[0, 1, 2, 8, 31, 32, 33], [], []⟩
  | 24 => ⟨[8, 94], [], []⟩
  | 25 => ⟨[6, 7], [], []⟩
  | 26 => ⟨[6, 7], [], []⟩
  | _ => ⟨[], [], []⟩

/-- limnograph/store.Open -/
def ir45 : AFunc := ⟨96, (
  .seq (
    .region [⟨(some 6), none, (.mov (.con (.pointer none)))⟩,
      ⟨(some 7), none, (.mov (.con (.int .i64 (0))))⟩] [0, 1, 2]) (
    .seq (
      .seq (
        .region [⟨(some 14), none, (.mov (.tmp 0))⟩,
          ⟨(some 15), none, (.call (.con (.func (.func 113) #[] #[])) [(.tmp 14)])⟩] [0, 1, 2, 15]) (
        .cond (.tmp 15) (
          .seq (
            .region [⟨(some 6), none, (.mov (.con (.pointer none)))⟩,
              ⟨(some 7), none, (.mov (.con (.int .i64 (13))))⟩] [6, 7]) (
            .ret)) (
          .skip))) (
      .seq (
        .seq (
          .region [⟨(some 16), none, (.mov (.tmp 1))⟩,
            ⟨(some 17), none, (.bin .lss (.tmp 16) (.con (.int .i64 (0))))⟩,
            ⟨(some 18), none, (.mov (.tmp 17))⟩,
            ⟨(some 19), (some (18, false)), (.mov (.tmp 1))⟩,
            ⟨(some 20), (some (18, false)), (.mov (.tmp 2))⟩,
            ⟨(some 21), (some (18, false)), (.bin .gtr (.tmp 19) (.tmp 20))⟩,
            ⟨(some 22), none, (.pick (.tmp 18) (.con (.bool true)) (.tmp 21))⟩,
            ⟨(some 23), none, (.mov (.tmp 22))⟩,
            ⟨(some 24), (some (23, false)), (.mov (.tmp 2))⟩,
            ⟨(some 25), (some (23, false)), (.bin .gtr (.tmp 24) (.con (.int .i64 (4503599627370497))))⟩,
            ⟨(some 26), none, (.pick (.tmp 23) (.con (.bool true)) (.tmp 25))⟩] [0, 1, 2, 26]) (
          .cond (.tmp 26) (
            .seq (
              .region [⟨(some 6), none, (.mov (.con (.pointer none)))⟩,
                ⟨(some 7), none, (.mov (.con (.int .i64 (15))))⟩] [6, 7]) (
              .ret)) (
            .skip))) (
        .seq (
          .region [⟨(some 27), none, (.mov (.tmp 0))⟩,
            ⟨(some 28), none, (.build [(.pointer none), (.slice none 0 0)] [(0, 1, (.tmp 27))])⟩,
            ⟨(some 29), none, (.box (.tmp 28))⟩,
            ⟨(some 8), none, (.mov (.tmp 29))⟩] [0, 1, 2, 8]) (
          .seq (
            .seq (
              .region [⟨(some 30), none, (.mov (.tmp 0))⟩,
                ⟨(some 31), none, (.call (.con (.func (.func 114) #[] #[])) [(.tmp 30)])⟩,
                ⟨(some 32), none, (.lenSl (.tmp 31))⟩,
                ⟨(some 33), none, (.mov (.con (.int .i64 (0))))⟩] [0, 1, 2, 8, 31, 32, 33]) (
              .block 0 (
                .loop (
                  .seq (
                    .region [⟨(some 34), none, (.bin .lss (.tmp 33) (.tmp 32))⟩] [0, 1, 2, 8, 31, 32, 33, 34]) (
                    .seq (
                      .cond (.tmp 34) (
                        .skip) (
                        .exit 0)) (
                      .seq (
                        .block 1 (
                          .seq (
                            .region [⟨(some 35), none, (.idxSl 1 (.tmp 31) (.tmp 33))⟩,
                              ⟨(some 36), none, (.load false 1 (.tmp 35))⟩,
                              ⟨(some 10), none, (.mov (.tmp 36))⟩] [0, 1, 2, 8, 10, 31, 32, 33]) (
                            .seq (
                              .seq (
                                .region [⟨(some 37), none, (.mov (.tmp 10))⟩,
                                  ⟨(some 38), none, (.call (.con (.func (.func 115) #[] #[])) [(.tmp 37), (.con (.string (str [115, 101, 103, 45])))])⟩,
                                  ⟨(some 39), none, (.un .not (.tmp 38))⟩] [0, 1, 2, 8, 10, 31, 32, 33, 39]) (
                                .cond (.tmp 39) (
                                  .exit 1) (
                                  .skip))) (
                              .seq (
                                .region [⟨(some 40), none, (.mov (.tmp 10))⟩,
                                  ⟨(some 41), none, (.call (.con (.func (.func 116) #[] #[])) [(.tmp 40)])⟩,
                                  ⟨(some 11), none, (.mov (.tmp 41))⟩] [0, 1, 2, 8, 10, 11, 31, 32, 33]) (
                                .seq (
                                  .seq (
                                    .region [⟨(some 42), none, (.mov (.tmp 11))⟩,
                                      ⟨(some 43), none, (.bin .lss (.tmp 42) (.con (.int .i64 (0))))⟩] [0, 1, 2, 8, 10, 11, 31, 32, 33, 43]) (
                                    .cond (.tmp 43) (
                                      .seq (
                                        .region [⟨(some 6), none, (.mov (.con (.pointer none)))⟩,
                                          ⟨(some 7), none, (.mov (.con (.int .i64 (15))))⟩] [6, 7]) (
                                        .ret)) (
                                      .skip))) (
                                  .seq (
                                    .region [⟨(some 12), none, (.new [(.int .i64 (0)), (.int .i64 (0))])⟩] [0, 1, 2, 8, 10, 11, 12, 31, 32, 33]) (
                                    .seq (
                                      .region [⟨(some 13), none, (.mov (.con (.int .i64 (0))))⟩] [0, 1, 2, 8, 10, 11, 12, 13, 31, 32, 33]) (
                                      .seq (
                                        .seq (
                                          .region [⟨(some 44), none, (.mov (.tmp 11))⟩,
                                            ⟨(some 45), none, (.mov (.tmp 2))⟩,
                                            ⟨(some 46), none, (.bin .lss (.tmp 44) (.tmp 45))⟩] [0, 1, 2, 8, 10, 11, 12, 13, 31, 32, 33, 46]) (
                                          .cond (.tmp 46) (
                                            .region [⟨(some 48), none, (.mov (.tmp 0))⟩,
                                              ⟨(some 49), none, (.mov (.tmp 10))⟩,
                                              ⟨(some 50), none, (.mov (.tmp 11))⟩,
                                              ⟨(some 51), none, (.mov (.tmp 2))⟩,
                                              ⟨(some 52), none, (.call (.con (.func (.func 117) #[] #[])) [(.tmp 48), (.tmp 49), (.tmp 50), (.tmp 51)])⟩,
                                              ⟨(some 47), none, (.mov (.tmp 52))⟩,
                                              ⟨(some 53), none, (.extract (.tmp 47) 0)⟩,
                                              ⟨(some 54), none, (.extract (.tmp 47) 1)⟩,
                                              ⟨none, none, (.store 2 (.tmp 12) (.tmp 53))⟩,
                                              ⟨(some 13), none, (.mov (.tmp 54))⟩] [0, 1, 2, 8, 10, 11, 12, 13, 31, 32, 33]) (
                                            .skip))) (
                                        .seq (
                                          .seq (
                                            .region [⟨(some 55), none, (.mov (.tmp 13))⟩,
                                              ⟨(some 56), none, (.bin .eql (.tmp 55) (.con (.int .i64 (0))))⟩,
                                              ⟨(some 57), none, (.mov (.tmp 56))⟩,
                                              ⟨(some 58), (some (57, true)), (.mov (.tmp 11))⟩,
                                              ⟨(some 59), (some (57, true)), (.mov (.tmp 2))⟩,
                                              ⟨(some 60), (some (57, true)), (.bin .geq (.tmp 58) (.tmp 59))⟩,
                                              ⟨(some 61), (some (57, true)), (.mov (.tmp 60))⟩,
                                              ⟨(some 62), (some (61, false)), (.off 1 (.tmp 12))⟩,
                                              ⟨(some 63), (some (61, false)), (.load false 1 (.tmp 62))⟩,
                                              ⟨(some 64), (some (61, false)), (.mov (.tmp 1))⟩,
                                              ⟨(some 65), (some (61, false)), (.bin .leq (.tmp 63) (.tmp 64))⟩,
                                              ⟨(some 66), (some (57, true)), (.pick (.tmp 61) (.con (.bool true)) (.tmp 65))⟩,
                                              ⟨(some 67), none, (.pick (.tmp 57) (.tmp 66) (.con (.bool false)))⟩] [0, 1, 2, 8, 10, 12, 13, 31, 32, 33, 67]) (
                                            .cond (.tmp 67) (
                                              .region [⟨(some 68), none, (.mov (.tmp 0))⟩,
                                                ⟨(some 69), none, (.mov (.tmp 10))⟩,
                                                ⟨(some 70), none, (.call (.con (.func (.func 118) #[] #[])) [(.tmp 68), (.tmp 69)])⟩,
                                                ⟨(some 13), none, (.mov (.tmp 70))⟩] [0, 1, 2, 8, 13, 31, 32, 33]) (
                                              .seq (
                                                .region [⟨(some 71), none, (.mov (.tmp 13))⟩,
                                                  ⟨(some 72), none, (.bin .eql (.tmp 71) (.con (.int .i64 (0))))⟩] [0, 1, 2, 8, 12, 13, 31, 32, 33, 72]) (
                                                .cond (.tmp 72) (
                                                  .regionD [0, 0, 2, 6, 14, 0, 32, 126, 255, 511, 1023] [(0, ⟨(some 73), none, (.mov (.tmp 8))⟩),
                                                    (1, ⟨(some 74), none, (.mov (.tmp 8))⟩),
                                                    (2, ⟨(some 75), none, (.nilCheck (.tmp 74))⟩),
                                                    (3, ⟨(some 76), none, (.off 1 (.tmp 75))⟩),
                                                    (4, ⟨(some 77), none, (.load false 1 (.tmp 76))⟩),
                                                    (5, ⟨(some 78), none, (.load true 2 (.tmp 12))⟩),
                                                    (6, ⟨(some 79), none, (.buildSlice 1 2 [(.int .i64 (0)), (.int .i64 (0))] [(0, 2, (.tmp 78))])⟩),
                                                    (7, ⟨(some 80), none, (.append 2 16 (.tmp 77) (.tmp 79))⟩),
                                                    (8, ⟨(some 81), none, (.nilCheck (.tmp 73))⟩),
                                                    (9, ⟨(some 82), none, (.off 1 (.tmp 81))⟩),
                                                    (10, ⟨none, none, (.store 1 (.tmp 82) (.tmp 80))⟩)] [0, 1, 2, 8, 13, 31, 32, 33]) (
                                                  .skip))))) (
                                          .seq (
                                            .region [⟨(some 83), none, (.mov (.tmp 13))⟩,
                                              ⟨(some 84), none, (.bin .neq (.tmp 83) (.con (.int .i64 (0))))⟩] [0, 1, 2, 8, 13, 31, 32, 33, 84]) (
                                            .cond (.tmp 84) (
                                              .seq (
                                                .region [⟨(some 85), none, (.mov (.tmp 13))⟩,
                                                  ⟨(some 6), none, (.mov (.con (.pointer none)))⟩,
                                                  ⟨(some 7), none, (.mov (.tmp 85))⟩] [6, 7]) (
                                                .ret)) (
                                              .skip)))))))))))) (
                        .region [⟨(some 86), none, (.bin .add (.tmp 33) (.con (.int .i64 (1))))⟩,
                          ⟨(some 33), none, (.mov (.tmp 86))⟩] [0, 1, 2, 8, 31, 32, 33]))))))) (
            .seq (
              .seq (
                .region [⟨(some 87), none, (.mov (.tmp 8))⟩,
                  ⟨(some 88), none, (.nilCheck (.tmp 87))⟩,
                  ⟨(some 89), none, (.off 1 (.tmp 88))⟩,
                  ⟨(some 90), none, (.load false 1 (.tmp 89))⟩,
                  ⟨(some 91), none, (.mov (.tmp 1))⟩,
                  ⟨(some 92), none, (.mov (.tmp 2))⟩,
                  ⟨(some 93), none, (.call (.con (.func (.func 119) #[] #[])) [(.tmp 90), (.tmp 91), (.tmp 92)])⟩,
                  ⟨(some 94), none, (.un .not (.tmp 93))⟩] [8, 94]) (
                .cond (.tmp 94) (
                  .seq (
                    .region [⟨(some 6), none, (.mov (.con (.pointer none)))⟩,
                      ⟨(some 7), none, (.mov (.con (.int .i64 (15))))⟩] [6, 7]) (
                    .ret)) (
                  .skip))) (
              .seq (
                .region [⟨(some 95), none, (.mov (.tmp 8))⟩,
                  ⟨(some 6), none, (.mov (.tmp 95))⟩,
                  ⟨(some 7), none, (.mov (.con (.int .i64 (0))))⟩] [6, 7]) (
                .ret)))))))), [.tmp 6, .tmp 7]⟩

theorem comp45 : cFunc Tryz.prog ann45 26 Tryz.f45 = some ir45 := by kernel_rfl

def ann49 : Nat → Ann := fun i => match i with
  | 0 => ⟨[0], [], []⟩
  | 1 => ⟨[2], [], []⟩
  | _ => ⟨[], [], []⟩

/-- (*limnograph/store.Store).Spans -/
def ir49 : AFunc := ⟨8, (
  .seq (
    .region [⟨(some 2), none, (.mov (.con (.slice none 0 0)))⟩] [0]) (
    .seq (
      .region [⟨(some 3), none, (.mov (.tmp 0))⟩,
        ⟨(some 4), none, (.nilCheck (.tmp 3))⟩,
        ⟨(some 5), none, (.off 1 (.tmp 4))⟩,
        ⟨(some 6), none, (.load false 1 (.tmp 5))⟩,
        ⟨(some 7), none, (.call (.con (.func (.func 126) #[] #[])) [(.tmp 6)])⟩,
        ⟨(some 2), none, (.mov (.tmp 7))⟩] [2]) (
      .ret))), [.tmp 2]⟩

theorem comp49 : cFunc Tryz.prog ann49 4 Tryz.f49 = some ir49 := by kernel_rfl

def ann52 : Nat → Ann := fun i => match i with
  | 0 => ⟨[0, 1, 2], [], []⟩
  | 1 => ⟨[0, 2, 7], [], []⟩
  | 2 => ⟨[0, 2, 7, 13], [], []⟩
  | 3 => ⟨[6], [], []⟩
  | 4 => ⟨[0, 7, 8, 9], [], []⟩
  | 5 => ⟨[0, 7, 8, 9, 20], [], []⟩
  | 6 => ⟨[0, 7, 8, 9], [], []⟩
  | 7 => ⟨[0, 7, 8, 9, 28], [], []⟩
  | 8 => ⟨[6], [], []⟩
  | 9 => ⟨[0, 7, 9], [], []⟩
  | 10 => ⟨[0, 7, 9, 38], [], []⟩
  | 11 => ⟨[0, 7, 9], [], []⟩
  | 12 => ⟨[0, 7, 9, 50], [], []⟩
  | 13 => ⟨[9], [], []⟩
  | 14 => ⟨[6], [], []⟩
  | _ => ⟨[], [], []⟩

/-- (*limnograph/store.Store).Put -/
def ir52 : AFunc := ⟨58, (
  .seq (
    .region [⟨(some 6), none, (.mov (.con (.int .i64 (0))))⟩] [0, 1, 2]) (
    .seq (
      .region [⟨(some 10), none, (.mov (.tmp 1))⟩,
        ⟨(some 11), none, (.call (.con (.func (.func 37) #[] #[])) [(.tmp 10)])⟩,
        ⟨(some 7), none, (.mov (.tmp 11))⟩] [0, 2, 7]) (
      .seq (
        .seq (
          .region [⟨(some 12), none, (.mov (.tmp 7))⟩,
            ⟨(some 13), none, (.bin .eql (.tmp 12) (.con (.string (str []))))⟩] [0, 2, 7, 13]) (
          .cond (.tmp 13) (
            .seq (
              .region [⟨(some 6), none, (.mov (.con (.int .i64 (1))))⟩] [6]) (
              .ret)) (
            .skip))) (
        .seq (
          .region [⟨(some 15), none, (.mov (.tmp 2))⟩,
            ⟨(some 16), none, (.call (.con (.func (.func 131) #[] #[])) [(.tmp 15)])⟩,
            ⟨(some 14), none, (.mov (.tmp 16))⟩,
            ⟨(some 17), none, (.extract (.tmp 14) 0)⟩,
            ⟨(some 18), none, (.extract (.tmp 14) 1)⟩,
            ⟨(some 8), none, (.mov (.tmp 17))⟩,
            ⟨(some 9), none, (.mov (.tmp 18))⟩] [0, 7, 8, 9]) (
          .seq (
            .seq (
              .region [⟨(some 19), none, (.mov (.tmp 9))⟩,
                ⟨(some 20), none, (.bin .eql (.tmp 19) (.con (.int .i64 (0))))⟩] [0, 7, 8, 9, 20]) (
              .cond (.tmp 20) (
                .region [⟨(some 21), none, (.mov (.tmp 0))⟩,
                  ⟨(some 22), none, (.nilCheck (.tmp 21))⟩,
                  ⟨(some 23), none, (.off 0 (.tmp 22))⟩,
                  ⟨(some 24), none, (.load false 1 (.tmp 23))⟩,
                  ⟨(some 25), none, (.mov (.tmp 7))⟩,
                  ⟨(some 26), none, (.call (.con (.func (.func 132) #[] #[])) [(.tmp 24), (.tmp 25)])⟩,
                  ⟨(some 9), none, (.mov (.tmp 26))⟩] [0, 7, 8, 9]) (
                .skip))) (
            .seq (
              .seq (
                .region [⟨(some 27), none, (.mov (.tmp 9))⟩,
                  ⟨(some 28), none, (.bin .neq (.tmp 27) (.con (.int .i64 (0))))⟩] [0, 7, 8, 9, 28]) (
                .cond (.tmp 28) (
                  .seq (
                    .region [⟨(some 29), none, (.mov (.tmp 9))⟩,
                      ⟨(some 6), none, (.mov (.tmp 29))⟩] [6]) (
                    .ret)) (
                  .skip))) (
              .seq (
                .seq (
                  .region [⟨(some 30), none, (.mov (.tmp 0))⟩,
                    ⟨(some 31), none, (.nilCheck (.tmp 30))⟩,
                    ⟨(some 32), none, (.off 0 (.tmp 31))⟩,
                    ⟨(some 33), none, (.load false 1 (.tmp 32))⟩,
                    ⟨(some 34), none, (.mov (.tmp 7))⟩,
                    ⟨(some 35), none, (.mov (.tmp 8))⟩,
                    ⟨(some 36), none, (.call (.con (.func (.func 133) #[] #[])) [(.tmp 33), (.tmp 34), (.tmp 35)])⟩,
                    ⟨(some 9), none, (.mov (.tmp 36))⟩] [0, 7, 9]) (
                  .seq (
                    .region [⟨(some 37), none, (.mov (.tmp 9))⟩,
                      ⟨(some 38), none, (.bin .eql (.tmp 37) (.con (.int .i64 (0))))⟩] [0, 7, 9, 38]) (
                    .cond (.tmp 38) (
                      .region [⟨(some 39), none, (.mov (.tmp 0))⟩,
                        ⟨(some 40), none, (.nilCheck (.tmp 39))⟩,
                        ⟨(some 41), none, (.off 0 (.tmp 40))⟩,
                        ⟨(some 42), none, (.load false 1 (.tmp 41))⟩,
                        ⟨(some 43), none, (.mov (.tmp 7))⟩,
                        ⟨(some 44), none, (.call (.con (.func (.func 134) #[] #[])) [(.tmp 42), (.tmp 43)])⟩,
                        ⟨(some 9), none, (.mov (.tmp 44))⟩] [0, 7, 9]) (
                      .skip)))) (
                .seq (
                  .seq (
                    .region [⟨(some 45), none, (.mov (.tmp 9))⟩,
                      ⟨(some 46), none, (.bin .neq (.tmp 45) (.con (.int .i64 (0))))⟩,
                      ⟨(some 47), none, (.mov (.tmp 46))⟩,
                      ⟨(some 48), (some (47, true)), (.mov (.tmp 9))⟩,
                      ⟨(some 49), (some (47, true)), (.bin .neq (.tmp 48) (.con (.int .i64 (13))))⟩,
                      ⟨(some 50), none, (.pick (.tmp 47) (.tmp 49) (.con (.bool false)))⟩] [0, 7, 9, 50]) (
                    .cond (.tmp 50) (
                      .region [⟨(some 51), none, (.mov (.tmp 0))⟩,
                        ⟨(some 52), none, (.nilCheck (.tmp 51))⟩,
                        ⟨(some 53), none, (.off 0 (.tmp 52))⟩,
                        ⟨(some 54), none, (.load false 1 (.tmp 53))⟩,
                        ⟨(some 55), none, (.mov (.tmp 7))⟩,
                        ⟨(some 56), none, (.call (.con (.func (.func 118) #[] #[])) [(.tmp 54), (.tmp 55)])⟩] [9]) (
                      .skip))) (
                  .seq (
                    .region [⟨(some 57), none, (.mov (.tmp 9))⟩,
                      ⟨(some 6), none, (.mov (.tmp 57))⟩] [6]) (
                    .ret)))))))))), [.tmp 6]⟩

theorem comp52 : cFunc Tryz.prog ann52 12 Tryz.f52 = some ir52 := by kernel_rfl

def ann54 : Nat → Ann := fun i => match i with
  | 0 => ⟨[0, 3], [], []⟩
  | 1 => ⟨[0, 3, 5], [], []⟩
  | 2 => ⟨[0, 3, 33], [0, 1, 2, 3, 4, 5, 6, 7, 8, 9, 10, 11, 12, 13, 14, 15, 16, 17, 18, 19, 20, 21, 22], [0, 1, 0, 4, 15, 31, 63, 127, 255, 511, 1023, 2047, 4095, 511, 8703, 32767, 65535, 131071, 511, 262655, 1048575, 2097151, 4194303]⟩
  | 3 => ⟨[4], [], []⟩
  | 4 => ⟨[], [0, 1, 2, 3, 4, 5, 6, 7, 8, 9, 10], [0, 0, 2, 6, 14, 0, 32, 126, 255, 511, 1023]⟩
  | 5 => ⟨[4], [], []⟩
  | _ => ⟨[], [], []⟩

/-- (*limnograph/store.Store).Keep -/
def ir54 : AFunc := ⟨44, (
  .seq (
    .region [⟨(some 3), none, (.box (.tmp 1))⟩,
      ⟨(some 4), none, (.mov (.con (.bool false)))⟩] [0, 3]) (
    .seq (
      .region [⟨(some 6), none, (.mov (.tmp 0))⟩,
        ⟨(some 7), none, (.nilCheck (.tmp 6))⟩,
        ⟨(some 8), none, (.off 1 (.tmp 7))⟩,
        ⟨(some 9), none, (.load false 1 (.tmp 8))⟩,
        ⟨(some 10), none, (.lenSl (.tmp 9))⟩,
        ⟨(some 5), none, (.mov (.tmp 10))⟩] [0, 3, 5]) (
      .seq (
        .seq (
          .regionD [0, 1, 0, 4, 15, 31, 63, 127, 255, 511, 1023, 2047, 4095, 511, 8703, 32767, 65535, 131071, 511, 262655, 1048575, 2097151, 4194303] [(0, ⟨(some 11), none, (.off 0 (.tmp 3))⟩),
            (1, ⟨(some 12), none, (.load false 1 (.tmp 11))⟩),
            (2, ⟨(some 13), none, (.off 1 (.tmp 3))⟩),
            (3, ⟨(some 14), none, (.load false 1 (.tmp 13))⟩),
            (4, ⟨(some 15), none, (.bin .geq (.tmp 12) (.tmp 14))⟩),
            (5, ⟨(some 16), none, (.mov (.tmp 15))⟩),
            (6, ⟨(some 17), (some (16, false)), (.mov (.tmp 5))⟩),
            (7, ⟨(some 18), (some (16, false)), (.bin .gtr (.tmp 17) (.con (.int .i64 (0))))⟩),
            (8, ⟨(some 19), (some (16, false)), (.mov (.tmp 18))⟩),
            (9, ⟨(some 20), (some (19, true)), (.mov (.tmp 0))⟩),
            (10, ⟨(some 21), (some (19, true)), (.nilCheck (.tmp 20))⟩),
            (11, ⟨(some 22), (some (19, true)), (.off 1 (.tmp 21))⟩),
            (12, ⟨(some 23), (some (19, true)), (.load false 1 (.tmp 22))⟩),
            (13, ⟨(some 24), (some (19, true)), (.mov (.tmp 5))⟩),
            (14, ⟨(some 25), (some (19, true)), (.bin .sub (.tmp 24) (.con (.int .i64 (1))))⟩),
            (15, ⟨(some 26), (some (19, true)), (.idxSl 2 (.tmp 23) (.tmp 25))⟩),
            (16, ⟨(some 27), (some (19, true)), (.off 1 (.tmp 26))⟩),
            (17, ⟨(some 28), (some (19, true)), (.load false 1 (.tmp 27))⟩),
            (18, ⟨(some 29), (some (19, true)), (.off 0 (.tmp 3))⟩),
            (19, ⟨(some 30), (some (19, true)), (.load false 1 (.tmp 29))⟩),
            (20, ⟨(some 31), (some (19, true)), (.bin .neq (.tmp 28) (.tmp 30))⟩),
            (21, ⟨(some 32), (some (16, false)), (.pick (.tmp 19) (.tmp 31) (.con (.bool false)))⟩),
            (22, ⟨(some 33), none, (.pick (.tmp 16) (.con (.bool true)) (.tmp 32))⟩)] [0, 3, 33]) (
          .cond (.tmp 33) (
            .seq (
              .region [⟨(some 4), none, (.mov (.con (.bool false)))⟩] [4]) (
              .ret)) (
            .skip))) (
        .seq (
          .regionD [0, 0, 2, 6, 14, 0, 32, 126, 255, 511, 1023] [(0, ⟨(some 34), none, (.mov (.tmp 0))⟩),
            (1, ⟨(some 35), none, (.mov (.tmp 0))⟩),
            (2, ⟨(some 36), none, (.nilCheck (.tmp 35))⟩),
            (3, ⟨(some 37), none, (.off 1 (.tmp 36))⟩),
            (4, ⟨(some 38), none, (.load false 1 (.tmp 37))⟩),
            (5, ⟨(some 39), none, (.load true 2 (.tmp 3))⟩),
            (6, ⟨(some 40), none, (.buildSlice 1 2 [(.int .i64 (0)), (.int .i64 (0))] [(0, 2, (.tmp 39))])⟩),
            (7, ⟨(some 41), none, (.append 2 16 (.tmp 38) (.tmp 40))⟩),
            (8, ⟨(some 42), none, (.nilCheck (.tmp 34))⟩),
            (9, ⟨(some 43), none, (.off 1 (.tmp 42))⟩),
            (10, ⟨none, none, (.store 1 (.tmp 43) (.tmp 41))⟩)] []) (
          .seq (
            .region [⟨(some 4), none, (.mov (.con (.bool true)))⟩] [4]) (
            .ret)))))), [.tmp 4]⟩

theorem comp54 : cFunc Tryz.prog ann54 8 Tryz.f54 = some ir54 := by kernel_rfl

def ann106 : Nat → Ann := fun i => match i with
  | 0 => ⟨[0], [], []⟩
  | 1 => ⟨[0, 11], [], []⟩
  | 2 => ⟨[2], [], []⟩
  | 3 => ⟨[13, 14, 15], [], []⟩
  | 4 => ⟨[13, 14, 15, 16], [], []⟩
  | 5 => ⟨[4, 13, 14, 15], [], []⟩
  | 6 => ⟨[13, 14, 15, 40], [], []⟩
  | 7 => ⟨[2], [], []⟩
  | 8 => ⟨[13, 14, 15], [], []⟩
  | 9 => ⟨[2], [], []⟩
  | _ => ⟨[], [], []⟩

/-- limnograph/disk.isName -/
def ir106 : AFunc := ⟨42, (
  .seq (
    .region [⟨(some 2), none, (.mov (.con (.bool false)))⟩] [0]) (
    .seq (
      .seq (
        .region [⟨(some 5), none, (.mov (.tmp 0))⟩,
          ⟨(some 6), none, (.bin .eql (.tmp 5) (.con (.string (str []))))⟩,
          ⟨(some 7), none, (.mov (.tmp 6))⟩,
          ⟨(some 8), (some (7, false)), (.mov (.tmp 0))⟩,
          ⟨(some 9), (some (7, false)), (.lenStr (.tmp 8))⟩,
          ⟨(some 10), (some (7, false)), (.bin .gtr (.tmp 9) (.con (.int .i64 (32))))⟩,
          ⟨(some 11), none, (.pick (.tmp 7) (.con (.bool true)) (.tmp 10))⟩] [0, 11]) (
        .cond (.tmp 11) (
          .seq (
            .region [⟨(some 2), none, (.mov (.con (.bool false)))⟩] [2]) (
            .ret)) (
          .skip))) (
      .seq (
        .seq (
          .region [⟨(some 12), none, (.mov (.tmp 0))⟩,
            ⟨(some 13), none, (.cBytes (.tmp 12))⟩,
            ⟨(some 14), none, (.lenSl (.tmp 13))⟩,
            ⟨(some 15), none, (.mov (.con (.int .i64 (0))))⟩] [13, 14, 15]) (
          .block 0 (
            .loop (
              .seq (
                .region [⟨(some 16), none, (.bin .lss (.tmp 15) (.tmp 14))⟩] [13, 14, 15, 16]) (
                .seq (
                  .cond (.tmp 16) (
                    .skip) (
                    .exit 0)) (
                  .seq (
                    .block 1 (
                      .seq (
                        .region [⟨(some 17), none, (.idxSl 1 (.tmp 13) (.tmp 15))⟩,
                          ⟨(some 18), none, (.load false 1 (.tmp 17))⟩,
                          ⟨(some 4), none, (.mov (.tmp 18))⟩] [4, 13, 14, 15]) (
                        .seq (
                          .region [⟨(some 19), none, (.mov (.tmp 4))⟩,
                            ⟨(some 20), none, (.bin .lss (.tmp 19) (.con (.int .u8 (97))))⟩,
                            ⟨(some 21), none, (.mov (.tmp 20))⟩,
                            ⟨(some 22), (some (21, false)), (.mov (.tmp 4))⟩,
                            ⟨(some 23), (some (21, false)), (.bin .gtr (.tmp 22) (.con (.int .u8 (122))))⟩,
                            ⟨(some 24), none, (.pick (.tmp 21) (.con (.bool true)) (.tmp 23))⟩,
                            ⟨(some 25), none, (.mov (.tmp 24))⟩,
                            ⟨(some 26), (some (25, true)), (.mov (.tmp 4))⟩,
                            ⟨(some 27), (some (25, true)), (.bin .lss (.tmp 26) (.con (.int .u8 (48))))⟩,
                            ⟨(some 28), (some (25, true)), (.mov (.tmp 27))⟩,
                            ⟨(some 29), (some (28, false)), (.mov (.tmp 4))⟩,
                            ⟨(some 30), (some (28, false)), (.bin .gtr (.tmp 29) (.con (.int .u8 (57))))⟩,
                            ⟨(some 31), (some (25, true)), (.pick (.tmp 28) (.con (.bool true)) (.tmp 30))⟩,
                            ⟨(some 32), none, (.pick (.tmp 25) (.tmp 31) (.con (.bool false)))⟩,
                            ⟨(some 33), none, (.mov (.tmp 32))⟩,
                            ⟨(some 34), (some (33, true)), (.mov (.tmp 4))⟩,
                            ⟨(some 35), (some (33, true)), (.bin .neq (.tmp 34) (.con (.int .u8 (46))))⟩,
                            ⟨(some 36), none, (.pick (.tmp 33) (.tmp 35) (.con (.bool false)))⟩,
                            ⟨(some 37), none, (.mov (.tmp 36))⟩,
                            ⟨(some 38), (some (37, true)), (.mov (.tmp 4))⟩,
                            ⟨(some 39), (some (37, true)), (.bin .neq (.tmp 38) (.con (.int .u8 (45))))⟩,
                            ⟨(some 40), none, (.pick (.tmp 37) (.tmp 39) (.con (.bool false)))⟩] [13, 14, 15, 40]) (
                          .cond (.tmp 40) (
                            .seq (
                              .region [⟨(some 2), none, (.mov (.con (.bool false)))⟩] [2]) (
                              .ret)) (
                            .skip))))) (
                    .region [⟨(some 41), none, (.bin .add (.tmp 15) (.con (.int .i64 (1))))⟩,
                      ⟨(some 15), none, (.mov (.tmp 41))⟩] [13, 14, 15]))))))) (
        .seq (
          .region [⟨(some 2), none, (.mov (.con (.bool true)))⟩] [2]) (
          .ret))))), [.tmp 2]⟩

theorem comp106 : cFunc Tryz.prog ann106 16 Tryz.f106 = some ir106 := by kernel_rfl

def ann113 : Nat → Ann := fun i => match i with
  | 0 => ⟨[0], [], []⟩
  | 1 => ⟨[2], [], []⟩
  | _ => ⟨[], [], []⟩

/-- (*limnograph/disk.Disk).Down -/
def ir113 : AFunc := ⟨7, (
  .seq (
    .region [⟨(some 2), none, (.mov (.con (.bool false)))⟩] [0]) (
    .seq (
      .region [⟨(some 3), none, (.mov (.tmp 0))⟩,
        ⟨(some 4), none, (.nilCheck (.tmp 3))⟩,
        ⟨(some 5), none, (.off 2 (.tmp 4))⟩,
        ⟨(some 6), none, (.load false 1 (.tmp 5))⟩,
        ⟨(some 2), none, (.mov (.tmp 6))⟩] [2]) (
      .ret))), [.tmp 2]⟩

theorem comp113 : cFunc Tryz.prog ann113 4 Tryz.f113 = some ir113 := by kernel_rfl

def ann119 : Nat → Ann := fun i => match i with
  | 0 => ⟨[0, 1, 2], [], []⟩
  | 1 => ⟨[0, 1, 2, 11], [], []⟩
  | 2 => ⟨[6], [], []⟩
  | 3 => ⟨[0, 1, 2, 16, 17, 18], [], []⟩
  | 4 => ⟨[0, 1, 2, 16, 17, 18, 19], [], []⟩
  | 5 => ⟨[0, 1, 2, 7, 8, 16, 17, 18], [], []⟩
  | 6 => ⟨[0, 1, 2, 16, 17, 18, 30], [0, 1, 2, 3, 4, 5, 6, 7], [0, 0, 3, 7, 15, 0, 32, 127]⟩
  | 7 => ⟨[6], [], []⟩
  | 8 => ⟨[0, 1, 2, 16, 17, 18], [], []⟩
  | 9 => ⟨[6], [], []⟩
  | _ => ⟨[], [], []⟩

/-- limnograph/store.tiles -/
def ir119 : AFunc := ⟨49, (
  .seq (
    .region [⟨(some 6), none, (.mov (.con (.bool false)))⟩] [0, 1, 2]) (
    .seq (
      .seq (
        .region [⟨(some 9), none, (.mov (.tmp 0))⟩,
          ⟨(some 10), none, (.lenSl (.tmp 9))⟩,
          ⟨(some 11), none, (.bin .eql (.tmp 10) (.con (.int .i64 (0))))⟩] [0, 1, 2, 11]) (
        .cond (.tmp 11) (
          .seq (
            .region [⟨(some 12), none, (.mov (.tmp 1))⟩,
              ⟨(some 13), none, (.mov (.tmp 2))⟩,
              ⟨(some 14), none, (.bin .eql (.tmp 12) (.tmp 13))⟩,
              ⟨(some 6), none, (.mov (.tmp 14))⟩] [6]) (
            .ret)) (
          .skip))) (
      .seq (
        .seq (
          .region [⟨(some 15), none, (.mov (.tmp 0))⟩,
            ⟨(some 16), none, (.slSl 2 (.tmp 15) (some (.con (.int .i64 (1)))) none none)⟩,
            ⟨(some 17), none, (.lenSl (.tmp 16))⟩,
            ⟨(some 18), none, (.mov (.con (.int .i64 (0))))⟩] [0, 1, 2, 16, 17, 18]) (
          .block 0 (
            .loop (
              .seq (
                .region [⟨(some 19), none, (.bin .lss (.tmp 18) (.tmp 17))⟩] [0, 1, 2, 16, 17, 18, 19]) (
                .seq (
                  .cond (.tmp 19) (
                    .skip) (
                    .exit 0)) (
                  .seq (
                    .block 1 (
                      .seq (
                        .region [⟨(some 20), none, (.mov (.tmp 18))⟩,
                          ⟨(some 21), none, (.idxSl 2 (.tmp 16) (.tmp 18))⟩,
                          ⟨(some 22), none, (.load true 2 (.tmp 21))⟩,
                          ⟨(some 8), none, (.new [(.int .i64 (0)), (.int .i64 (0))])⟩,
                          ⟨(some 7), none, (.mov (.tmp 20))⟩,
                          ⟨none, none, (.store 2 (.tmp 8) (.tmp 22))⟩] [0, 1, 2, 7, 8, 16, 17, 18]) (
                        .seq (
                          .regionD [0, 0, 3, 7, 15, 0, 32, 127] [(0, ⟨(some 23), none, (.mov (.tmp 0))⟩),
                            (1, ⟨(some 24), none, (.mov (.tmp 7))⟩),
                            (2, ⟨(some 25), none, (.idxSl 2 (.tmp 23) (.tmp 24))⟩),
                            (3, ⟨(some 26), none, (.off 1 (.tmp 25))⟩),
                            (4, ⟨(some 27), none, (.load false 1 (.tmp 26))⟩),
                            (5, ⟨(some 28), none, (.off 0 (.tmp 8))⟩),
                            (6, ⟨(some 29), none, (.load false 1 (.tmp 28))⟩),
                            (7, ⟨(some 30), none, (.bin .neq (.tmp 27) (.tmp 29))⟩)] [0, 1, 2, 16, 17, 18, 30]) (
                          .cond (.tmp 30) (
                            .seq (
                              .region [⟨(some 6), none, (.mov (.con (.bool false)))⟩] [6]) (
                              .ret)) (
                            .skip))))) (
                    .region [⟨(some 31), none, (.bin .add (.tmp 18) (.con (.int .i64 (1))))⟩,
                      ⟨(some 18), none, (.mov (.tmp 31))⟩] [0, 1, 2, 16, 17, 18]))))))) (
        .seq (
          .region [⟨(some 32), none, (.mov (.tmp 0))⟩,
            ⟨(some 33), none, (.idxSl 2 (.tmp 32) (.con (.int .i64 (0))))⟩,
            ⟨(some 34), none, (.off 0 (.tmp 33))⟩,
            ⟨(some 35), none, (.load false 1 (.tmp 34))⟩,
            ⟨(some 36), none, (.mov (.tmp 1))⟩,
            ⟨(some 37), none, (.bin .leq (.tmp 35) (.tmp 36))⟩,
            ⟨(some 38), none, (.mov (.tmp 37))⟩,
            ⟨(some 39), (some (38, true)), (.mov (.tmp 0))⟩,
            ⟨(some 40), (some (38, true)), (.mov (.tmp 0))⟩,
            ⟨(some 41), (some (38, true)), (.lenSl (.tmp 40))⟩,
            ⟨(some 42), (some (38, true)), (.bin .sub (.tmp 41) (.con (.int .i64 (1))))⟩,
            ⟨(some 43), (some (38, true)), (.idxSl 2 (.tmp 39) (.tmp 42))⟩,
            ⟨(some 44), (some (38, true)), (.off 1 (.tmp 43))⟩,
            ⟨(some 45), (some (38, true)), (.load false 1 (.tmp 44))⟩,
            ⟨(some 46), (some (38, true)), (.mov (.tmp 2))⟩,
            ⟨(some 47), (some (38, true)), (.bin .eql (.tmp 45) (.tmp 46))⟩,
            ⟨(some 48), none, (.pick (.tmp 38) (.tmp 47) (.con (.bool false)))⟩,
            ⟨(some 6), none, (.mov (.tmp 48))⟩] [6]) (
          .ret))))), [.tmp 6]⟩

theorem comp119 : cFunc Tryz.prog ann119 16 Tryz.f119 = some ir119 := by kernel_rfl

def ann126 : Nat → Ann := fun i => match i with
  | 0 => ⟨[0], [], []⟩
  | 1 => ⟨[0, 4], [], []⟩
  | 2 => ⟨[2], [], []⟩
  | 3 => ⟨[2], [], []⟩
  | _ => ⟨[], [], []⟩

/-- slices.Clone[[]limnograph/api.Span,limnograph/api.Span] -/
def ir126 : AFunc := ⟨8, (
  .seq (
    .region [⟨(some 2), none, (.mov (.con (.slice none 0 0)))⟩] [0]) (
    .seq (
      .seq (
        .region [⟨(some 3), none, (.mov (.tmp 0))⟩,
          ⟨(some 4), none, (.eqN 0 false (.tmp 3) (.con (.slice none 0 0)))⟩] [0, 4]) (
        .cond (.tmp 4) (
          .seq (
            .region [⟨(some 2), none, (.mov (.con (.slice none 0 0)))⟩] [2]) (
            .ret)) (
          .skip))) (
      .seq (
        .region [⟨(some 5), none, (.buildSlice 0 2 [(.int .i64 (0)), (.int .i64 (0))] [])⟩,
          ⟨(some 6), none, (.mov (.tmp 0))⟩,
          ⟨(some 7), none, (.append 2 16 (.tmp 5) (.tmp 6))⟩,
          ⟨(some 2), none, (.mov (.tmp 7))⟩] [2]) (
        .ret)))), [.tmp 2]⟩

theorem comp126 : cFunc Tryz.prog ann126 7 Tryz.f126 = some ir126 := by kernel_rfl

def ann131 : Nat → Ann := fun i => match i with
  | 0 => ⟨[0], [], []⟩
  | 1 => ⟨[0, 8], [], []⟩
  | 2 => ⟨[2, 3], [], []⟩
  | 3 => ⟨[0, 4], [], []⟩
  | 4 => ⟨[0, 5], [], []⟩
  | 5 => ⟨[2, 3], [], []⟩
  | _ => ⟨[], [], []⟩

/-- limnograph/frame.Wrap -/
def ir131 : AFunc := ⟨24, (
  .seq (
    .region [⟨(some 2), none, (.mov (.con (.slice none 0 0)))⟩,
      ⟨(some 3), none, (.mov (.con (.int .i64 (0))))⟩] [0]) (
    .seq (
      .seq (
        .region [⟨(some 6), none, (.mov (.tmp 0))⟩,
          ⟨(some 7), none, (.lenSl (.tmp 6))⟩,
          ⟨(some 8), none, (.bin .gtr (.tmp 7) (.con (.int .i64 (65536))))⟩] [0, 8]) (
        .cond (.tmp 8) (
          .seq (
            .region [⟨(some 2), none, (.mov (.con (.slice none 0 0)))⟩,
              ⟨(some 3), none, (.mov (.con (.int .i64 (4))))⟩] [2, 3]) (
            .ret)) (
          .skip))) (
      .seq (
        .region [⟨(some 9), none, (.buildSlice 1 1 [(.int .u8 (0))] [(0, 1, (.con (.int .u8 (165))))])⟩,
          ⟨(some 10), none, (.mov (.tmp 0))⟩,
          ⟨(some 11), none, (.lenSl (.tmp 10))⟩,
          ⟨(some 12), none, (.cInt .u32 (.tmp 11))⟩,
          ⟨(some 13), none, (.call (.con (.func (.func 209) #[] #[])) [(.tmp 12)])⟩,
          ⟨(some 14), none, (.append 1 1 (.tmp 9) (.tmp 13))⟩,
          ⟨(some 4), none, (.mov (.tmp 14))⟩] [0, 4]) (
        .seq (
          .region [⟨(some 15), none, (.mov (.tmp 4))⟩,
            ⟨(some 16), none, (.mov (.tmp 4))⟩,
            ⟨(some 17), none, (.mov (.tmp 0))⟩,
            ⟨(some 18), none, (.call (.con (.func (.func 210) #[] #[])) [(.tmp 16), (.tmp 17)])⟩,
            ⟨(some 19), none, (.call (.con (.func (.func 209) #[] #[])) [(.tmp 18)])⟩,
            ⟨(some 20), none, (.append 1 1 (.tmp 15) (.tmp 19))⟩,
            ⟨(some 5), none, (.mov (.tmp 20))⟩] [0, 5]) (
          .seq (
            .region [⟨(some 21), none, (.mov (.tmp 5))⟩,
              ⟨(some 22), none, (.mov (.tmp 0))⟩,
              ⟨(some 23), none, (.append 1 1 (.tmp 21) (.tmp 22))⟩,
              ⟨(some 2), none, (.mov (.tmp 23))⟩,
              ⟨(some 3), none, (.mov (.con (.int .i64 (0))))⟩] [2, 3]) (
            .ret)))))), [.tmp 2, .tmp 3]⟩

theorem comp131 : cFunc Tryz.prog ann131 7 Tryz.f131 = some ir131 := by kernel_rfl

def ann132 : Nat → Ann := fun i => match i with
  | 0 => ⟨[0, 1], [], []⟩
  | 1 => ⟨[0, 1, 5], [], []⟩
  | 2 => ⟨[0, 1, 5, 8], [], []⟩
  | 3 => ⟨[4], [], []⟩
  | 4 => ⟨[0, 1, 12], [], []⟩
  | 5 => ⟨[4], [], []⟩
  | 6 => ⟨[0, 1, 16], [], []⟩
  | 7 => ⟨[4], [], []⟩
  | 8 => ⟨[0, 1, 24], [], []⟩
  | 9 => ⟨[4], [], []⟩
  | 10 => ⟨[], [], []⟩
  | 11 => ⟨[4], [], []⟩
  | _ => ⟨[], [], []⟩

/-- (*limnograph/disk.Disk).Create -/
def ir132 : AFunc := ⟨38, (
  .seq (
    .region [⟨(some 4), none, (.mov (.con (.int .i64 (0))))⟩] [0, 1]) (
    .seq (
      .region [⟨(some 6), none, (.mov (.tmp 0))⟩,
        ⟨(some 7), none, (.call (.con (.func (.func 211) #[] #[])) [(.tmp 6)])⟩,
        ⟨(some 5), none, (.mov (.tmp 7))⟩] [0, 1, 5]) (
      .seq (
        .block 0 (
          .seq (
            .region [⟨(some 9), none, (.mov (.tmp 5))⟩,
              ⟨(some 10), none, (.bin .neq (.tmp 9) (.con (.int .i64 (0))))⟩,
              ⟨(some 8), none, (.mov (.tmp 10))⟩] [0, 1, 5, 8]) (
            .cond (.tmp 8) (
              .seq (
                .region [⟨(some 11), none, (.mov (.tmp 5))⟩,
                  ⟨(some 4), none, (.mov (.tmp 11))⟩] [4]) (
                .ret)) (
              .seq (
                .region [⟨(some 13), none, (.mov (.tmp 1))⟩,
                  ⟨(some 14), none, (.call (.con (.func (.func 106) #[] #[])) [(.tmp 13)])⟩,
                  ⟨(some 15), none, (.un .not (.tmp 14))⟩,
                  ⟨(some 12), none, (.mov (.tmp 15))⟩] [0, 1, 12]) (
                .cond (.tmp 12) (
                  .seq (
                    .region [⟨(some 4), none, (.mov (.con (.int .i64 (3))))⟩] [4]) (
                    .ret)) (
                  .seq (
                    .region [⟨(some 17), none, (.mov (.tmp 0))⟩,
                      ⟨(some 18), none, (.nilCheck (.tmp 17))⟩,
                      ⟨(some 19), none, (.off 0 (.tmp 18))⟩,
                      ⟨(some 20), none, (.load false 1 (.tmp 19))⟩,
                      ⟨(some 21), none, (.mov (.tmp 1))⟩,
                      ⟨(some 22), none, (.lookup 1 (.pointer none) false (.tmp 20) (.tmp 21))⟩,
                      ⟨(some 23), none, (.eqP true (.tmp 22) (.con (.pointer none)))⟩,
                      ⟨(some 16), none, (.mov (.tmp 23))⟩] [0, 1, 16]) (
                    .cond (.tmp 16) (
                      .seq (
                        .region [⟨(some 4), none, (.mov (.con (.int .i64 (8))))⟩] [4]) (
                        .ret)) (
                      .seq (
                        .region [⟨(some 25), none, (.mov (.tmp 0))⟩,
                          ⟨(some 26), none, (.nilCheck (.tmp 25))⟩,
                          ⟨(some 27), none, (.off 0 (.tmp 26))⟩,
                          ⟨(some 28), none, (.load false 1 (.tmp 27))⟩,
                          ⟨(some 29), none, (.lenMap (.tmp 28))⟩,
                          ⟨(some 30), none, (.bin .eql (.tmp 29) (.con (.int .i64 (4096))))⟩,
                          ⟨(some 24), none, (.mov (.tmp 30))⟩] [0, 1, 24]) (
                        .cond (.tmp 24) (
                          .seq (
                            .region [⟨(some 4), none, (.mov (.con (.int .i64 (6))))⟩] [4]) (
                            .ret)) (
                          .skip)))))))))) (
        .seq (
          .region [⟨(some 31), none, (.mov (.tmp 0))⟩,
            ⟨(some 32), none, (.nilCheck (.tmp 31))⟩,
            ⟨(some 33), none, (.off 0 (.tmp 32))⟩,
            ⟨(some 34), none, (.load false 1 (.tmp 33))⟩,
            ⟨(some 35), none, (.mov (.tmp 1))⟩,
            ⟨(some 36), none, (.build [(.slice none 0 0), (.int .i64 (0))] [])⟩,
            ⟨(some 37), none, (.box (.tmp 36))⟩,
            ⟨none, none, (.mapSet 1 (.tmp 34) (.tmp 35) (.tmp 37))⟩] []) (
          .seq (
            .region [⟨(some 4), none, (.mov (.con (.int .i64 (0))))⟩] [4]) (
            .ret)))))), [.tmp 4]⟩

theorem comp132 : cFunc Tryz.prog ann132 15 Tryz.f132 = some ir132 := by kernel_rfl

def ann133 : Nat → Ann := fun i => match i with
  | 0 => ⟨[0, 1, 2], [], []⟩
  | 1 => ⟨[0, 2, 7, 8], [], []⟩
  | 2 => ⟨[0, 2, 7, 8, 16], [], []⟩
  | 3 => ⟨[6], [], []⟩
  | 4 => ⟨[2, 7, 27], [0, 1, 2, 3, 4, 5, 6, 7, 8, 9], [0, 1, 0, 4, 12, 28, 0, 64, 252, 511]⟩
  | 5 => ⟨[6], [], []⟩
  | 6 => ⟨[], [], []⟩
  | 7 => ⟨[6], [], []⟩
  | _ => ⟨[], [], []⟩

/-- (*limnograph/disk.Disk).Append -/
def ir133 : AFunc := ⟨37, (
  .seq (
    .region [⟨(some 6), none, (.mov (.con (.int .i64 (0))))⟩] [0, 1, 2]) (
    .seq (
      .region [⟨(some 10), none, (.mov (.tmp 0))⟩,
        ⟨(some 11), none, (.mov (.tmp 1))⟩,
        ⟨(some 12), none, (.call (.con (.func (.func 203) #[] #[])) [(.tmp 10), (.tmp 11)])⟩,
        ⟨(some 9), none, (.mov (.tmp 12))⟩,
        ⟨(some 13), none, (.extract (.tmp 9) 0)⟩,
        ⟨(some 14), none, (.extract (.tmp 9) 1)⟩,
        ⟨(some 7), none, (.mov (.tmp 13))⟩,
        ⟨(some 8), none, (.mov (.tmp 14))⟩] [0, 2, 7, 8]) (
      .seq (
        .seq (
          .region [⟨(some 15), none, (.mov (.tmp 8))⟩,
            ⟨(some 16), none, (.bin .neq (.tmp 15) (.con (.int .i64 (0))))⟩] [0, 2, 7, 8, 16]) (
          .cond (.tmp 16) (
            .seq (
              .region [⟨(some 17), none, (.mov (.tmp 8))⟩,
                ⟨(some 6), none, (.mov (.tmp 17))⟩] [6]) (
              .ret)) (
            .skip))) (
        .seq (
          .seq (
            .regionD [0, 1, 0, 4, 12, 28, 0, 64, 252, 511] [(0, ⟨(some 18), none, (.mov (.tmp 2))⟩),
              (1, ⟨(some 19), none, (.lenSl (.tmp 18))⟩),
              (2, ⟨(some 20), none, (.mov (.tmp 0))⟩),
              (3, ⟨(some 21), none, (.nilCheck (.tmp 20))⟩),
              (4, ⟨(some 22), none, (.off 1 (.tmp 21))⟩),
              (5, ⟨(some 23), none, (.load false 1 (.tmp 22))⟩),
              (6, ⟨(some 24), none, (.mov (.tmp 0))⟩),
              (7, ⟨(some 25), none, (.call (.con (.func (.func 212) #[] #[])) [(.tmp 24)])⟩),
              (8, ⟨(some 26), none, (.bin .sub (.tmp 23) (.tmp 25))⟩),
              (9, ⟨(some 27), none, (.bin .gtr (.tmp 19) (.tmp 26))⟩)] [2, 7, 27]) (
            .cond (.tmp 27) (
              .seq (
                .region [⟨(some 6), none, (.mov (.con (.int .i64 (12))))⟩] [6]) (
                .ret)) (
              .skip))) (
          .seq (
            .region [⟨(some 28), none, (.mov (.tmp 7))⟩,
              ⟨(some 29), none, (.mov (.tmp 7))⟩,
              ⟨(some 30), none, (.nilCheck (.tmp 29))⟩,
              ⟨(some 31), none, (.off 0 (.tmp 30))⟩,
              ⟨(some 32), none, (.load false 1 (.tmp 31))⟩,
              ⟨(some 33), none, (.mov (.tmp 2))⟩,
              ⟨(some 34), none, (.append 1 1 (.tmp 32) (.tmp 33))⟩,
              ⟨(some 35), none, (.nilCheck (.tmp 28))⟩,
              ⟨(some 36), none, (.off 0 (.tmp 35))⟩,
              ⟨none, none, (.store 1 (.tmp 36) (.tmp 34))⟩] []) (
            .seq (
              .region [⟨(some 6), none, (.mov (.con (.int .i64 (0))))⟩] [6]) (
              .ret))))))), [.tmp 6]⟩

theorem comp133 : cFunc Tryz.prog ann133 9 Tryz.f133 = some ir133 := by kernel_rfl

def ann134 : Nat → Ann := fun i => match i with
  | 0 => ⟨[0, 1], [], []⟩
  | 1 => ⟨[5, 6], [], []⟩
  | 2 => ⟨[5, 6, 14], [], []⟩
  | 3 => ⟨[6], [], []⟩
  | 4 => ⟨[4], [], []⟩
  | _ => ⟨[], [], []⟩

/-- (*limnograph/disk.Disk).Sync -/
def ir134 : AFunc := ⟨24, (
  .seq (
    .region [⟨(some 4), none, (.mov (.con (.int .i64 (0))))⟩] [0, 1]) (
    .seq (
      .region [⟨(some 8), none, (.mov (.tmp 0))⟩,
        ⟨(some 9), none, (.mov (.tmp 1))⟩,
        ⟨(some 10), none, (.call (.con (.func (.func 203) #[] #[])) [(.tmp 8), (.tmp 9)])⟩,
        ⟨(some 7), none, (.mov (.tmp 10))⟩,
        ⟨(some 11), none, (.extract (.tmp 7) 0)⟩,
        ⟨(some 12), none, (.extract (.tmp 7) 1)⟩,
        ⟨(some 5), none, (.mov (.tmp 11))⟩,
        ⟨(some 6), none, (.mov (.tmp 12))⟩] [5, 6]) (
      .seq (
        .seq (
          .region [⟨(some 13), none, (.mov (.tmp 6))⟩,
            ⟨(some 14), none, (.bin .eql (.tmp 13) (.con (.int .i64 (0))))⟩] [5, 6, 14]) (
          .cond (.tmp 14) (
            .region [⟨(some 15), none, (.mov (.tmp 5))⟩,
              ⟨(some 16), none, (.mov (.tmp 5))⟩,
              ⟨(some 17), none, (.nilCheck (.tmp 16))⟩,
              ⟨(some 18), none, (.off 0 (.tmp 17))⟩,
              ⟨(some 19), none, (.load false 1 (.tmp 18))⟩,
              ⟨(some 20), none, (.lenSl (.tmp 19))⟩,
              ⟨(some 21), none, (.nilCheck (.tmp 15))⟩,
              ⟨(some 22), none, (.off 1 (.tmp 21))⟩,
              ⟨none, none, (.store 1 (.tmp 22) (.tmp 20))⟩] [6]) (
            .skip))) (
        .seq (
          .region [⟨(some 23), none, (.mov (.tmp 6))⟩,
            ⟨(some 4), none, (.mov (.tmp 23))⟩] [4]) (
          .ret))))), [.tmp 4]⟩

theorem comp134 : cFunc Tryz.prog ann134 7 Tryz.f134 = some ir134 := by kernel_rfl

def ann203 : Nat → Ann := fun i => match i with
  | 0 => ⟨[0, 1], [], []⟩
  | 1 => ⟨[0, 1, 6], [], []⟩
  | 2 => ⟨[0, 1, 6, 11], [], []⟩
  | 3 => ⟨[4, 5], [], []⟩
  | 4 => ⟨[7], [], []⟩
  | 5 => ⟨[7, 20], [], []⟩
  | 6 => ⟨[4, 5], [], []⟩
  | 7 => ⟨[4, 5], [], []⟩
  | _ => ⟨[], [], []⟩

/-- (*limnograph/disk.Disk).open -/
def ir203 : AFunc := ⟨22, (
  .seq (
    .region [⟨(some 4), none, (.mov (.con (.pointer none)))⟩,
      ⟨(some 5), none, (.mov (.con (.int .i64 (0))))⟩] [0, 1]) (
    .seq (
      .seq (
        .region [⟨(some 8), none, (.mov (.tmp 0))⟩,
          ⟨(some 9), none, (.call (.con (.func (.func 211) #[] #[])) [(.tmp 8)])⟩,
          ⟨(some 6), none, (.mov (.tmp 9))⟩] [0, 1, 6]) (
        .seq (
          .region [⟨(some 10), none, (.mov (.tmp 6))⟩,
            ⟨(some 11), none, (.bin .neq (.tmp 10) (.con (.int .i64 (0))))⟩] [0, 1, 6, 11]) (
          .cond (.tmp 11) (
            .seq (
              .region [⟨(some 12), none, (.mov (.tmp 6))⟩,
                ⟨(some 4), none, (.mov (.con (.pointer none)))⟩,
                ⟨(some 5), none, (.mov (.tmp 12))⟩] [4, 5]) (
              .ret)) (
            .skip)))) (
      .seq (
        .region [⟨(some 13), none, (.mov (.tmp 0))⟩,
          ⟨(some 14), none, (.nilCheck (.tmp 13))⟩,
          ⟨(some 15), none, (.off 0 (.tmp 14))⟩,
          ⟨(some 16), none, (.load false 1 (.tmp 15))⟩,
          ⟨(some 17), none, (.mov (.tmp 1))⟩,
          ⟨(some 18), none, (.lookup 1 (.pointer none) false (.tmp 16) (.tmp 17))⟩,
          ⟨(some 7), none, (.mov (.tmp 18))⟩] [7]) (
        .seq (
          .seq (
            .region [⟨(some 19), none, (.mov (.tmp 7))⟩,
              ⟨(some 20), none, (.eqP false (.tmp 19) (.con (.pointer none)))⟩] [7, 20]) (
            .cond (.tmp 20) (
              .seq (
                .region [⟨(some 4), none, (.mov (.con (.pointer none)))⟩,
                  ⟨(some 5), none, (.mov (.con (.int .i64 (7))))⟩] [4, 5]) (
                .ret)) (
              .skip))) (
          .seq (
            .region [⟨(some 21), none, (.mov (.tmp 7))⟩,
              ⟨(some 4), none, (.mov (.tmp 21))⟩,
              ⟨(some 5), none, (.mov (.con (.int .i64 (0))))⟩] [4, 5]) (
            .ret)))))), [.tmp 4, .tmp 5]⟩

theorem comp203 : cFunc Tryz.prog ann203 9 Tryz.f203 = some ir203 := by kernel_rfl

def ann209 : Nat → Ann := fun i => match i with
  | 0 => ⟨[0], [], []⟩
  | 1 => ⟨[2], [], []⟩
  | _ => ⟨[], [], []⟩

/-- limnograph/frame.four -/
def ir209 : AFunc := ⟨15, (
  .seq (
    .region [⟨(some 2), none, (.mov (.con (.slice none 0 0)))⟩] [0]) (
    .seq (
      .region [⟨(some 3), none, (.mov (.tmp 0))⟩,
        ⟨(some 4), none, (.cInt .u8 (.tmp 3))⟩,
        ⟨(some 5), none, (.mov (.tmp 0))⟩,
        ⟨(some 6), none, (.bin .shr (.tmp 5) (.con (.int .u64 (8))))⟩,
        ⟨(some 7), none, (.cInt .u8 (.tmp 6))⟩,
        ⟨(some 8), none, (.mov (.tmp 0))⟩,
        ⟨(some 9), none, (.bin .shr (.tmp 8) (.con (.int .u64 (16))))⟩,
        ⟨(some 10), none, (.cInt .u8 (.tmp 9))⟩,
        ⟨(some 11), none, (.mov (.tmp 0))⟩,
        ⟨(some 12), none, (.bin .shr (.tmp 11) (.con (.int .u64 (24))))⟩,
        ⟨(some 13), none, (.cInt .u8 (.tmp 12))⟩,
        ⟨(some 14), none, (.buildSlice 4 1 [(.int .u8 (0))] [(0, 1, (.tmp 4)), (1, 1, (.tmp 7)), (2, 1, (.tmp 10)), (3, 1, (.tmp 13))])⟩,
        ⟨(some 2), none, (.mov (.tmp 14))⟩] [2]) (
      .ret))), [.tmp 2]⟩

theorem comp209 : cFunc Tryz.prog ann209 4 Tryz.f209 = some ir209 := by kernel_rfl

def ann210 : Nat → Ann := fun i => match i with
  | 0 => ⟨[0, 1], [], []⟩
  | 1 => ⟨[4], [], []⟩
  | _ => ⟨[], [], []⟩

/-- limnograph/frame.sum -/
def ir210 : AFunc := ⟨9, (
  .seq (
    .region [⟨(some 4), none, (.mov (.con (.int .u32 (0))))⟩] [0, 1]) (
    .seq (
      .region [⟨(some 5), none, (.mov (.tmp 0))⟩,
        ⟨(some 6), none, (.call (.con (.func (.func 277) #[] #[])) [(.tmp 5)])⟩,
        ⟨(some 7), none, (.mov (.tmp 1))⟩,
        ⟨(some 8), none, (.call (.con (.func (.func 276) #[] #[])) [(.tmp 6), (.tmp 7)])⟩,
        ⟨(some 4), none, (.mov (.tmp 8))⟩] [4]) (
      .ret))), [.tmp 4]⟩

theorem comp210 : cFunc Tryz.prog ann210 4 Tryz.f210 = some ir210 := by kernel_rfl

def ann211 : Nat → Ann := fun i => match i with
  | 0 => ⟨[0], [], []⟩
  | 1 => ⟨[0, 6], [], []⟩
  | 2 => ⟨[2], [], []⟩
  | 3 => ⟨[0], [], []⟩
  | 4 => ⟨[0, 17], [], []⟩
  | 5 => ⟨[0, 17, 18], [], []⟩
  | 6 => ⟨[], [], []⟩
  | 7 => ⟨[2], [], []⟩
  | 8 => ⟨[0, 28], [], []⟩
  | 9 => ⟨[2], [], []⟩
  | 10 => ⟨[2], [], []⟩
  | _ => ⟨[], [], []⟩

/-- (*limnograph/disk.Disk).begin -/
def ir211 : AFunc := ⟨40, (
  .seq (
    .region [⟨(some 2), none, (.mov (.con (.int .i64 (0))))⟩] [0]) (
    .seq (
      .seq (
        .region [⟨(some 3), none, (.mov (.tmp 0))⟩,
          ⟨(some 4), none, (.nilCheck (.tmp 3))⟩,
          ⟨(some 5), none, (.off 2 (.tmp 4))⟩,
          ⟨(some 6), none, (.load false 1 (.tmp 5))⟩] [0, 6]) (
        .cond (.tmp 6) (
          .seq (
            .region [⟨(some 2), none, (.mov (.con (.int .i64 (13))))⟩] [2]) (
            .ret)) (
          .skip))) (
      .seq (
        .region [⟨(some 7), none, (.mov (.tmp 0))⟩,
          ⟨(some 8), none, (.nilCheck (.tmp 7))⟩,
          ⟨(some 9), none, (.off 3 (.tmp 8))⟩,
          ⟨(some 10), none, (.load false 1 (.tmp 9))⟩,
          ⟨(some 11), none, (.bin .add (.tmp 10) (.con (.int .i64 (1))))⟩,
          ⟨(some 12), none, (.nilCheck (.tmp 7))⟩,
          ⟨(some 13), none, (.off 3 (.tmp 12))⟩,
          ⟨none, none, (.store 1 (.tmp 13) (.tmp 11))⟩] [0]) (
        .seq (
          .seq (
            .region [⟨(some 14), none, (.mov (.tmp 0))⟩,
              ⟨(some 15), none, (.nilCheck (.tmp 14))⟩,
              ⟨(some 16), none, (.off 3 (.tmp 15))⟩,
              ⟨(some 17), none, (.load false 1 (.tmp 16))⟩] [0, 17]) (
            .block 0 (
              .seq (
                .region [⟨(some 19), none, (.mov (.tmp 0))⟩,
                  ⟨(some 20), none, (.nilCheck (.tmp 19))⟩,
                  ⟨(some 21), none, (.off 6 (.tmp 20))⟩,
                  ⟨(some 22), none, (.off 0 (.tmp 21))⟩,
                  ⟨(some 23), none, (.load false 1 (.tmp 22))⟩,
                  ⟨(some 24), none, (.bin .eql (.tmp 17) (.tmp 23))⟩,
                  ⟨(some 18), none, (.mov (.tmp 24))⟩] [0, 17, 18]) (
                .cond (.tmp 18) (
                  .seq (
                    .region [⟨(some 25), none, (.mov (.tmp 0))⟩,
                      ⟨(some 26), none, (.nilCheck (.tmp 25))⟩,
                      ⟨(some 27), none, (.off 2 (.tmp 26))⟩,
                      ⟨none, none, (.store 1 (.tmp 27) (.con (.bool true)))⟩] []) (
                    .seq (
                      .region [⟨(some 2), none, (.mov (.con (.int .i64 (13))))⟩] [2]) (
                      .ret))) (
                  .seq (
                    .region [⟨(some 29), none, (.mov (.tmp 0))⟩,
                      ⟨(some 30), none, (.nilCheck (.tmp 29))⟩,
                      ⟨(some 31), none, (.off 4 (.tmp 30))⟩,
                      ⟨(some 32), none, (.off 0 (.tmp 31))⟩,
                      ⟨(some 33), none, (.load false 1 (.tmp 32))⟩,
                      ⟨(some 34), none, (.bin .eql (.tmp 17) (.tmp 33))⟩,
                      ⟨(some 28), none, (.mov (.tmp 34))⟩] [0, 28]) (
                    .cond (.tmp 28) (
                      .seq (
                        .region [⟨(some 35), none, (.mov (.tmp 0))⟩,
                          ⟨(some 36), none, (.nilCheck (.tmp 35))⟩,
                          ⟨(some 37), none, (.off 4 (.tmp 36))⟩,
                          ⟨(some 38), none, (.off 1 (.tmp 37))⟩,
                          ⟨(some 39), none, (.load false 1 (.tmp 38))⟩,
                          ⟨(some 2), none, (.mov (.tmp 39))⟩] [2]) (
                        .ret)) (
                      .skip))))))) (
          .seq (
            .region [⟨(some 2), none, (.mov (.con (.int .i64 (0))))⟩] [2]) (
            .ret)))))), [.tmp 2]⟩

theorem comp211 : cFunc Tryz.prog ann211 13 Tryz.f211 = some ir211 := by kernel_rfl

def ann276 : Nat → Ann := fun i => match i with
  | 0 => ⟨[0, 1], [], []⟩
  | 1 => ⟨[0, 1, 5], [], []⟩
  | 2 => ⟨[0, 1, 5], [], []⟩
  | 3 => ⟨[0, 5, 11, 12, 13], [], []⟩
  | 4 => ⟨[0, 5, 11, 12, 13, 14], [], []⟩
  | 5 => ⟨[0, 5, 7, 11, 12, 13], [], []⟩
  | 6 => ⟨[0, 5, 11, 12, 13], [], []⟩
  | 7 => ⟨[0, 5, 11, 12, 13], [], []⟩
  | 8 => ⟨[0, 5, 11, 12, 13], [], []⟩
  | 9 => ⟨[0, 5, 11, 12, 13], [], []⟩
  | 10 => ⟨[4], [], []⟩
  | _ => ⟨[], [], []⟩

/-- limnograph/crc.More -/
def ir276 : AFunc := ⟨38, (
  .seq (
    .region [⟨(some 4), none, (.mov (.con (.int .u32 (0))))⟩] [0, 1]) (
    .seq (
      .region [⟨(some 8), none, (.call (.con (.func (.func 321) #[] #[])) [])⟩,
        ⟨(some 5), none, (.new [(.int .u32 (0)), (.int .u32 (0)), (.int .u32 (0)), (.int .u32 (0)), (.int .u32 (0)), (.int .u32 (0)), (.int .u32 (0)), (.int .u32 (0)), (.int .u32 (0)), (.int .u32 (0)), (.int .u32 (0)), (.int .u32 (0)), (.int .u32 (0)), (.int .u32 (0)), (.int .u32 (0)), (.int .u32 (0))])⟩,
        ⟨none, none, (.store 16 (.tmp 5) (.tmp 8))⟩] [0, 1, 5]) (
      .seq (
        .region [⟨(some 9), none, (.mov (.tmp 0))⟩,
          ⟨(some 10), none, (.un .xor (.tmp 9))⟩,
          ⟨(some 0), none, (.mov (.tmp 10))⟩] [0, 1, 5]) (
        .seq (
          .seq (
            .region [⟨(some 11), none, (.mov (.tmp 1))⟩,
              ⟨(some 12), none, (.lenSl (.tmp 11))⟩,
              ⟨(some 13), none, (.mov (.con (.int .i64 (0))))⟩] [0, 5, 11, 12, 13]) (
            .block 0 (
              .loop (
                .seq (
                  .region [⟨(some 14), none, (.bin .lss (.tmp 13) (.tmp 12))⟩] [0, 5, 11, 12, 13, 14]) (
                  .seq (
                    .cond (.tmp 14) (
                      .skip) (
                      .exit 0)) (
                    .seq (
                      .block 1 (
                        .seq (
                          .region [⟨(some 15), none, (.idxSl 1 (.tmp 11) (.tmp 13))⟩,
                            ⟨(some 16), none, (.load false 1 (.tmp 15))⟩,
                            ⟨(some 7), none, (.mov (.tmp 16))⟩] [0, 5, 7, 11, 12, 13]) (
                          .seq (
                            .region [⟨(some 17), none, (.mov (.tmp 0))⟩,
                              ⟨(some 18), none, (.mov (.tmp 7))⟩,
                              ⟨(some 19), none, (.cInt .u32 (.tmp 18))⟩,
                              ⟨(some 20), none, (.bin .xor (.tmp 17) (.tmp 19))⟩,
                              ⟨(some 0), none, (.mov (.tmp 20))⟩] [0, 5, 11, 12, 13]) (
                            .seq (
                              .region [⟨(some 21), none, (.mov (.tmp 0))⟩,
                                ⟨(some 22), none, (.bin .shr (.tmp 21) (.con (.int .u64 (4))))⟩,
                                ⟨(some 23), none, (.mov (.tmp 0))⟩,
                                ⟨(some 24), none, (.bin .and (.tmp 23) (.con (.int .u32 (15))))⟩,
                                ⟨(some 25), none, (.idxPtr 16 1 (.tmp 5) (.tmp 24))⟩,
                                ⟨(some 26), none, (.load false 1 (.tmp 25))⟩,
                                ⟨(some 27), none, (.bin .xor (.tmp 22) (.tmp 26))⟩,
                                ⟨(some 0), none, (.mov (.tmp 27))⟩] [0, 5, 11, 12, 13]) (
                              .region [⟨(some 28), none, (.mov (.tmp 0))⟩,
                                ⟨(some 29), none, (.bin .shr (.tmp 28) (.con (.int .u64 (4))))⟩,
                                ⟨(some 30), none, (.mov (.tmp 0))⟩,
                                ⟨(some 31), none, (.bin .and (.tmp 30) (.con (.int .u32 (15))))⟩,
                                ⟨(some 32), none, (.idxPtr 16 1 (.tmp 5) (.tmp 31))⟩,
                                ⟨(some 33), none, (.load false 1 (.tmp 32))⟩,
                                ⟨(some 34), none, (.bin .xor (.tmp 29) (.tmp 33))⟩,
                                ⟨(some 0), none, (.mov (.tmp 34))⟩] [0, 5, 11, 12, 13]))))) (
                      .region [⟨(some 35), none, (.bin .add (.tmp 13) (.con (.int .i64 (1))))⟩,
                        ⟨(some 13), none, (.mov (.tmp 35))⟩] [0, 5, 11, 12, 13]))))))) (
          .seq (
            .region [⟨(some 36), none, (.mov (.tmp 0))⟩,
              ⟨(some 37), none, (.un .xor (.tmp 36))⟩,
              ⟨(some 4), none, (.mov (.tmp 37))⟩] [4]) (
            .ret)))))), [.tmp 4]⟩

theorem comp276 : cFunc Tryz.prog ann276 16 Tryz.f276 = some ir276 := by kernel_rfl

def ann277 : Nat → Ann := fun i => match i with
  | 0 => ⟨[0], [], []⟩
  | 1 => ⟨[2], [], []⟩
  | _ => ⟨[], [], []⟩

/-- limnograph/crc.Of -/
def ir277 : AFunc := ⟨5, (
  .seq (
    .region [⟨(some 2), none, (.mov (.con (.int .u32 (0))))⟩] [0]) (
    .seq (
      .region [⟨(some 3), none, (.mov (.tmp 0))⟩,
        ⟨(some 4), none, (.call (.con (.func (.func 276) #[] #[])) [(.con (.int .u32 (0))), (.tmp 3)])⟩,
        ⟨(some 2), none, (.mov (.tmp 4))⟩] [2]) (
      .ret))), [.tmp 2]⟩

theorem comp277 : cFunc Tryz.prog ann277 4 Tryz.f277 = some ir277 := by kernel_rfl

def ann321 : Nat → Ann := fun i => match i with
  | 0 => ⟨[0], [], []⟩
  | 1 => ⟨[0, 3], [], []⟩
  | 2 => ⟨[0, 3, 4], [], []⟩
  | 3 => ⟨[0, 1, 3], [], []⟩
  | 4 => ⟨[0, 1, 2, 3], [], []⟩
  | 5 => ⟨[0, 1, 2, 3, 8], [], []⟩
  | 6 => ⟨[0, 1, 2, 3, 8, 9], [], []⟩
  | 7 => ⟨[0, 1, 2, 3, 8], [], []⟩
  | 8 => ⟨[0, 1, 2, 3, 8], [], []⟩
  | 9 => ⟨[0, 3], [], []⟩
  | 10 => ⟨[0, 3], [], []⟩
  | 11 => ⟨[0], [], []⟩
  | _ => ⟨[], [], []⟩

/-- limnograph/crc.nibbles -/
def ir321 : AFunc := ⟨23, (
  .seq (
    .region [⟨(some 0), none, (.new [(.int .u32 (0)), (.int .u32 (0)), (.int .u32 (0)), (.int .u32 (0)), (.int .u32 (0)), (.int .u32 (0)), (.int .u32 (0)), (.int .u32 (0)), (.int .u32 (0)), (.int .u32 (0)), (.int .u32 (0)), (.int .u32 (0)), (.int .u32 (0)), (.int .u32 (0)), (.int .u32 (0)), (.int .u32 (0))])⟩] [0]) (
    .seq (
      .seq (
        .region [⟨(some 3), none, (.mov (.con (.int .i64 (0))))⟩] [0, 3]) (
        .block 0 (
          .loop (
            .seq (
              .region [⟨(some 4), none, (.bin .lss (.tmp 3) (.con (.int .i64 (16))))⟩] [0, 3, 4]) (
              .seq (
                .cond (.tmp 4) (
                  .skip) (
                  .exit 0)) (
                .seq (
                  .block 1 (
                    .seq (
                      .region [⟨(some 5), none, (.mov (.tmp 3))⟩,
                        ⟨(some 1), none, (.mov (.tmp 5))⟩] [0, 1, 3]) (
                      .seq (
                        .region [⟨(some 6), none, (.mov (.tmp 1))⟩,
                          ⟨(some 7), none, (.cInt .u32 (.tmp 6))⟩,
                          ⟨(some 2), none, (.mov (.tmp 7))⟩] [0, 1, 2, 3]) (
                        .seq (
                          .seq (
                            .region [⟨(some 8), none, (.mov (.con (.int .i64 (0))))⟩] [0, 1, 2, 3, 8]) (
                            .block 2 (
                              .loop (
                                .seq (
                                  .region [⟨(some 9), none, (.bin .lss (.tmp 8) (.con (.int .i64 (4))))⟩] [0, 1, 2, 3, 8, 9]) (
                                  .seq (
                                    .cond (.tmp 9) (
                                      .skip) (
                                      .exit 2)) (
                                    .seq (
                                      .block 3 (
                                        .region [⟨(some 10), none, (.mov (.tmp 2))⟩,
                                          ⟨(some 11), none, (.bin .shr (.tmp 10) (.con (.int .u64 (1))))⟩,
                                          ⟨(some 12), none, (.mov (.tmp 2))⟩,
                                          ⟨(some 13), none, (.bin .and (.tmp 12) (.con (.int .u32 (1))))⟩,
                                          ⟨(some 14), none, (.un .neg (.tmp 13))⟩,
                                          ⟨(some 15), none, (.bin .and (.con (.int .u32 (2197175160))) (.tmp 14))⟩,
                                          ⟨(some 16), none, (.bin .xor (.tmp 11) (.tmp 15))⟩,
                                          ⟨(some 2), none, (.mov (.tmp 16))⟩] [0, 1, 2, 3, 8])) (
                                      .region [⟨(some 17), none, (.bin .add (.tmp 8) (.con (.int .i64 (1))))⟩,
                                        ⟨(some 8), none, (.mov (.tmp 17))⟩] [0, 1, 2, 3, 8]))))))) (
                          .region [⟨(some 18), none, (.mov (.tmp 1))⟩,
                            ⟨(some 19), none, (.mov (.tmp 2))⟩,
                            ⟨(some 20), none, (.idxPtr 16 1 (.tmp 0) (.tmp 18))⟩,
                            ⟨none, none, (.store 1 (.tmp 20) (.tmp 19))⟩] [0, 3]))))) (
                  .region [⟨(some 21), none, (.bin .add (.tmp 3) (.con (.int .i64 (1))))⟩,
                    ⟨(some 3), none, (.mov (.tmp 21))⟩] [0, 3]))))))) (
      .seq (
        .region [⟨(some 22), none, (.load true 16 (.tmp 0))⟩,
          ⟨none, none, (.store 16 (.tmp 0) (.tmp 22))⟩] [0]) (
        .ret)))), [.cell 0 true 16]⟩

theorem comp321 : cFunc Tryz.prog ann321 21 Tryz.f321 = some ir321 := by kernel_rfl

end Go.Ab.Pr
