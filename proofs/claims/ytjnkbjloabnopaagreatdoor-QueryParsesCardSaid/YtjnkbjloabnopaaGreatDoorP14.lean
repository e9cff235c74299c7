/- The codes of some functions, tied to the loaded program. No conditions. -/
import Derived.Test.YtjnkbjloabnopaaGreatDoorP13
import Derived.Lib.Bytealg
import Derived.Laws.Externs
import Derived.WalkKit
import Derived.Shelf.Abstract
namespace Go.Proofs
open Go.Abs Go.Abs.I
def r15_0 : L := [o 2 (.box 38 (t 0)),
  o 3 (.box 38 (t 1)),
  o 4 (a (b false))]
def r15_1 : L := [o 6 (fa 38 (t 2) 0),
  o 7 (l 32 (t 6)),
  o 8 (fa 38 (t 3) 0),
  o 9 (l 32 (t 8)),
  o 10 (.call ⟨.value (f 23), #[(t 7), (t 9)], #[32, 32]⟩),
  o 11 (.unOp .not 4 (t 10)),
  o 12 (m (t 11)),
  y 13 (fa 38 (t 2) 1) 12 false,
  y 14 (l 35 (t 13)) 12 false,
  y 15 (fa 38 (t 3) 1) 12 false,
  y 16 (l 35 (t 15)) 12 false,
  y 17 (.call ⟨.value (f 48), #[(t 14), (t 16)], #[35, 35]⟩) 12 false,
  y 18 (.unOp .not 4 (t 17)) 12 false,
  o 19 (.pick (t 12) (b true) (t 18)),
  o 20 (m (t 19)),
  y 21 (fa 38 (t 2) 3) 20 false,
  y 22 (l 3 (t 21)) 20 false,
  y 23 (fa 38 (t 3) 3) 20 false,
  y 24 (l 3 (t 23)) 20 false,
  y 25 (.binOp .neq 3 (t 22) (t 24) 3) 20 false,
  o 26 (.pick (t 20) (b true) (t 25)),
  o 27 (m (t 26)),
  y 28 (fa 38 (t 2) 2) 27 false,
  y 29 (l 36 (t 28)) 27 false,
  y 30 (ln (t 29) 36) 27 false,
  y 31 (fa 38 (t 3) 2) 27 false,
  y 32 (l 36 (t 31)) 27 false,
  y 33 (ln (t 32) 36) 27 false,
  y 34 (.binOp .neq 3 (t 30) (t 33) 3) 27 false,
  o 35 (.pick (t 27) (b true) (t 34))]
def r15_2 : L := [o 4 (a (b false))]
def r15_3 : L := [o 36 (fa 38 (t 2) 2),
  o 37 (l 36 (t 36)),
  o 38 (ln (t 37) 36),
  o 39 (m (k 0))]
def r15_4 : L := [o 40 (.binOp .lss 3 (t 39) (t 38) 3)]
def r15_5 : L := [o 41 (m (t 39)),
  o 5 (a (t 41))]
def r15_6 : L := [o 42 (fa 38 (t 2) 2),
  o 43 (l 36 (t 42)),
  o 44 (m (t 5)),
  o 45 (.indexAddr 36 (t 43) (t 44)),
  o 46 (l 62 (t 45)),
  o 47 (fa 38 (t 3) 2),
  o 48 (l 36 (t 47)),
  o 49 (m (t 5)),
  o 50 (.indexAddr 36 (t 48) (t 49)),
  o 51 (l 62 (t 50)),
  o 52 (.binOp .neq 62 (t 46) (t 51) 62)]
def r15_7 : L := [o 4 (a (b false))]
def r15_8 : L := [o 53 (.binOp .add 3 (t 39) (k 1) 3),
  o 39 (m (t 53))]
def r15_9 : L := [o 4 (a (b true))]
def ir15 : ACode := .seq (.ops r15_0) (.seq (.seq (.ops r15_1) (.cond (t 35) (.seq (.ops r15_2) (.ret)) (.skip))) (.seq (.seq (.ops r15_3) (.block 0 (.loop (.seq (.ops r15_4) (.seq (.cond (t 40) (.skip) (.exit 0)) (.seq (.block 1 (.seq (.ops r15_5) (.seq (.ops r15_6) (.cond (t 52) (.seq (.ops r15_7) (.ret)) (.skip))))) (.ops r15_8))))))) (.seq (.ops r15_9) (.ret))))
theorem en15 : En ir15 54 [.tmp 4] 15 := acalls_enter_b mixed Tryz.func15 Tryz.ntmps15 (by kernel_rfl) (by kernel_rfl)
theorem ca15 : Ca 15 := cal Tryz.func15
def r23_0 : L := [o 2 (.box 32 (t 0)),
  o 3 (.box 32 (t 1)),
  o 4 (a (b false))]
def r23_1 : L := [o 6 (fa 32 (t 2) 0),
  o 7 (l 3 (t 6)),
  o 8 (fa 32 (t 3) 0),
  o 9 (l 3 (t 8)),
  o 10 (.binOp .neq 3 (t 7) (t 9) 3),
  o 11 (m (t 10)),
  y 12 (fa 32 (t 2) 1) 11 false,
  y 13 (l 29 (t 12)) 11 false,
  y 14 (fa 32 (t 3) 1) 11 false,
  y 15 (l 29 (t 14)) 11 false,
  y 16 (.call ⟨.value (f 75), #[(t 13), (t 15)], #[29, 29]⟩) 11 false,
  y 17 (.unOp .not 4 (t 16)) 11 false,
  o 18 (.pick (t 11) (b true) (t 17)),
  o 19 (m (t 18)),
  y 20 (fa 32 (t 2) 2) 19 false,
  y 21 (l 9 (t 20)) 19 false,
  y 22 (fa 32 (t 3) 2) 19 false,
  y 23 (l 9 (t 22)) 19 false,
  y 24 (.binOp .neq 9 (t 21) (t 23) 9) 19 false,
  o 25 (.pick (t 19) (b true) (t 24)),
  o 26 (m (t 25)),
  y 27 (fa 32 (t 2) 3) 26 false,
  y 28 (l 9 (t 27)) 26 false,
  y 29 (fa 32 (t 3) 3) 26 false,
  y 30 (l 9 (t 29)) 26 false,
  y 31 (.binOp .neq 9 (t 28) (t 30) 9) 26 false,
  o 32 (.pick (t 26) (b true) (t 31)),
  o 33 (m (t 32)),
  y 34 (fa 32 (t 2) 4) 33 false,
  y 35 (l 3 (t 34)) 33 false,
  y 36 (fa 32 (t 3) 4) 33 false,
  y 37 (l 3 (t 36)) 33 false,
  y 38 (.binOp .neq 3 (t 35) (t 37) 3) 33 false,
  o 39 (.pick (t 33) (b true) (t 38)),
  o 40 (m (t 39)),
  y 41 (fa 32 (t 2) 5) 40 false,
  y 42 (l 3 (t 41)) 40 false,
  y 43 (fa 32 (t 3) 5) 40 false,
  y 44 (l 3 (t 43)) 40 false,
  y 45 (.binOp .neq 3 (t 42) (t 44) 3) 40 false,
  o 46 (.pick (t 40) (b true) (t 45)),
  o 47 (m (t 46)),
  y 48 (fa 32 (t 2) 6) 47 false,
  y 49 (l 30 (t 48)) 47 false,
  y 50 (ln (t 49) 30) 47 false,
  y 51 (fa 32 (t 3) 6) 47 false,
  y 52 (l 30 (t 51)) 47 false,
  y 53 (ln (t 52) 30) 47 false,
  y 54 (.binOp .neq 3 (t 50) (t 53) 3) 47 false,
  o 55 (.pick (t 47) (b true) (t 54))]
def r23_2 : L := [o 4 (a (b false))]
def r23_3 : L := [o 56 (fa 32 (t 2) 6),
  o 57 (l 30 (t 56)),
  o 58 (ln (t 57) 30),
  o 59 (m (k 0))]
def r23_4 : L := [o 60 (.binOp .lss 3 (t 59) (t 58) 3)]
def r23_5 : L := [o 61 (m (t 59)),
  o 5 (a (t 61))]
def r23_6 : L := [o 62 (fa 32 (t 2) 6),
  o 63 (l 30 (t 62)),
  o 64 (m (t 5)),
  o 65 (.indexAddr 30 (t 63) (t 64)),
  o 66 (l 32 (t 65)),
  o 67 (fa 32 (t 3) 6),
  o 68 (l 30 (t 67)),
  o 69 (m (t 5)),
  o 70 (.indexAddr 30 (t 68) (t 69)),
  o 71 (l 32 (t 70)),
  o 72 (.call ⟨.value (f 23), #[(t 66), (t 71)], #[32, 32]⟩),
  o 73 (.unOp .not 4 (t 72))]
def r23_7 : L := [o 4 (a (b false))]
def r23_8 : L := [o 74 (.binOp .add 3 (t 59) (k 1) 3),
  o 59 (m (t 74))]
def r23_9 : L := [o 4 (a (b true))]
def ir23 : ACode := .seq (.ops r23_0) (.seq (.seq (.ops r23_1) (.cond (t 55) (.seq (.ops r23_2) (.ret)) (.skip))) (.seq (.seq (.ops r23_3) (.block 0 (.loop (.seq (.ops r23_4) (.seq (.cond (t 60) (.skip) (.exit 0)) (.seq (.block 1 (.seq (.ops r23_5) (.seq (.ops r23_6) (.cond (t 73) (.seq (.ops r23_7) (.ret)) (.skip))))) (.ops r23_8))))))) (.seq (.ops r23_9) (.ret))))
theorem en23 : En ir23 75 [.tmp 4] 23 := acalls_enter_b mixed Tryz.func23 Tryz.ntmps23 (by kernel_rfl) (by kernel_rfl)
theorem ca23 : Ca 23 := cal Tryz.func23
def r24_0 : L := [o 4 (a (b false))]
def r24_1 : L := [o 6 (m (t 0)),
  o 7 (ln (t 6) 23),
  o 8 (m (t 1)),
  o 9 (ln (t 8) 23),
  o 10 (.binOp .neq 3 (t 7) (t 9) 3)]
def r24_2 : L := [o 4 (a (b false))]
def r24_3 : L := [o 11 (m (t 0)),
  o 12 (ln (t 11) 23),
  o 13 (m (k 0))]
def r24_4 : L := [o 14 (.binOp .lss 3 (t 13) (t 12) 3)]
def r24_5 : L := [o 15 (m (t 13)),
  o 5 (a (t 15))]
def r24_6 : L := [o 16 (m (t 0)),
  o 17 (m (t 5)),
  o 18 (.indexAddr 23 (t 16) (t 17)),
  o 19 (l 9 (t 18)),
  o 20 (m (t 1)),
  o 21 (m (t 5)),
  o 22 (.indexAddr 23 (t 20) (t 21)),
  o 23 (l 9 (t 22)),
  o 24 (.binOp .neq 9 (t 19) (t 23) 9)]
def r24_7 : L := [o 4 (a (b false))]
def r24_8 : L := [o 25 (.binOp .add 3 (t 13) (k 1) 3),
  o 13 (m (t 25))]
def r24_9 : L := [o 4 (a (b true))]
def ir24 : ACode := .seq (.ops r24_0) (.seq (.seq (.ops r24_1) (.cond (t 10) (.seq (.ops r24_2) (.ret)) (.skip))) (.seq (.seq (.ops r24_3) (.block 0 (.loop (.seq (.ops r24_4) (.seq (.cond (t 14) (.skip) (.exit 0)) (.seq (.block 1 (.seq (.ops r24_5) (.seq (.ops r24_6) (.cond (t 24) (.seq (.ops r24_7) (.ret)) (.skip))))) (.ops r24_8))))))) (.seq (.ops r24_9) (.ret))))
theorem en24 : En ir24 26 [.tmp 4] 24 := acalls_enter_b mixed Tryz.func24 Tryz.ntmps24 (by kernel_rfl) (by kernel_rfl)
theorem ca24 : Ca 24 := cal Tryz.func24
def r48_0 : L := [o 2 (.box 35 (t 0)),
  o 3 (.box 35 (t 1)),
  o 4 (a (b false))]
def r48_1 : L := [o 6 (fa 35 (t 2) 0),
  o 7 (l 3 (t 6)),
  o 8 (fa 35 (t 3) 0),
  o 9 (l 3 (t 8)),
  o 10 (.binOp .neq 3 (t 7) (t 9) 3),
  o 11 (m (t 10)),
  y 12 (fa 35 (t 2) 1) 11 false,
  y 13 (l 9 (t 12)) 11 false,
  y 14 (fa 35 (t 3) 1) 11 false,
  y 15 (l 9 (t 14)) 11 false,
  y 16 (.binOp .neq 9 (t 13) (t 15) 9) 11 false,
  o 17 (.pick (t 11) (b true) (t 16)),
  o 18 (m (t 17)),
  y 19 (fa 35 (t 2) 2) 18 false,
  y 20 (l 9 (t 19)) 18 false,
  y 21 (fa 35 (t 3) 2) 18 false,
  y 22 (l 9 (t 21)) 18 false,
  y 23 (.binOp .neq 9 (t 20) (t 22) 9) 18 false,
  o 24 (.pick (t 18) (b true) (t 23)),
  o 25 (m (t 24)),
  y 26 (fa 35 (t 2) 3) 25 false,
  y 27 (l 9 (t 26)) 25 false,
  y 28 (fa 35 (t 3) 3) 25 false,
  y 29 (l 9 (t 28)) 25 false,
  y 30 (.binOp .neq 9 (t 27) (t 29) 9) 25 false,
  o 31 (.pick (t 25) (b true) (t 30)),
  o 32 (m (t 31)),
  y 33 (fa 35 (t 2) 4) 32 false,
  y 34 (l 9 (t 33)) 32 false,
  y 35 (fa 35 (t 3) 4) 32 false,
  y 36 (l 9 (t 35)) 32 false,
  y 37 (.binOp .neq 9 (t 34) (t 36) 9) 32 false,
  o 38 (.pick (t 32) (b true) (t 37)),
  o 39 (m (t 38)),
  y 40 (fa 35 (t 2) 5) 39 false,
  y 41 (l 9 (t 40)) 39 false,
  y 42 (fa 35 (t 3) 5) 39 false,
  y 43 (l 9 (t 42)) 39 false,
  y 44 (.binOp .neq 9 (t 41) (t 43) 9) 39 false,
  o 45 (.pick (t 39) (b true) (t 44)),
  o 46 (m (t 45)),
  y 47 (fa 35 (t 2) 6) 46 false,
  y 48 (l 4 (t 47)) 46 false,
  y 49 (fa 35 (t 3) 6) 46 false,
  y 50 (l 4 (t 49)) 46 false,
  y 51 (.binOp .neq 4 (t 48) (t 50) 4) 46 false,
  o 52 (.pick (t 46) (b true) (t 51)),
  o 53 (m (t 52)),
  y 54 (fa 35 (t 2) 7) 53 false,
  y 55 (l 3 (t 54)) 53 false,
  y 56 (fa 35 (t 3) 7) 53 false,
  y 57 (l 3 (t 56)) 53 false,
  y 58 (.binOp .neq 3 (t 55) (t 57) 3) 53 false,
  o 59 (.pick (t 53) (b true) (t 58)),
  o 60 (m (t 59)),
  y 61 (fa 35 (t 2) 8) 60 false,
  y 62 (l 3 (t 61)) 60 false,
  y 63 (fa 35 (t 3) 8) 60 false,
  y 64 (l 3 (t 63)) 60 false,
  y 65 (.binOp .neq 3 (t 62) (t 64) 3) 60 false,
  o 66 (.pick (t 60) (b true) (t 65)),
  o 67 (m (t 66)),
  y 68 (fa 35 (t 2) 9) 67 false,
  y 69 (l 23 (t 68)) 67 false,
  y 70 (fa 35 (t 3) 9) 67 false,
  y 71 (l 23 (t 70)) 67 false,
  y 72 (.call ⟨.value (f 24), #[(t 69), (t 71)], #[23, 23]⟩) 67 false,
  y 73 (.unOp .not 4 (t 72)) 67 false,
  o 74 (.pick (t 67) (b true) (t 73)),
  o 75 (m (t 74)),
  y 76 (fa 35 (t 2) 10) 75 false,
  y 77 (l 33 (t 76)) 75 false,
  y 78 (ln (t 77) 33) 75 false,
  y 79 (fa 35 (t 3) 10) 75 false,
  y 80 (l 33 (t 79)) 75 false,
  y 81 (ln (t 80) 33) 75 false,
  y 82 (.binOp .neq 3 (t 78) (t 81) 3) 75 false,
  o 83 (.pick (t 75) (b true) (t 82))]
def r48_2 : L := [o 4 (a (b false))]
def r48_3 : L := [o 84 (fa 35 (t 2) 10),
  o 85 (l 33 (t 84)),
  o 86 (ln (t 85) 33),
  o 87 (m (k 0))]
def r48_4 : L := [o 88 (.binOp .lss 3 (t 87) (t 86) 3)]
def r48_5 : L := [o 89 (m (t 87)),
  o 5 (a (t 89))]
def r48_6 : L := [o 90 (fa 35 (t 2) 10),
  o 91 (l 33 (t 90)),
  o 92 (m (t 5)),
  o 93 (.indexAddr 33 (t 91) (t 92)),
  o 94 (l 35 (t 93)),
  o 95 (fa 35 (t 3) 10),
  o 96 (l 33 (t 95)),
  o 97 (m (t 5)),
  o 98 (.indexAddr 33 (t 96) (t 97)),
  o 99 (l 35 (t 98)),
  o 100 (.call ⟨.value (f 48), #[(t 94), (t 99)], #[35, 35]⟩),
  o 101 (.unOp .not 4 (t 100))]
def r48_7 : L := [o 4 (a (b false))]
def r48_8 : L := [o 102 (.binOp .add 3 (t 87) (k 1) 3),
  o 87 (m (t 102))]
def r48_9 : L := [o 4 (a (b true))]
def ir48 : ACode := .seq (.ops r48_0) (.seq (.seq (.ops r48_1) (.cond (t 83) (.seq (.ops r48_2) (.ret)) (.skip))) (.seq (.seq (.ops r48_3) (.block 0 (.loop (.seq (.ops r48_4) (.seq (.cond (t 88) (.skip) (.exit 0)) (.seq (.block 1 (.seq (.ops r48_5) (.seq (.ops r48_6) (.cond (t 101) (.seq (.ops r48_7) (.ret)) (.skip))))) (.ops r48_8))))))) (.seq (.ops r48_9) (.ret))))
theorem en48 : En ir48 103 [.tmp 4] 48 := acalls_enter_b mixed Tryz.func48 Tryz.ntmps48 (by kernel_rfl) (by kernel_rfl)
theorem ca48 : Ca 48 := cal Tryz.func48
def r75_0 : L := [o 2 (.box 29 (t 0)),
  o 3 (.box 29 (t 1)),
  o 4 (a (b false))]
def r75_1 : L := [o 6 (fa 29 (t 2) 0),
  o 7 (l 3 (t 6)),
  o 8 (fa 29 (t 3) 0),
  o 9 (l 3 (t 8)),
  o 10 (.binOp .neq 3 (t 7) (t 9) 3),
  o 11 (m (t 10)),
  y 12 (fa 29 (t 2) 1) 11 false,
  y 13 (l 9 (t 12)) 11 false,
  y 14 (fa 29 (t 3) 1) 11 false,
  y 15 (l 9 (t 14)) 11 false,
  y 16 (.binOp .neq 9 (t 13) (t 15) 9) 11 false,
  o 17 (.pick (t 11) (b true) (t 16)),
  o 18 (m (t 17)),
  y 19 (fa 29 (t 2) 2) 18 false,
  y 20 (l 9 (t 19)) 18 false,
  y 21 (fa 29 (t 3) 2) 18 false,
  y 22 (l 9 (t 21)) 18 false,
  y 23 (.binOp .neq 9 (t 20) (t 22) 9) 18 false,
  o 24 (.pick (t 18) (b true) (t 23)),
  o 25 (m (t 24)),
  y 26 (fa 29 (t 2) 3) 25 false,
  y 27 (l 9 (t 26)) 25 false,
  y 28 (fa 29 (t 3) 3) 25 false,
  y 29 (l 9 (t 28)) 25 false,
  y 30 (.binOp .neq 9 (t 27) (t 29) 9) 25 false,
  o 31 (.pick (t 25) (b true) (t 30)),
  o 32 (m (t 31)),
  y 33 (fa 29 (t 2) 4) 32 false,
  y 34 (l 9 (t 33)) 32 false,
  y 35 (fa 29 (t 3) 4) 32 false,
  y 36 (l 9 (t 35)) 32 false,
  y 37 (.binOp .neq 9 (t 34) (t 36) 9) 32 false,
  o 38 (.pick (t 32) (b true) (t 37)),
  o 39 (m (t 38)),
  y 40 (fa 29 (t 2) 5) 39 false,
  y 41 (l 4 (t 40)) 39 false,
  y 42 (fa 29 (t 3) 5) 39 false,
  y 43 (l 4 (t 42)) 39 false,
  y 44 (.binOp .neq 4 (t 41) (t 43) 4) 39 false,
  o 45 (.pick (t 39) (b true) (t 44)),
  o 46 (m (t 45)),
  y 47 (fa 29 (t 2) 6) 46 false,
  y 48 (l 27 (t 47)) 46 false,
  y 49 (ln (t 48) 27) 46 false,
  y 50 (fa 29 (t 3) 6) 46 false,
  y 51 (l 27 (t 50)) 46 false,
  y 52 (ln (t 51) 27) 46 false,
  y 53 (.binOp .neq 3 (t 49) (t 52) 3) 46 false,
  o 54 (.pick (t 46) (b true) (t 53))]
def r75_2 : L := [o 4 (a (b false))]
def r75_3 : L := [o 55 (fa 29 (t 2) 6),
  o 56 (l 27 (t 55)),
  o 57 (ln (t 56) 27),
  o 58 (m (k 0))]
def r75_4 : L := [o 59 (.binOp .lss 3 (t 58) (t 57) 3)]
def r75_5 : L := [o 60 (m (t 58)),
  o 5 (a (t 60))]
def r75_6 : L := [o 61 (fa 29 (t 2) 6),
  o 62 (l 27 (t 61)),
  o 63 (m (t 5)),
  o 64 (.indexAddr 27 (t 62) (t 63)),
  o 65 (l 29 (t 64)),
  o 66 (fa 29 (t 3) 6),
  o 67 (l 27 (t 66)),
  o 68 (m (t 5)),
  o 69 (.indexAddr 27 (t 67) (t 68)),
  o 70 (l 29 (t 69)),
  o 71 (.call ⟨.value (f 75), #[(t 65), (t 70)], #[29, 29]⟩),
  o 72 (.unOp .not 4 (t 71))]
def r75_7 : L := [o 4 (a (b false))]
def r75_8 : L := [o 73 (.binOp .add 3 (t 58) (k 1) 3),
  o 58 (m (t 73))]
def r75_9 : L := [o 4 (a (b true))]
def ir75 : ACode := .seq (.ops r75_0) (.seq (.seq (.ops r75_1) (.cond (t 54) (.seq (.ops r75_2) (.ret)) (.skip))) (.seq (.seq (.ops r75_3) (.block 0 (.loop (.seq (.ops r75_4) (.seq (.cond (t 59) (.skip) (.exit 0)) (.seq (.block 1 (.seq (.ops r75_5) (.seq (.ops r75_6) (.cond (t 72) (.seq (.ops r75_7) (.ret)) (.skip))))) (.ops r75_8))))))) (.seq (.ops r75_9) (.ret))))
theorem en75 : En ir75 74 [.tmp 4] 75 := acalls_enter_b mixed Tryz.func75 Tryz.ntmps75 (by kernel_rfl) (by kernel_rfl)
theorem ca75 : Ca 75 := cal Tryz.func75
end Go.Proofs

/- What queries look like as abstract values, and how a reader stands in memory. No conditions. -/
namespace Go.Abs
open Go.Q

mutual
def encC : Cond → List AVal
  | .mk op name arg value label fold kids => [.int .i64 op, .str name, .str arg, .str value, .str label, .bool fold, .sl 7 (encCs kids) .frz]
def encCs : List Cond → List (List AVal)
  | [] => []
  | c :: r => encC c :: encCs r
end
mutual
def encP : Pat → List AVal
  | .mk op cond label region lo hi kids => .int .i64 op :: (encC cond ++ [.str label, .str region, .int .i64 lo, .int .i64 hi, .sl 13 (encPs kids) .frz])
def encPs : List Pat → List (List AVal)
  | [] => []
  | c :: r => encP c :: encPs r
end
def encSs (l : List Str) : List (List AVal) := l.map fun s => [.str s]
mutual
def encG : Con → List AVal
  | .mk op a b name arg value fold lo hi args kids => [.int .i64 op, .str a, .str b, .str name, .str arg, .str value, .bool fold, .int .i64 lo, .int .i64 hi, .sl 1 (encSs args) .frz, .sl 11 (encGs kids) .frz]
def encGs : List Con → List (List AVal)
  | [] => []
  | c :: r => encG c :: encGs r
end
def encF : Flt → List AVal
  | ⟨op, neg, region⟩ => [.int .i64 op, .bool neg, .str region]
def encFs (l : List Flt) : List (List AVal) := l.map encF
def encQ : Qry → List AVal
  | ⟨p, g, fs, k⟩ => encP p ++ (encG g ++ [.sl 3 (encFs fs) .frz, .int .i64 k])

theorem encCs_map : ∀ l, encCs l = l.map encC
  | [] => rfl
  | c :: r => by rw [encCs, encCs_map r]; rfl
theorem encPs_map : ∀ l, encPs l = l.map encP
  | [] => rfl
  | c :: r => by rw [encPs, encPs_map r]; rfl
theorem encGs_map : ∀ l, encGs l = l.map encG
  | [] => rfl
  | c :: r => by rw [encGs, encGs_map r]; rfl
theorem encCs_length (l : List Cond) : (encCs l).length = l.length := by rw [encCs_map, List.length_map]
theorem encPs_length (l : List Pat) : (encPs l).length = l.length := by rw [encPs_map, List.length_map]
theorem encGs_length (l : List Con) : (encGs l).length = l.length := by rw [encGs_map, List.length_map]
theorem encCs_append (l m : List Cond) : encCs (l ++ m) = encCs l ++ encCs m := by simp [encCs_map]
theorem encPs_append (l m : List Pat) : encPs (l ++ m) = encPs l ++ encPs m := by simp [encPs_map]
theorem encGs_append (l m : List Con) : encGs (l ++ m) = encGs l ++ encGs m := by simp [encGs_map]

/-- A reader in memory. -/
def rdr (s : Str) (st : S) : AObj := .box 77 [.str s, .int .i64 st.2, .int .i64 st.1.kind, .str st.1.text, .int .i64 st.1.pos]

/-- The error that ends the reading. -/
def fault (pos : Nat) (e : Int) : AVal := .iface 71 (.agg [.int .i64 pos, .int .i64 e])

/-- What a reading function does with its reader at g. -/
def RP {α : Type} (s : Str) (g : Nat) (h : AHeap) (enc : α → AVal) (r : R α) (out : AOut) (h' : AHeap) : Prop := match r with
  | .ok a st => V s st ∧ out = .ret (enc a) ∧ h' = h.set g (rdr s st)
  | .bad p e => ∃ st, out = .panic (fault p e) ∧ h' = h.set g (rdr s st)

section
variable {P : Program} {G : Nat → Option Obj} {Q : AExit → Env → AHeap → Prop} {l : List Frame} {rs : List (AOp × List AOp)} {e : Env} {h : AHeap} {dd : Option Nat} {chk : List AOp} {s : Str} {g : Nat}

/-- A call of a reading function. -/
theorem call_r {α : Type} {enc : α → AVal} {r1 : R α} {f : FuncId} {args : List AVal} (hc : ACalls P G f args h (RP s g h enc r1)) (hok : ∀ a st, r1 = .ok a st → V s st → Back P G (Run P G Q l) dd chk rs e (.ret (enc a)) (h.set g (rdr s st)))
    (hbad : ∀ p x st, r1 = .bad p x → Q (.panic (fault p x)) [] (h.set g (rdr s st))) : ACalls P G f args h (Back P G (Run P G Q l) dd chk rs e) := by
  refine hc.mono fun out h' hp => ?_
  cases r1 with
  | ok a st => obtain ⟨h1, rfl, rfl⟩ := hp; exact hok a st rfl h1
  | bad p x => obtain ⟨st, rfl, rfl⟩ := hp; exact run_panic (hbad p x st rfl)

/-- The same, of a function with fuel. -/
theorem call_o {α : Type} {enc : α → AVal} {x : Option (R α)} {f : FuncId} {args : List AVal} (hx : x ≠ none) (hc : ∀ r1, x = some r1 → ACalls P G f args h (RP s g h enc r1)) (hok : ∀ a st, x = some (.ok a st) → V s st → Back P G (Run P G Q l) dd chk rs e (.ret (enc a)) (h.set g (rdr s st)))
    (hbad : ∀ p y st, x = some (.bad p y) → Q (.panic (fault p y)) [] (h.set g (rdr s st))) : ACalls P G f args h (Back P G (Run P G Q l) dd chk rs e) := by
  cases x with
  | none => exact absurd rfl hx
  | some r1 => exact call_r (hc r1 rfl) (fun a st h1 => hok a st (by rw [h1])) (fun p y st h1 => hbad p y st (by rw [h1]))

theorem bindO_ne {α β : Type} {x : Option (R α)} {k : α → S → Option (R β)} {r : R β} (h : bindO x k = some r) : x ≠ none := by
  intro hx; subst hx; cases h

/-- The end of a reading function. -/
theorem fin_ok {α : Type} {enc : α → AVal} {a : α} {st : S} {h0 : AHeap} {v : AVal} (ha : At h0 g (rdr s st) h) (hl : V s st) (hw : Weak v (enc a)) : Fin (RP s g h0 enc (.ok a st)) (.ret v) h :=
  fin_at ha (.ret _ _ hw) ⟨hl, rfl, rfl⟩
theorem fin_bad {α : Type} {enc : α → AVal} {p : Nat} {x : Int} {st : S} {h0 : AHeap} (ha : At h0 g (rdr s st) h) : Fin (RP s g h0 enc (.bad p x)) (.panic (fault p x)) h :=
  fin_at ha (.panic _ _ (.refl _)) ⟨st, rfl, rfl⟩
end

end Go.Abs

/- How the reference's reader stands in memory, and the rule of its calls. No conditions. -/
namespace Go.Abs
open Go.Q

def encT (t : Tok) : List AVal := [.int .u8 t.kind, .str t.text, .int .i64 t.pos]
def encTs (l : List Tok) : List (List AVal) := l.map encT

/-- The reference's reader in memory; d: the parentheses around it. -/
def par {L : List Tok} (d : Int) (σ : PS L) : AObj := .box 83 [.sl 3 (encTs L) .frz, .int .i64 σ.k, .int .i64 d, .int .i64 σ.e, .int .i64 σ.f]

/-- A list of tokens as the reference makes them. -/
structure LOk (L : List Tok) : Prop where
  len : L.length ≤ 1000
  text : ∀ (i : Nat) (t : Tok), L[i]? = some t → t.text.length ≤ 1000 ∧ t.pos ≤ 1000
  digits : ∀ (i : Nat) (t : Tok), L[i]? = some t → t.kind = 100 → ∀ c, c ∈ t.text → digit c = true
  last : ∀ (i : Nat) (t : Tok), L[i]? = some t → (t.kind = 110 ∨ t.kind = 100 ∨ t.kind = 115 ∨ t.kind = 111) → i + 1 < L.length

/-- What a function of the reference's reader does with its reader at g. -/
def PP {α : Type} {L : List Tok} (g : Nat) (d : Int) (h : AHeap) (enc : α → AVal) (x : α × PS L) (out : AOut) (h' : AHeap) : Prop := out = .ret (enc x.1) ∧ h' = h.set g (par d x.2)

section
variable {P : Program} {G : Nat → Option Obj} {Q : AExit → Env → AHeap → Prop} {l : List Frame} {rs : List (AOp × List AOp)} {e : Env} {h : AHeap} {dd : Option Nat} {chk : List AOp} {L : List Tok} {g : Nat} {d : Int}

theorem call_q {α : Type} {enc : α → AVal} {x : α × PS L} {f : FuncId} {args : List AVal} (hc : ACalls P G f args h (PP g d h enc x)) (hok : ∀ a σ, x = (a, σ) → Back P G (Run P G Q l) dd chk rs e (.ret (enc a)) (h.set g (par d σ))) :
    ACalls P G f args h (Back P G (Run P G Q l) dd chk rs e) := by
  refine hc.mono fun out h' hp => ?_
  obtain ⟨rfl, rfl⟩ := hp
  exact hok x.1 x.2 rfl

/-- The same, of a function with fuel. -/
theorem call_p {α : Type} {enc : α → AVal} {x : Option (α × PS L)} {f : FuncId} {args : List AVal} (hx : x ≠ none) (hc : ∀ r, x = some r → ACalls P G f args h (PP g d h enc r)) (hok : ∀ a σ, x = some (a, σ) → Back P G (Run P G Q l) dd chk rs e (.ret (enc a)) (h.set g (par d σ))) :
    ACalls P G f args h (Back P G (Run P G Q l) dd chk rs e) := by
  cases x with
  | none => exact absurd rfl hx
  | some r => exact call_q (hc r rfl) (fun a σ hr => hok a σ (by rw [hr]))

theorem pbO_ne {α β : Type} {x : Option (α × PS L)} {k : α → PS L → Option β} {r : β} (hr : pbO x k = some r) : x ≠ none := by
  intro hx; subst hx; cases hr

theorem fin_q {α : Type} {enc : α → AVal} {a : α} {σ : PS L} {h0 : AHeap} {v : AVal} (ha : At h0 g (par d σ) h) (hw : Weak v (enc a)) : Fin (PP g d h0 enc (a, σ)) (.ret v) h :=
  fin_at ha (.ret _ _ hw) ⟨rfl, rfl⟩

theorem now_get (hL : LOk L) (σ : PS L) : L[σ.k]? = some (now σ) := List.getElem?_eq_getElem σ.hk
theorem adv_k {σ : PS L} (hk : σ.k + 1 < L.length) : adv σ = ⟨σ.k + 1, hk, σ.e, σ.f⟩ := by unfold adv; rw [dif_pos hk]
theorem encTs_length (l : List Tok) : (encTs l).length = l.length := List.length_map ..
theorem encTs_get {l : List Tok} {i : Nat} {t : Tok} (h : l[i]? = some t) : (encTs l)[i]? = some (encT t) := by unfold encTs; rw [List.getElem?_map, h]; rfl
end
end Go.Abs

/- The codes of some functions, tied to the loaded program. No conditions. -/
namespace Go.Proofs
open Go.Abs Go.Abs.I
def r95_0 : L := [o 4 (a (b false))]
def r95_1 : L := [o 5 (m (t 0)),
  o 6 (.nilCheck (t 5)),
  o 7 (fa 77 (t 6) 2),
  o 8 (fa 75 (t 7) 0),
  o 9 (l 3 (t 8)),
  o 10 (.binOp .eql 3 (t 9) (k 5) 3),
  o 11 (m (t 10)),
  y 12 (m (t 0)) 11 true,
  y 13 (.nilCheck (t 12)) 11 true,
  y 14 (fa 77 (t 13) 2) 11 true,
  y 15 (fa 75 (t 14) 1) 11 true,
  y 16 (l 9 (t 15)) 11 true,
  y 17 (m (t 1)) 11 true,
  y 18 (.binOp .eql 9 (t 16) (t 17) 9) 11 true,
  o 19 (.pick (t 11) (t 18) (b false)),
  o 4 (a (t 19))]
def ir95 : ACode := .seq (.ops r95_0) (.seq (.ops r95_1) (.ret))
theorem en95 : En ir95 20 [.tmp 4] 95 := acalls_enter_b mixed Tryz.func95 Tryz.ntmps95 (by kernel_rfl) (by kernel_rfl)
theorem ca95 : Ca 95 := cal Tryz.func95
def r96_0 : L := [o 4 (a (b false))]
def r96_1 : L := [o 5 (m (t 0)),
  o 6 (.nilCheck (t 5)),
  o 7 (fa 77 (t 6) 2),
  o 8 (fa 75 (t 7) 0),
  o 9 (l 3 (t 8)),
  o 10 (.binOp .eql 3 (t 9) (k 2) 3),
  o 11 (m (t 10)),
  y 12 (m (t 1)) 11 true,
  y 13 (m (t 0)) 11 true,
  y 14 (.nilCheck (t 13)) 11 true,
  y 15 (fa 77 (t 14) 2) 11 true,
  y 16 (fa 75 (t 15) 1) 11 true,
  y 17 (l 9 (t 16)) 11 true,
  y 18 (.call ⟨.value (f 144), #[(t 12), (t 17)], #[23, 9]⟩) 11 true,
  o 19 (.pick (t 11) (t 18) (b false)),
  o 4 (a (t 19))]
def ir96 : ACode := .seq (.ops r96_0) (.seq (.ops r96_1) (.ret))
theorem en96 : En ir96 20 [.tmp 4] 96 := acalls_enter_b mixed Tryz.func96 Tryz.ntmps96 (by kernel_rfl) (by kernel_rfl)
theorem ca96 : Ca 96 := cal Tryz.func96
def r144_0 : L := [o 4 (a (b false))]
def r144_1 : L := [o 5 (m (t 0)),
  o 6 (m (t 1)),
  o 7 (.call ⟨.value (f 97), #[(t 5), (t 6)], #[23, 9]⟩),
  o 8 (.binOp .geq 3 (t 7) (k 0) 3),
  o 4 (a (t 8))]
def ir144 : ACode := .seq (.ops r144_0) (.seq (.ops r144_1) (.ret))
theorem en144 : En ir144 9 [.tmp 4] 144 := acalls_enter_b mixed Tryz.func144 Tryz.ntmps144 (by kernel_rfl) (by kernel_rfl)
theorem ca144 : Ca 144 := cal Tryz.func144
def r97_0 : L := [o 4 (a (k 0))]
def r97_1 : L := [o 6 (m (t 0)),
  o 7 (ln (t 6) 23),
  o 8 (m (k 0))]
def r97_2 : L := [o 9 (.binOp .lss 3 (t 8) (t 7) 3)]
def r97_3 : L := [o 10 (m (t 8)),
  o 5 (a (t 10))]
def r97_4 : L := [o 11 (m (t 1)),
  o 12 (m (t 0)),
  o 13 (m (t 5)),
  o 14 (.indexAddr 23 (t 12) (t 13)),
  o 15 (l 9 (t 14)),
  o 16 (.binOp .eql 9 (t 11) (t 15) 9)]
def r97_5 : L := [o 17 (m (t 5)),
  o 4 (a (t 17))]
def r97_6 : L := [o 18 (.binOp .add 3 (t 8) (k 1) 3),
  o 8 (m (t 18))]
def r97_7 : L := [o 4 (a (k (-1)))]
def ir97 : ACode := .seq (.ops r97_0) (.seq (.seq (.ops r97_1) (.block 0 (.loop (.seq (.ops r97_2) (.seq (.cond (t 9) (.skip) (.exit 0)) (.seq (.block 1 (.seq (.ops r97_3) (.seq (.ops r97_4) (.cond (t 16) (.seq (.ops r97_5) (.ret)) (.skip))))) (.ops r97_6))))))) (.seq (.ops r97_7) (.ret)))
theorem en97 : En ir97 19 [.tmp 4] 97 := acalls_enter_b mixed Tryz.func97 Tryz.ntmps97 (by kernel_rfl) (by kernel_rfl)
theorem ca97 : Ca 97 := cal Tryz.func97
def r93_0 : L := [o 4 (a (b false))]
def r93_1 : L := [o 5 (m (t 0)),
  o 6 (m (t 1)),
  o 7 (.call ⟨.value (f 95), #[(t 5), (t 6)], #[73, 9]⟩),
  o 8 (.unOp .not 4 (t 7))]
def r93_2 : L := [o 4 (a (b false))]
def r93_3 : L := [o 9 (m (t 0)),
  o 10 (.call ⟨.value (f 91), #[(t 9)], #[73]⟩)]
def r93_4 : L := [o 4 (a (b true))]
def ir93 : ACode := .seq (.ops r93_0) (.seq (.seq (.ops r93_1) (.cond (t 8) (.seq (.ops r93_2) (.ret)) (.skip))) (.seq (.ops r93_3) (.seq (.ops r93_4) (.ret))))
theorem en93 : En ir93 11 [.tmp 4] 93 := acalls_enter_b mixed Tryz.func93 Tryz.ntmps93 (by kernel_rfl) (by kernel_rfl)
theorem ca93 : Ca 93 := cal Tryz.func93
def r98_0 : L := [o 2 (m (t 0)),
  o 3 (.nilCheck (t 2)),
  o 4 (fa 77 (t 3) 2),
  o 5 (fa 75 (t 4) 2),
  o 6 (l 3 (t 5)),
  o 7 (.build 71 #[(0, (t 6)), (1, (k 3))]),
  o 8 (.makeInterface 71 (t 7)),
  q (.panic (t 8))]
def ir98 : ACode := .ops r98_0
theorem en98 : En ir98 9 [] 98 := acalls_enter_b mixed Tryz.func98 Tryz.ntmps98 (by kernel_rfl) (by kernel_rfl)
theorem ca98 : Ca 98 := cal Tryz.func98
def r162_0 : L := [o 4 (a (s #[]))]
def r162_1 : L := [o 6 (m (t 0)),
  o 7 (.nilCheck (t 6)),
  o 8 (fa 77 (t 7) 2),
  o 9 (fa 75 (t 8) 0),
  o 10 (l 3 (t 9)),
  o 11 (m (t 1)),
  o 12 (.binOp .neq 3 (t 10) (t 11) 3)]
def r162_2 : L := [o 13 (m (t 0)),
  o 14 (.call ⟨.value (f 98), #[(t 13)], #[73]⟩)]
def r162_3 : L := [o 15 (m (t 0)),
  o 16 (.nilCheck (t 15)),
  o 17 (fa 77 (t 16) 2),
  o 18 (fa 75 (t 17) 1),
  o 19 (l 9 (t 18)),
  o 5 (a (t 19))]
def r162_4 : L := [o 20 (m (t 0)),
  o 21 (.call ⟨.value (f 91), #[(t 20)], #[73]⟩)]
def r162_5 : L := [o 22 (m (t 5)),
  o 4 (a (t 22))]
def ir162 : ACode := .seq (.ops r162_0) (.seq (.seq (.ops r162_1) (.cond (t 12) (.ops r162_2) (.skip))) (.seq (.ops r162_3) (.seq (.ops r162_4) (.seq (.ops r162_5) (.ret)))))
theorem en162 : En ir162 23 [.tmp 4] 162 := acalls_enter_b mixed Tryz.func162 Tryz.ntmps162 (by kernel_rfl) (by kernel_rfl)
theorem ca162 : Ca 162 := cal Tryz.func162
def r99_0 : L := [o 2 (a (s #[]))]
def r99_1 : L := [o 3 (m (t 0)),
  o 4 (.call ⟨.value (f 162), #[(t 3), (k 2)], #[73, 3]⟩),
  o 2 (a (t 4))]
def ir99 : ACode := .seq (.ops r99_0) (.seq (.ops r99_1) (.ret))
theorem en99 : En ir99 5 [.tmp 2] 99 := acalls_enter_b mixed Tryz.func99 Tryz.ntmps99 (by kernel_rfl) (by kernel_rfl)
theorem ca99 : Ca 99 := cal Tryz.func99
def r234_0 : L := [o 6 (m (t 1)),
  o 7 (ln (t 6) 23),
  o 8 (m (k 0))]
def r234_1 : L := [o 9 (.binOp .lss 3 (t 8) (t 7) 3)]
def r234_2 : L := [o 10 (.indexAddr 23 (t 6) (t 8)),
  o 11 (l 9 (t 10)),
  o 5 (a (t 11))]
def r234_3 : L := [o 12 (m (t 0)),
  o 13 (m (t 5)),
  o 14 (.call ⟨.value (f 93), #[(t 12), (t 13)], #[73, 9]⟩),
  o 15 (.unOp .not 4 (t 14))]
def r234_4 : L := [o 16 (m (t 0)),
  o 17 (.call ⟨.value (f 98), #[(t 16)], #[73]⟩)]
def r234_5 : L := [o 18 (.binOp .add 3 (t 8) (k 1) 3),
  o 8 (m (t 18))]
def ir234 : ACode := .seq (.ops r234_0) (.block 0 (.loop (.seq (.ops r234_1) (.seq (.cond (t 9) (.skip) (.exit 0)) (.seq (.block 1 (.seq (.ops r234_2) (.seq (.ops r234_3) (.cond (t 15) (.ops r234_4) (.skip))))) (.ops r234_5))))))
theorem en234 : En ir234 19 [] 234 := acalls_enter_b mixed Tryz.func234 Tryz.ntmps234 (by kernel_rfl) (by kernel_rfl)
theorem ca234 : Ca 234 := cal Tryz.func234
def r282_0 : L := [o 2 (a (s #[]))]
def r282_1 : L := [o 3 (m (t 0)),
  o 4 (.buildSlice 23 1 #[(0, (s #[44]))]),
  o 5 (.call ⟨.value (f 234), #[(t 3), (t 4)], #[73, 23]⟩)]
def r282_2 : L := [o 6 (m (t 0)),
  o 7 (.call ⟨.value (f 99), #[(t 6)], #[73]⟩),
  o 2 (a (t 7))]
def ir282 : ACode := .seq (.ops r282_0) (.seq (.ops r282_1) (.seq (.ops r282_2) (.ret)))
theorem en282 : En ir282 8 [.tmp 2] 282 := acalls_enter_b mixed Tryz.func282 Tryz.ntmps282 (by kernel_rfl) (by kernel_rfl)
theorem ca282 : Ca 282 := cal Tryz.func282
def r233_0 : L := [o 6 (a (k 0))]
def r233_1 : L := [o 10 (m (t 0)),
  o 11 (.call ⟨.value (f 162), #[(t 10), (k 3)], #[73, 3]⟩),
  o 7 (a (t 11))]
def r233_2 : L := [o 12 (m (t 7)),
  o 13 (.call ⟨.value (f 253), #[(t 12), (s #[48])], #[9, 9]⟩),
  o 7 (a (t 13))]
def r233_3 : L := [o 8 (a (k 0))]
def r233_4 : L := [o 9 (a (k 0))]
def r233_5 : L := [o 14 (m (t 9)),
  o 15 (m (t 7)),
  o 16 (ln (t 15) 9),
  o 17 (.binOp .lss 3 (t 14) (t 16) 3),
  o 18 (m (t 17)),
  y 19 (m (t 8)) 18 true,
  y 20 (m (t 1)) 18 true,
  y 21 (.binOp .leq 3 (t 19) (t 20) 3) 18 true,
  o 22 (.pick (t 18) (t 21) (b false))]
def r233_6 : L := [o 25 (m (t 8)),
  o 26 (.binOp .mul 3 (k 10) (t 25) 3),
  o 27 (m (t 7)),
  o 28 (m (t 9)),
  o 29 (.index 9 (t 27) (t 28)),
  o 30 (.binOp .sub 5 (t 29) (.const (.int .u8 48)) 5),
  o 31 (.convert 5 3 (t 30)),
  o 32 (.binOp .add 3 (t 26) (t 31) 3),
  o 8 (a (t 32))]
def r233_7 : L := [o 23 (m (t 9)),
  o 24 (.binOp .add 3 (t 23) (k 1) 3),
  o 9 (a (t 24))]
def r233_8 : L := [o 33 (m (t 8)),
  o 34 (m (t 1)),
  o 35 (.binOp .gtr 3 (t 33) (t 34) 3)]
def r233_9 : L := [o 36 (m (t 2)),
  o 37 (.build 71 #[(0, (t 36)), (1, (k 8))]),
  o 38 (.makeInterface 71 (t 37)),
  q (.panic (t 38))]
def r233_10 : L := [o 39 (m (t 8)),
  o 6 (a (t 39))]
def ir233 : ACode := .seq (.ops r233_0) (.seq (.ops r233_1) (.seq (.ops r233_2) (.seq (.ops r233_3) (.seq (.seq (.ops r233_4) (.block 0 (.loop (.seq (.seq (.ops r233_5) (.cond (t 22) (.skip) (.exit 0))) (.seq (.block 1 (.ops r233_6)) (.ops r233_7)))))) (.seq (.seq (.ops r233_8) (.cond (t 35) (.ops r233_9) (.skip))) (.seq (.ops r233_10) (.ret)))))))
theorem en233 : En ir233 40 [.tmp 6] 233 := acalls_enter_b mixed Tryz.func233 Tryz.ntmps233 (by kernel_rfl) (by kernel_rfl)
theorem ca233 : Ca 233 := cal Tryz.func233
def r281_0 : L := [o 2 (a (k 0))]
def r281_1 : L := [o 3 (m (t 0)),
  o 4 (m (t 0)),
  o 5 (.nilCheck (t 4)),
  o 6 (fa 77 (t 5) 2),
  o 7 (fa 75 (t 6) 2),
  o 8 (l 3 (t 7)),
  o 9 (.call ⟨.value (f 233), #[(t 3), (k 100000), (t 8)], #[73, 3, 3]⟩),
  o 2 (a (t 9))]
def ir281 : ACode := .seq (.ops r281_0) (.seq (.ops r281_1) (.ret))
theorem en281 : En ir281 10 [.tmp 2] 281 := acalls_enter_b mixed Tryz.func281 Tryz.ntmps281 (by kernel_rfl) (by kernel_rfl)
theorem ca281 : Ca 281 := cal Tryz.func281
def r283_0 : L := [o 2 (a (k 0))]
def r283_1 : L := [o 3 (m (t 0)),
  o 4 (.call ⟨.value (f 93), #[(t 3), (s #[45])], #[73, 9]⟩)]
def r283_2 : L := [o 5 (m (t 0)),
  o 6 (.call ⟨.value (f 281), #[(t 5)], #[73]⟩),
  o 7 (.unOp .neg 3 (t 6)),
  o 2 (a (t 7))]
def r283_3 : L := [o 8 (m (t 0)),
  o 9 (.call ⟨.value (f 281), #[(t 8)], #[73]⟩),
  o 2 (a (t 9))]
def ir283 : ACode := .seq (.ops r283_0) (.seq (.seq (.ops r283_1) (.cond (t 4) (.seq (.ops r283_2) (.ret)) (.skip))) (.seq (.ops r283_3) (.ret)))
theorem en283 : En ir283 10 [.tmp 2] 283 := acalls_enter_b mixed Tryz.func283 Tryz.ntmps283 (by kernel_rfl) (by kernel_rfl)
theorem ca283 : Ca 283 := cal Tryz.func283
def r255_0 : L := [o 2 (a (b false))]
def r255_1 : L := [o 3 (m (t 0)),
  o 4 (.call ⟨.value (f 93), #[(t 3), (s #[37, 99])], #[73, 9]⟩),
  o 2 (a (t 4))]
def ir255 : ACode := .seq (.ops r255_0) (.seq (.ops r255_1) (.ret))
theorem en255 : En ir255 5 [.tmp 2] 255 := acalls_enter_b mixed Tryz.func255 Tryz.ntmps255 (by kernel_rfl) (by kernel_rfl)
theorem ca255 : Ca 255 := cal Tryz.func255
def r253_0 : L := [o 4 (a (s #[]))]
def r253_1 : L := [o 7 (m (t 0)),
  o 8 (.binOp .eql 9 (t 7) (s #[]) 9),
  o 9 (m (t 8)),
  y 10 (m (t 1)) 9 false,
  y 11 (.binOp .eql 9 (t 10) (s #[]) 9) 9 false,
  o 12 (.pick (t 9) (b true) (t 11))]
def r253_2 : L := [o 13 (m (t 0)),
  o 4 (a (t 13))]
def r253_3 : L := [o 14 (m (t 1)),
  o 15 (ln (t 14) 9),
  o 16 (.binOp .eql 3 (t 15) (k 1) 3),
  o 17 (m (t 16)),
  y 18 (m (t 1)) 17 true,
  y 19 (.index 9 (t 18) (k 0)) 17 true,
  y 20 (.binOp .lss 5 (t 19) (.const (.int .u8 128)) 5) 17 true,
  o 21 (.pick (t 17) (t 20) (b false))]
def r253_4 : L := [o 22 (m (t 0)),
  o 23 (m (t 1)),
  o 24 (.index 9 (t 23) (k 0)),
  o 25 (.call ⟨.value (f 277), #[(t 22), (t 24)], #[9, 5]⟩),
  o 4 (a (t 25))]
def r253_5 : L := [o 27 (m (t 1)),
  o 28 (.call ⟨.value (f 278), #[(t 27)], #[9]⟩),
  o 26 (m (t 28)),
  o 29 (.extract (t 26) 0),
  o 30 (.extract (t 26) 1),
  o 5 (.alloc 248),
  q (.store 248 (t 5) (t 29)),
  o 6 (a (t 30))]
def r253_6 : L := [o 31 (m (t 6))]
def r253_7 : L := [o 32 (m (t 0)),
  o 33 (.call ⟨.value (f 279), #[(t 32), (t 5)], #[9, 252]⟩),
  o 4 (a (t 33))]
def r253_8 : L := [o 34 (m (t 0)),
  o 35 (m (t 1)),
  o 36 (.call ⟨.value (f 280), #[(t 34), (t 35)], #[9, 9]⟩),
  o 4 (a (t 36))]
def ir253 : ACode := .seq (.ops r253_0) (.seq (.seq (.ops r253_1) (.cond (t 12) (.seq (.ops r253_2) (.ret)) (.skip))) (.seq (.seq (.ops r253_3) (.cond (t 21) (.seq (.ops r253_4) (.ret)) (.skip))) (.seq (.seq (.ops r253_5) (.seq (.ops r253_6) (.cond (t 31) (.seq (.ops r253_7) (.ret)) (.skip)))) (.seq (.ops r253_8) (.ret)))))
theorem en253 : En ir253 37 [.tmp 4] 253 := acalls_enter_b mixed Tryz.func253 Tryz.ntmps253 (by kernel_rfl) (by kernel_rfl)
theorem ca253 : Ca 253 := cal Tryz.func253
def r277_0 : L := [o 4 (a (s #[]))]
def r277_1 : L := [o 5 (m (t 0)),
  o 6 (ln (t 5) 9),
  o 7 (.binOp .gtr 3 (t 6) (k 0) 3),
  o 8 (m (t 7)),
  y 9 (m (t 0)) 8 true,
  y 10 (.index 9 (t 9) (k 0)) 8 true,
  y 11 (m (t 1)) 8 true,
  y 12 (.binOp .eql 5 (t 10) (t 11) 5) 8 true,
  o 13 (.pick (t 8) (t 12) (b false))]
def r277_2 : L := [o 14 (m (t 0)),
  o 15 (.slice 9 (t 14) (some (k 1)) none none),
  o 0 (a (t 15))]
def r277_3 : L := [o 16 (m (t 0)),
  o 4 (a (t 16))]
def ir277 : ACode := .seq (.ops r277_0) (.seq (.block 0 (.loop (.seq (.seq (.ops r277_1) (.cond (t 13) (.skip) (.exit 0))) (.block 1 (.ops r277_2))))) (.seq (.ops r277_3) (.ret)))
theorem en277 : En ir277 17 [.tmp 4] 277 := acalls_enter_b mixed Tryz.func277 Tryz.ntmps277 (by kernel_rfl) (by kernel_rfl)
theorem ca277 : Ca 277 := cal Tryz.func277
end Go.Proofs

/- The codes of some functions, tied to the loaded program. No conditions. -/
namespace Go.Proofs
open Go.Abs Go.Abs.I
def r192_0 : L := [o 6 (a (k 0))]
def r192_1 : L := [o 7 (m (t 1)),
  o 8 (m (t 0)),
  o 9 (ln (t 8) 9),
  o 10 (.binOp .lss 3 (t 7) (t 9) 3),
  o 11 (m (t 10)),
  y 12 (m (t 2)) 11 true,
  y 13 (m (t 0)) 11 true,
  y 14 (m (t 1)) 11 true,
  y 15 (.index 9 (t 13) (t 14)) 11 true,
  y 16 (.call ⟨.value (t 12), #[(t 15)], #[5]⟩) 11 true,
  o 17 (.pick (t 11) (t 16) (b false))]
def r192_2 : L := [o 18 (m (t 1)),
  o 19 (.binOp .add 3 (t 18) (k 1) 3),
  o 1 (a (t 19))]
def r192_3 : L := [o 20 (m (t 1)),
  o 6 (a (t 20))]
def ir192 : ACode := .seq (.ops r192_0) (.seq (.block 0 (.loop (.seq (.seq (.ops r192_1) (.cond (t 17) (.skip) (.exit 0))) (.block 1 (.ops r192_2))))) (.seq (.ops r192_3) (.ret)))
theorem en192 : En ir192 21 [.tmp 6] 192 := acalls_enter_b mixed Tryz.func192 Tryz.ntmps192 (by kernel_rfl) (by kernel_rfl)
theorem ca192 : Ca 192 := cal Tryz.func192
def r193_0 : L := [o 2 (a (b false))]
def r193_1 : L := [o 3 (m (t 0)),
  o 4 (.binOp .eql 5 (t 3) (.const (.int .u8 32)) 5),
  o 5 (m (t 4)),
  y 6 (m (t 0)) 5 false,
  y 7 (.binOp .eql 5 (t 6) (.const (.int .u8 10)) 5) 5 false,
  o 8 (.pick (t 5) (b true) (t 7)),
  o 2 (a (t 8))]
def ir193 : ACode := .seq (.ops r193_0) (.seq (.ops r193_1) (.ret))
theorem en193 : En ir193 9 [.tmp 2] 193 := acalls_enter_b mixed Tryz.func193 Tryz.ntmps193 (by kernel_rfl) (by kernel_rfl)
theorem ca193 : Ca 193 := cal Tryz.func193
def r194_0 : L := [o 2 (a (b false))]
def r194_1 : L := [o 3 (m (t 0)),
  o 4 (.binOp .geq 5 (t 3) (.const (.int .u8 97)) 5),
  o 5 (m (t 4)),
  y 6 (m (t 0)) 5 true,
  y 7 (.binOp .leq 5 (t 6) (.const (.int .u8 122)) 5) 5 true,
  o 8 (.pick (t 5) (t 7) (b false)),
  o 9 (m (t 8)),
  y 10 (m (t 0)) 9 false,
  y 11 (.binOp .geq 5 (t 10) (.const (.int .u8 65)) 5) 9 false,
  y 12 (m (t 11)) 9 false,
  y 13 (m (t 0)) 12 true,
  y 14 (.binOp .leq 5 (t 13) (.const (.int .u8 90)) 5) 12 true,
  y 15 (.pick (t 12) (t 14) (b false)) 9 false,
  o 16 (.pick (t 9) (b true) (t 15)),
  o 17 (m (t 16)),
  y 18 (m (t 0)) 17 false,
  y 19 (.binOp .eql 5 (t 18) (.const (.int .u8 95)) 5) 17 false,
  o 20 (.pick (t 17) (b true) (t 19)),
  o 2 (a (t 20))]
def ir194 : ACode := .seq (.ops r194_0) (.seq (.ops r194_1) (.ret))
theorem en194 : En ir194 21 [.tmp 2] 194 := acalls_enter_b mixed Tryz.func194 Tryz.ntmps194 (by kernel_rfl) (by kernel_rfl)
theorem ca194 : Ca 194 := cal Tryz.func194
def r195_0 : L := [o 2 (a (b false))]
def r195_1 : L := [o 3 (m (t 0)),
  o 4 (.call ⟨.value (f 194), #[(t 3)], #[5]⟩),
  o 5 (m (t 4)),
  y 6 (m (t 0)) 5 false,
  y 7 (.call ⟨.value (f 196), #[(t 6)], #[5]⟩) 5 false,
  o 8 (.pick (t 5) (b true) (t 7)),
  o 9 (m (t 8)),
  y 10 (m (t 0)) 9 false,
  y 11 (.binOp .eql 5 (t 10) (.const (.int .u8 45)) 5) 9 false,
  o 12 (.pick (t 9) (b true) (t 11)),
  o 2 (a (t 12))]
def ir195 : ACode := .seq (.ops r195_0) (.seq (.ops r195_1) (.ret))
theorem en195 : En ir195 13 [.tmp 2] 195 := acalls_enter_b mixed Tryz.func195 Tryz.ntmps195 (by kernel_rfl) (by kernel_rfl)
theorem ca195 : Ca 195 := cal Tryz.func195
def r196_0 : L := [o 2 (a (b false))]
def r196_1 : L := [o 3 (m (t 0)),
  o 4 (.binOp .geq 5 (t 3) (.const (.int .u8 48)) 5),
  o 5 (m (t 4)),
  y 6 (m (t 0)) 5 true,
  y 7 (.binOp .leq 5 (t 6) (.const (.int .u8 57)) 5) 5 true,
  o 8 (.pick (t 5) (t 7) (b false)),
  o 2 (a (t 8))]
def ir196 : ACode := .seq (.ops r196_0) (.seq (.ops r196_1) (.ret))
theorem en196 : En ir196 9 [.tmp 2] 196 := acalls_enter_b mixed Tryz.func196 Tryz.ntmps196 (by kernel_rfl) (by kernel_rfl)
theorem ca196 : Ca 196 := cal Tryz.func196
def r197_0 : L := [o 4 (a (s #[])),
  o 5 (a (k 0))]
def r197_1 : L := [o 6 (a (.const (.slice none 0 0)))]
def r197_2 : L := [o 8 (m (t 1)),
  o 9 (.binOp .add 3 (t 8) (k 1) 3),
  o 7 (a (t 9))]
def r197_3 : L := [o 10 (m (t 7)),
  o 11 (m (t 0)),
  o 12 (ln (t 11) 9),
  o 13 (.binOp .lss 3 (t 10) (t 12) 3)]
def r197_4 : L := [o 16 (m (t 0)),
  o 17 (m (t 7)),
  o 18 (.index 9 (t 16) (t 17)),
  o 19 (.binOp .eql 5 (t 18) (.const (.int .u8 34)) 5)]
def r197_5 : L := [o 20 (m (t 7)),
  o 21 (.binOp .add 3 (t 20) (k 1) 3),
  o 22 (m (t 0)),
  o 23 (ln (t 22) 9),
  o 24 (.binOp .eql 3 (t 21) (t 23) 3),
  o 25 (m (t 24)),
  y 26 (m (t 0)) 25 false,
  y 27 (m (t 7)) 25 false,
  y 28 (.binOp .add 3 (t 27) (k 1) 3) 25 false,
  y 29 (.index 9 (t 26) (t 28)) 25 false,
  y 30 (.binOp .neq 5 (t 29) (.const (.int .u8 34)) 5) 25 false,
  o 31 (.pick (t 25) (b true) (t 30))]
def r197_6 : L := [o 32 (m (t 6)),
  o 33 (.convert 50 9 (t 32)),
  o 34 (m (t 7)),
  o 35 (.binOp .add 3 (t 34) (k 1) 3),
  o 4 (a (t 33)),
  o 5 (a (t 35))]
def r197_7 : L := [o 36 (m (t 7)),
  o 37 (.binOp .add 3 (t 36) (k 1) 3),
  o 7 (a (t 37))]
def r197_8 : L := [o 38 (m (t 6)),
  o 39 (m (t 0)),
  o 40 (m (t 7)),
  o 41 (.index 9 (t 39) (t 40)),
  o 42 (.buildSlice 50 1 #[(0, (t 41))]),
  o 43 (.call ⟨.builtin .append, #[(t 38), (t 42)], #[50, 50]⟩),
  o 6 (a (t 43))]
def r197_9 : L := [o 14 (m (t 7)),
  o 15 (.binOp .add 3 (t 14) (k 1) 3),
  o 7 (a (t 15))]
def r197_10 : L := [o 4 (a (s #[])),
  o 5 (a (k (-1)))]
def ir197 : ACode := .seq (.ops r197_0) (.seq (.ops r197_1) (.seq (.seq (.ops r197_2) (.block 0 (.loop (.seq (.seq (.ops r197_3) (.cond (t 13) (.skip) (.exit 0))) (.seq (.block 1 (.seq (.seq (.ops r197_4) (.cond (t 19) (.seq (.seq (.ops r197_5) (.cond (t 31) (.seq (.ops r197_6) (.ret)) (.skip))) (.ops r197_7)) (.skip))) (.ops r197_8))) (.ops r197_9)))))) (.seq (.ops r197_10) (.ret))))
theorem en197 : En ir197 44 [.tmp 4, .tmp 5] 197 := acalls_enter_b mixed Tryz.func197 Tryz.ntmps197 (by kernel_rfl) (by kernel_rfl)
theorem ca197 : Ca 197 := cal Tryz.func197
def r157_0 : L := [o 4 (.alloc 75),
  o 5 (a (k 0))]
def r157_1 : L := [o 13 (m (t 0)),
  o 14 (m (t 1)),
  o 15 (.call ⟨.value (f 192), #[(t 13), (t 14), (f 193)], #[9, 3, 135]⟩),
  o 1 (a (t 15))]
def r157_2 : L := [o 16 (m (t 1)),
  o 17 (m (t 0)),
  o 18 (ln (t 17) 9),
  o 19 (.binOp .eql 3 (t 16) (t 18) 3)]
def r157_3 : L := [o 20 (m (t 1)),
  o 21 (.build 75 #[(0, (k 0)), (1, (s #[])), (2, (t 20))]),
  o 22 (m (t 1)),
  q (.store 75 (t 4) (t 21)),
  o 5 (a (t 22))]
def r157_4 : L := [o 23 (m (t 0)),
  o 24 (m (t 1)),
  o 25 (.index 9 (t 23) (t 24)),
  o 6 (a (t 25))]
def r157_5 : L := [o 27 (m (t 6)),
  o 28 (.call ⟨.value (f 194), #[(t 27)], #[5]⟩),
  o 26 (a (t 28))]
def r157_6 : L := [o 29 (m (t 0)),
  o 30 (m (t 1)),
  o 31 (.call ⟨.value (f 192), #[(t 29), (t 30), (f 195)], #[9, 3, 135]⟩),
  o 7 (a (t 31))]
def r157_7 : L := [o 32 (m (t 0)),
  o 33 (m (t 1)),
  o 34 (m (t 7)),
  o 35 (.slice 9 (t 32) (some (t 33)) (some (t 34)) none),
  o 36 (m (t 1)),
  o 37 (.build 75 #[(0, (k 2)), (1, (t 35)), (2, (t 36))]),
  o 38 (m (t 7)),
  q (.store 75 (t 4) (t 37)),
  o 5 (a (t 38))]
def r157_8 : L := [o 40 (m (t 6)),
  o 41 (.call ⟨.value (f 196), #[(t 40)], #[5]⟩),
  o 39 (a (t 41))]
def r157_9 : L := [o 42 (m (t 0)),
  o 43 (m (t 1)),
  o 44 (.call ⟨.value (f 192), #[(t 42), (t 43), (f 196)], #[9, 3, 135]⟩),
  o 8 (a (t 44))]
def r157_10 : L := [o 45 (m (t 0)),
  o 46 (m (t 1)),
  o 47 (m (t 8)),
  o 48 (.slice 9 (t 45) (some (t 46)) (some (t 47)) none),
  o 49 (m (t 1)),
  o 50 (.build 75 #[(0, (k 3)), (1, (t 48)), (2, (t 49))]),
  o 51 (m (t 8)),
  q (.store 75 (t 4) (t 50)),
  o 5 (a (t 51))]
def r157_11 : L := [o 53 (m (t 6)),
  o 54 (.binOp .eql 5 (t 53) (.const (.int .u8 34)) 5),
  o 52 (a (t 54))]
def r157_12 : L := [o 56 (m (t 0)),
  o 57 (m (t 1)),
  o 58 (.call ⟨.value (f 197), #[(t 56), (t 57)], #[9, 3]⟩),
  o 55 (m (t 58)),
  o 59 (.extract (t 55) 0),
  o 60 (.extract (t 55) 1),
  o 9 (a (t 59)),
  o 10 (a (t 60))]
def r157_13 : L := [o 61 (m (t 10)),
  o 62 (.binOp .lss 3 (t 61) (k 0) 3)]
def r157_14 : L := [o 63 (m (t 1)),
  o 64 (.build 75 #[(0, (k 1)), (1, (s #[])), (2, (t 63))]),
  o 65 (m (t 0)),
  o 66 (ln (t 65) 9),
  q (.store 75 (t 4) (t 64)),
  o 5 (a (t 66))]
def r157_15 : L := [o 67 (m (t 9)),
  o 68 (m (t 1)),
  o 69 (.build 75 #[(0, (k 4)), (1, (t 67)), (2, (t 68))]),
  o 70 (m (t 10)),
  q (.store 75 (t 4) (t 69)),
  o 5 (a (t 70))]
def r157_16 : L := [o 71 (.buildSlice 23 4 #[(0, (s #[60, 47])), (1, (s #[33, 61])), (2, (s #[58, 58])), (3, (s #[37, 99]))]),
  o 72 (ln (t 71) 23),
  o 73 (m (k 0))]
def r157_17 : L := [o 74 (.binOp .lss 3 (t 73) (t 72) 3)]
def r157_18 : L := [o 75 (.indexAddr 23 (t 71) (t 73)),
  o 76 (l 9 (t 75)),
  o 12 (a (t 76))]
def r157_19 : L := [o 77 (m (t 0)),
  o 78 (m (t 1)),
  o 79 (.slice 9 (t 77) (some (t 78)) none none),
  o 80 (m (t 12)),
  o 81 (.call ⟨.value (f 198), #[(t 79), (t 80)], #[9, 9]⟩)]
def r157_20 : L := [o 82 (m (t 12)),
  o 83 (m (t 1)),
  o 84 (.build 75 #[(0, (k 5)), (1, (t 82)), (2, (t 83))]),
  o 85 (m (t 1)),
  o 86 (.binOp .add 3 (t 85) (k 2) 3),
  q (.store 75 (t 4) (t 84)),
  o 5 (a (t 86))]
def r157_21 : L := [o 87 (.binOp .add 3 (t 73) (k 1) 3),
  o 73 (m (t 87))]
def r157_22 : L := [o 88 (m (t 6)),
  o 89 (.call ⟨.value (f 199), #[(s #[91, 93, 40, 41, 123, 125, 60, 62, 124, 38, 33, 61, 58, 46, 44, 63, 42, 43, 45]), (t 88)], #[9, 5]⟩),
  o 90 (.binOp .geq 3 (t 89) (k 0) 3)]
def r157_23 : L := [o 91 (m (t 0)),
  o 92 (m (t 1)),
  o 93 (m (t 1)),
  o 94 (.binOp .add 3 (t 93) (k 1) 3),
  o 95 (.slice 9 (t 91) (some (t 92)) (some (t 94)) none),
  o 96 (m (t 1)),
  o 97 (.build 75 #[(0, (k 5)), (1, (t 95)), (2, (t 96))]),
  o 98 (m (t 1)),
  o 99 (.binOp .add 3 (t 98) (k 1) 3),
  q (.store 75 (t 4) (t 97)),
  o 5 (a (t 99))]
def r157_24 : L := [o 100 (m (t 1)),
  o 101 (.build 75 #[(0, (k 1)), (1, (s #[])), (2, (t 100))]),
  o 102 (m (t 1)),
  q (.store 75 (t 4) (t 101)),
  o 5 (a (t 102))]
def ir157 : ACode := .seq (.ops r157_0) (.seq (.ops r157_1) (.seq (.seq (.ops r157_2) (.cond (t 19) (.seq (.ops r157_3) (.ret)) (.skip))) (.seq (.ops r157_4) (.seq (.block 0 (.seq (.ops r157_5) (.cond (t 26) (.seq (.ops r157_6) (.seq (.ops r157_7) (.ret))) (.seq (.ops r157_8) (.cond (t 39) (.seq (.ops r157_9) (.seq (.ops r157_10) (.ret))) (.seq (.ops r157_11) (.cond (t 52) (.seq (.ops r157_12) (.seq (.seq (.ops r157_13) (.cond (t 62) (.seq (.ops r157_14) (.ret)) (.skip))) (.seq (.ops r157_15) (.ret)))) (.skip)))))))) (.seq (.seq (.ops r157_16) (.block 1 (.loop (.seq (.ops r157_17) (.seq (.cond (t 74) (.skip) (.exit 1)) (.seq (.block 2 (.seq (.ops r157_18) (.seq (.ops r157_19) (.cond (t 81) (.seq (.ops r157_20) (.ret)) (.skip))))) (.ops r157_21))))))) (.seq (.seq (.ops r157_22) (.cond (t 90) (.seq (.ops r157_23) (.ret)) (.skip))) (.seq (.ops r157_24) (.ret))))))))
theorem en157 : En ir157 103 [.cell 4 75, .tmp 5] 157 := acalls_enter_b mixed Tryz.func157 Tryz.ntmps157 (by kernel_rfl) (by kernel_rfl)
theorem ca157 : Ca 157 := cal Tryz.func157
def r198_0 : L := [o 4 (a (b false))]
def r198_1 : L := [o 5 (m (t 0)),
  o 6 (m (t 1)),
  o 7 (.call ⟨.value (f 230), #[(t 5), (t 6)], #[9, 9]⟩),
  o 4 (a (t 7))]
def ir198 : ACode := .seq (.ops r198_0) (.seq (.ops r198_1) (.ret))
theorem en198 : En ir198 8 [.tmp 4] 198 := acalls_enter_b mixed Tryz.func198 Tryz.ntmps198 (by kernel_rfl) (by kernel_rfl)
theorem ca198 : Ca 198 := cal Tryz.func198
def r230_0 : L := [o 4 (a (b false))]
def r230_1 : L := [o 5 (m (t 0)),
  o 6 (ln (t 5) 9),
  o 7 (m (t 1)),
  o 8 (ln (t 7) 9),
  o 9 (.binOp .geq 3 (t 6) (t 8) 3),
  o 10 (m (t 9)),
  y 11 (m (t 0)) 10 true,
  y 12 (m (t 1)) 10 true,
  y 13 (ln (t 12) 9) 10 true,
  y 14 (.slice 9 (t 11) none (some (t 13)) none) 10 true,
  y 15 (m (t 1)) 10 true,
  y 16 (.binOp .eql 9 (t 14) (t 15) 9) 10 true,
  o 17 (.pick (t 10) (t 16) (b false)),
  o 4 (a (t 17))]
def ir230 : ACode := .seq (.ops r230_0) (.seq (.ops r230_1) (.ret))
theorem en230 : En ir230 18 [.tmp 4] 230 := acalls_enter_b mixed Tryz.func230 Tryz.ntmps230 (by kernel_rfl) (by kernel_rfl)
theorem ca230 : Ca 230 := cal Tryz.func230
def r199_0 : L := [o 4 (a (k 0))]
def r199_1 : L := [o 5 (m (t 0)),
  o 6 (m (t 1)),
  o 7 (.call ⟨.value (f 231), #[(t 5), (t 6)], #[9, 5]⟩),
  o 4 (a (t 7))]
def ir199 : ACode := .seq (.ops r199_0) (.seq (.ops r199_1) (.ret))
theorem en199 : En ir199 8 [.tmp 4] 199 := acalls_enter_b mixed Tryz.func199 Tryz.ntmps199 (by kernel_rfl) (by kernel_rfl)
theorem ca199 : Ca 199 := cal Tryz.func199
def r231_0 : L := [o 4 (a (k 0))]
def r231_1 : L := [o 5 (m (t 0)),
  o 6 (m (t 1)),
  o 7 (.call ⟨.value (f 251), #[(t 5), (t 6)], #[9, 5]⟩),
  o 4 (a (t 7))]
def ir231 : ACode := .seq (.ops r231_0) (.seq (.ops r231_1) (.ret))
theorem en231 : En ir231 8 [.tmp 4] 231 := acalls_enter_b mixed Tryz.func231 Tryz.ntmps231 (by kernel_rfl) (by kernel_rfl)
theorem ca231 : Ca 231 := cal Tryz.func231
def r91_0 : L := [o 3 (m (t 0)),
  o 4 (m (t 0)),
  o 5 (m (t 0)),
  o 6 (.nilCheck (t 5)),
  o 7 (fa 77 (t 6) 0),
  o 8 (l 9 (t 7)),
  o 9 (m (t 0)),
  o 10 (.nilCheck (t 9)),
  o 11 (fa 77 (t 10) 1),
  o 12 (l 3 (t 11)),
  o 13 (.call ⟨.value (f 157), #[(t 8), (t 12)], #[9, 3]⟩),
  o 2 (m (t 13)),
  o 14 (.extract (t 2) 0),
  o 15 (.extract (t 2) 1),
  o 16 (.nilCheck (t 3)),
  o 17 (fa 77 (t 16) 2),
  q (.store 75 (t 17) (t 14)),
  o 18 (.nilCheck (t 4)),
  o 19 (fa 77 (t 18) 1),
  q (.store 3 (t 19) (t 15))]
def ir91 : ACode := .ops r91_0
theorem en91 : En ir91 20 [] 91 := acalls_enter_b mixed Tryz.func91 Tryz.ntmps91 (by kernel_rfl) (by kernel_rfl)
theorem ca91 : Ca 91 := cal Tryz.func91
end Go.Proofs

/- The extern under strings.IndexByte, said of abstract values. No conditions. -/
namespace Go.Proofs
open Go.Abs Go.Shelf Go.RowKit Go.Lib

set_option maxRecDepth 100000 in
set_option maxHeartbeats 1000000 in
theorem m231 (s : ByteArray) (c : Int) (w : World) : Calls Tryz.prog 231 #[.string s, .int .u8 c] w fun e w' => e = .returned (.int .i64 (Lib.indexByte s.data.toList c.toNat.toUInt8)) ∧ w' = w := by
  have mixed : Tryz.prog.follows .mixedOrders = true := by kernel_rfl
  have t3 := Tryz.underlying3; have t5 := Tryz.underlying5; have t9 := Tryz.underlying9
  have a3 : ∀ w, (isAgg 3).run Tryz.prog w = .ok false w := run_isAgg_plain t3 rfl
  have a5 : ∀ w, (isAgg 5).run Tryz.prog w = .ok false w := run_isAgg_plain t5 rfl
  have a9 : ∀ w, (isAgg 9).run Tryz.prog w = .ok false w := run_isAgg_plain t9 rfl
  go_enter Tryz.func231, Tryz.ntmps231
  go_wp2
  rw [run_callFunc_extern Tryz.func251 (by kernel_rfl) (by kernel_rfl) (by kernel_rfl) (e := Extern.BytealgIndexByte.indexByte) (by kernel_rfl), Lib.run_indexByteString]
  simp only [Result.andThen]
  rw [Oper.upon_value]
  go_wp2
  go_ret
  exact ⟨rfl, rfl⟩

theorem acalls_pure {P : Program} {G : Nat → Option Obj} {f : FuncId} {args : List AVal} {v : AVal} {h : AHeap} (hv : ∀ w vs, Rel G h w → Reps h w args vs → ∃ u, Rep h w v u ∧ Calls P f vs.toArray w fun e w' => e = .returned u ∧ w' = w) : ACalls P G f args h (fun out h' => out = .ret v ∧ h' = h) :=
  fun w vs hr ha => by
    obtain ⟨u, h1, h2⟩ := hv w vs hr ha
    refine h2.mono ?_
    rintro e w' ⟨rfl, rfl⟩
    exact ⟨.ret v, h, ⟨rfl, rfl⟩, hr, .refl hr, u, rfl, h1⟩

theorem c231 {G : Nat → Option Obj} {h : AHeap} (s : List UInt8) (c : UInt8) : ACalls Tryz.prog G 231 [.str s, .int .u8 c.toNat] h (fun out h' => out = .ret (.int .i64 (Lib.indexByte s c)) ∧ h' = h) := by
  refine acalls_pure fun w vs hr ha => ?_
  obtain ⟨hl, ha⟩ := ha
  match vs, hl with
  | [a, b], _ =>
    obtain ⟨t, rfl, ht⟩ := (ha 0 _ a rfl rfl).str_inv
    have hb := (ha 1 _ b rfl rfl).int_inv
    subst hb
    refine ⟨_, .int _ _, ?_⟩
    have := m231 t c.toNat w
    rw [ht] at this
    have e : (c.toNat : Int).toNat.toUInt8 = c := by simp
    rw [e] at this
    exact this
end Go.Proofs
