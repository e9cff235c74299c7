/- The codes of some functions, tied to the loaded program. No conditions. -/
import Derived.Test.YtjnkbjloabnopaaGreatDoorZ13
namespace Go.Proofs
open Go.Abs Go.Abs.I
def r26_0 : L := [o 6 (.alloc 32)]
def r26_1 : L := [o 10 (m (t 0)),
  o 11 (.call ⟨.value (f 12), #[(t 10), (k 14)], #[24, 3]⟩),
  o 7 (a (t 11))]
def r26_2 : L := [o 12 (m (t 1)),
  o 13 (.binOp .lss 3 (t 12) (k 1) 3)]
def r26_3 : L := [o 14 (m (t 7)),
  o 15 (.binOp .rem 3 (t 14) (k 7) 3),
  o 7 (a (t 15))]
def r26_4 : L := [o 17 (m (t 7)),
  o 18 (.binOp .lss 3 (t 17) (k 5) 3),
  o 16 (a (t 18))]
def r26_5 : L := [o 19 (m (t 0)),
  o 20 (m (t 2)),
  o 21 (.call ⟨.value (f 77), #[(t 19), (k 1), (t 20)], #[24, 3, 23]⟩),
  o 22 (.build 32 #[(0, (k 1)), (1, (t 21))]),
  o 8 (.alloc 32),
  q (.store 32 (t 8) (t 22))]
def r26_6 : L := [o 23 (m (t 2)),
  o 24 (ln (t 23) 23),
  o 25 (.binOp .gtr 3 (t 24) (k 0) 3),
  o 26 (m (t 25)),
  y 27 (m (t 0)) 26 true,
  y 28 (.call ⟨.value (f 12), #[(t 27), (k 2)], #[24, 3]⟩) 26 true,
  y 29 (.binOp .eql 3 (t 28) (k 1) 3) 26 true,
  o 30 (.pick (t 26) (t 29) (b false))]
def r26_7 : L := [o 31 (m (t 2)),
  o 32 (m (t 0)),
  o 33 (m (t 2)),
  o 34 (ln (t 33) 23),
  o 35 (.call ⟨.value (f 12), #[(t 32), (t 34)], #[24, 3]⟩),
  o 36 (.indexAddr 23 (t 31) (t 35)),
  o 37 (l 9 (t 36)),
  o 38 (fa 32 (t 8) 2),
  q (.store 9 (t 38) (t 37))]
def r26_8 : L := [o 39 (l 32 (t 8)),
  q (.store 32 (t 6) (t 39))]
def r26_9 : L := [o 41 (m (t 7)),
  o 42 (.binOp .lss 3 (t 41) (k 7) 3),
  o 40 (a (t 42))]
def r26_10 : L := [o 43 (m (t 7)),
  o 44 (.binOp .add 3 (k 2) (t 43) 3),
  o 45 (.binOp .sub 3 (t 44) (k 5) 3),
  o 46 (m (t 0)),
  o 47 (.call ⟨.value (f 12), #[(t 46), (k 3)], #[24, 3]⟩),
  o 48 (.call ⟨.value (f 78), #[(t 47)], #[3]⟩),
  o 49 (.build 32 #[(0, (t 45)), (3, (t 48))]),
  q (.store 32 (t 6) (t 49))]
def r26_11 : L := [o 51 (m (t 7)),
  o 52 (.binOp .lss 3 (t 51) (k 10) 3),
  o 50 (a (t 52))]
def r26_12 : L := [o 53 (m (t 0)),
  o 54 (m (t 1)),
  o 55 (.binOp .sub 3 (t 54) (k 1) 3),
  o 56 (m (t 2)),
  o 57 (.call ⟨.value (f 26), #[(t 53), (t 55), (t 56)], #[24, 3, 23]⟩),
  o 58 (m (t 0)),
  o 59 (m (t 1)),
  o 60 (.binOp .sub 3 (t 59) (k 1) 3),
  o 61 (m (t 2)),
  o 62 (.call ⟨.value (f 26), #[(t 58), (t 60), (t 61)], #[24, 3, 23]⟩),
  o 63 (.buildSlice 30 2 #[(0, (t 57)), (1, (t 62))]),
  o 64 (.build 32 #[(0, (k 4)), (6, (t 63))]),
  q (.store 32 (t 6) (t 64))]
def r26_13 : L := [o 66 (m (t 7)),
  o 67 (.binOp .lss 3 (t 66) (k 12) 3),
  o 65 (a (t 67))]
def r26_14 : L := [o 68 (m (t 0)),
  o 69 (m (t 1)),
  o 70 (.binOp .sub 3 (t 69) (k 1) 3),
  o 71 (m (t 2)),
  o 72 (.call ⟨.value (f 26), #[(t 68), (t 70), (t 71)], #[24, 3, 23]⟩),
  o 73 (m (t 0)),
  o 74 (m (t 1)),
  o 75 (.binOp .sub 3 (t 74) (k 1) 3),
  o 76 (m (t 2)),
  o 77 (.call ⟨.value (f 26), #[(t 73), (t 75), (t 76)], #[24, 3, 23]⟩),
  o 78 (.buildSlice 30 2 #[(0, (t 72)), (1, (t 77))]),
  o 79 (.build 32 #[(0, (k 5)), (6, (t 78))]),
  q (.store 32 (t 6) (t 79))]
def r26_15 : L := [o 80 (.build 125 #[(0, (k 0)), (1, (k 1))]),
  o 81 (.build 125 #[(0, (k 0)), (1, (k (-1)))]),
  o 82 (.build 125 #[(0, (k 1)), (1, (k (-1)))]),
  o 83 (.build 125 #[(0, (k 2)), (1, (k 2))]),
  o 84 (.build 125 #[(0, (k 0)), (1, (k 2))]),
  o 85 (.build 125 #[(0, (k 1)), (1, (k 3))]),
  o 86 (.build 125 #[(0, (k 0)), (1, (k 0))]),
  o 87 (.buildSlice 126 7 #[(0, (t 80)), (1, (t 81)), (2, (t 82)), (3, (t 83)), (4, (t 84)), (5, (t 85)), (6, (t 86))]),
  o 88 (m (t 0)),
  o 89 (.call ⟨.value (f 12), #[(t 88), (k 7)], #[24, 3]⟩),
  o 90 (.indexAddr 126 (t 87) (t 89)),
  o 91 (l 125 (t 90)),
  o 9 (.alloc 125),
  q (.store 125 (t 9) (t 91))]
def r26_16 : L := [o 92 (.indexAddr 125 (t 9) (k 0)),
  o 93 (l 3 (t 92)),
  o 94 (.indexAddr 125 (t 9) (k 1)),
  o 95 (l 3 (t 94)),
  o 96 (m (t 0)),
  o 97 (m (t 1)),
  o 98 (.binOp .sub 3 (t 97) (k 1) 3),
  o 99 (m (t 2)),
  oc 100 (.call ⟨.value (f 26), #[(t 96), (t 98), (t 99)], #[24, 3, 23]⟩) [c 95 (l 3 (t 94)), c 93 (l 3 (t 92))],
  o 101 (.buildSlice 30 1 #[(0, (t 100))]),
  o 102 (.build 32 #[(0, (k 6)), (4, (t 93)), (5, (t 95)), (6, (t 101))]),
  q (.store 32 (t 6) (t 102))]
def ir26 : ACode := .seq (.ops r26_0) (.seq (.ops r26_1) (.seq (.seq (.ops r26_2) (.cond (t 13) (.ops r26_3) (.skip))) (.seq (.block 0 (.seq (.ops r26_4) (.cond (t 16) (.seq (.ops r26_5) (.seq (.seq (.ops r26_6) (.cond (t 30) (.ops r26_7) (.skip))) (.seq (.ops r26_8) (.ret)))) (.seq (.ops r26_9) (.cond (t 40) (.seq (.ops r26_10) (.ret)) (.seq (.ops r26_11) (.cond (t 50) (.seq (.ops r26_12) (.ret)) (.seq (.ops r26_13) (.cond (t 65) (.seq (.ops r26_14) (.ret)) (.skip)))))))))) (.seq (.ops r26_15) (.seq (.ops r26_16) (.ret))))))
theorem en26 : En ir26 103 [.cell 6 32] 26 := acalls_enter_b mixed Tryz.func26 Tryz.ntmps26 (by kernel_rfl) (by kernel_rfl)
theorem ca26 : Ca 26 := cal Tryz.func26
def r77_0 : L := [o 6 (.alloc 29)]
def r77_1 : L := [o 7 (m (t 0)),
  o 8 (.call ⟨.value (f 12), #[(t 7), (k 8)], #[24, 3]⟩)]
def r77_2 : L := [o 10 (.binOp .eql 3 (t 8) (k 0) 3),
  o 9 (a (t 10))]
def r77_3 : L := [o 11 (.build 29 #[(0, (k 1))]),
  q (.store 29 (t 6) (t 11))]
def r77_4 : L := [o 13 (.binOp .eql 3 (t 8) (k 1) 3),
  o 12 (a (t 13))]
def r77_5 : L := [o 14 (.binOp .eql 3 (t 8) (k 2) 3),
  o 12 (a (t 14))]
def r77_6 : L := [o 15 (.buildSlice 23 4 #[(0, (s #[97])), (1, (s #[98])), (2, (s #[97, 46, 42])), (3, (s #[91, 97, 98, 93]))]),
  o 16 (m (t 0)),
  o 20 (m (t 0)),
  o 17 (.call ⟨.value (f 12), #[(t 16), (k 4)], #[24, 3]⟩),
  o 18 (.indexAddr 23 (t 15) (t 17)),
  o 19 (l 9 (t 18)),
  oc 21 (.call ⟨.value (f 12), #[(t 20), (k 3)], #[24, 3]⟩) [c 19 (l 9 (t 18))],
  o 22 (.binOp .eql 3 (t 21) (k 2) 3),
  o 23 (.build 29 #[(0, (k 2)), (3, (t 19)), (5, (t 22))]),
  q (.store 29 (t 6) (t 23))]
def r77_7 : L := [o 24 (m (t 0)),
  o 25 (m (t 1)),
  o 26 (m (t 2)),
  o 27 (.call ⟨.value (f 145), #[(t 24), (t 25), (t 26)], #[24, 3, 23]⟩),
  q (.store 29 (t 6) (t 27))]
def ir77 : ACode := .seq (.ops r77_0) (.seq (.seq (.ops r77_1) (.block 0 (.seq (.ops r77_2) (.cond (t 9) (.seq (.ops r77_3) (.ret)) (.seq (.seq (.ops r77_4) (.cond (t 12) (.skip) (.ops r77_5))) (.cond (t 12) (.seq (.ops r77_6) (.ret)) (.skip))))))) (.seq (.ops r77_7) (.ret)))
theorem en77 : En ir77 28 [.cell 6 29] 77 := acalls_enter_b mixed Tryz.func77 Tryz.ntmps77 (by kernel_rfl) (by kernel_rfl)
theorem ca77 : Ca 77 := cal Tryz.func77
def r145_0 : L := [o 6 (.alloc 29)]
def r145_1 : L := [o 9 (m (t 0)),
  o 10 (.call ⟨.value (f 12), #[(t 9), (k 12)], #[24, 3]⟩),
  o 7 (a (t 10))]
def r145_2 : L := [o 11 (m (t 1)),
  o 12 (.binOp .lss 3 (t 11) (k 1) 3)]
def r145_3 : L := [o 13 (m (t 7)),
  o 14 (.binOp .rem 3 (t 13) (k 8) 3),
  o 7 (a (t 14))]
def r145_4 : L := [o 15 (m (t 7))]
def r145_5 : L := [o 17 (.binOp .eql 3 (t 15) (k 0) 3),
  o 16 (a (t 17))]
def r145_6 : L := [o 18 (.binOp .eql 3 (t 15) (k 1) 3),
  o 16 (a (t 18))]
def r145_7 : L := [o 19 (.binOp .eql 3 (t 15) (k 2) 3),
  o 16 (a (t 19))]
def r145_8 : L := [o 20 (.binOp .eql 3 (t 15) (k 3) 3),
  o 16 (a (t 20))]
def r145_9 : L := [o 21 (.buildSlice 23 3 #[(0, (s #[119, 111, 114, 100])), (1, (s #[119, 111, 114, 100])), (2, (s #[116, 97, 103]))]),
  o 22 (m (t 0)),
  o 26 (.buildSlice 23 8 #[(0, (s #[97])), (1, (s #[98])), (2, (s #[97, 46, 42])), (3, (s #[91, 97, 98, 93])), (4, (s #[88])), (5, (s #[])), (6, (s #[99, 63])), (7, (s #[97, 124, 98]))]),
  o 27 (m (t 0)),
  o 31 (m (t 0)),
  o 23 (.call ⟨.value (f 12), #[(t 22), (k 3)], #[24, 3]⟩),
  o 24 (.indexAddr 23 (t 21) (t 23)),
  o 25 (l 9 (t 24)),
  oc 28 (.call ⟨.value (f 12), #[(t 27), (k 8)], #[24, 3]⟩) [c 25 (l 9 (t 24))],
  o 29 (.indexAddr 23 (t 26) (t 28)),
  o 30 (l 9 (t 29)),
  oc 32 (.call ⟨.value (f 12), #[(t 31), (k 3)], #[24, 3]⟩) [c 30 (l 9 (t 29)), c 25 (l 9 (t 24))],
  o 33 (.binOp .eql 3 (t 32) (k 2) 3),
  o 34 (.build 29 #[(0, (k 2)), (1, (t 25)), (3, (t 30)), (5, (t 33))]),
  q (.store 29 (t 6) (t 34))]
def r145_10 : L := [o 36 (.binOp .eql 3 (t 15) (k 4) 3),
  o 35 (a (t 36))]
def r145_11 : L := [o 37 (.buildSlice 23 2 #[(0, (s #[112])), (1, (s #[113]))]),
  o 38 (m (t 0)),
  o 39 (.call ⟨.value (f 12), #[(t 38), (k 2)], #[24, 3]⟩),
  o 40 (.indexAddr 23 (t 37) (t 39)),
  o 41 (l 9 (t 40)),
  o 42 (.build 29 #[(0, (k 3)), (1, (s #[102, 101, 97, 116])), (3, (t 41))]),
  q (.store 29 (t 6) (t 42))]
def r145_12 : L := [o 44 (.binOp .eql 3 (t 15) (k 5) 3),
  o 43 (a (t 44))]
def r145_13 : L := [o 45 (m (t 2)),
  o 46 (ln (t 45) 23),
  o 47 (.binOp .gtr 3 (t 46) (k 0) 3)]
def r145_14 : L := [o 48 (.buildSlice 23 2 #[(0, (s #[119, 111, 114, 100])), (1, (s #[116, 97, 103]))]),
  o 49 (m (t 0)),
  o 53 (m (t 2)),
  o 54 (m (t 0)),
  o 55 (m (t 2)),
  o 56 (ln (t 55) 23),
  o 60 (.buildSlice 23 2 #[(0, (s #[119, 111, 114, 100])), (1, (s #[116, 97, 103]))]),
  o 61 (m (t 0)),
  o 50 (.call ⟨.value (f 12), #[(t 49), (k 2)], #[24, 3]⟩),
  o 51 (.indexAddr 23 (t 48) (t 50)),
  o 52 (l 9 (t 51)),
  oc 57 (.call ⟨.value (f 12), #[(t 54), (t 56)], #[24, 3]⟩) [c 52 (l 9 (t 51))],
  o 58 (.indexAddr 23 (t 53) (t 57)),
  o 59 (l 9 (t 58)),
  oc 62 (.call ⟨.value (f 12), #[(t 61), (k 2)], #[24, 3]⟩) [c 59 (l 9 (t 58)), c 52 (l 9 (t 51))],
  o 63 (.indexAddr 23 (t 60) (t 62)),
  o 64 (l 9 (t 63)),
  o 65 (.build 29 #[(0, (k 4)), (1, (t 52)), (4, (t 59)), (2, (t 64))]),
  q (.store 29 (t 6) (t 65))]
def r145_15 : L := [o 66 (.build 29 #[(0, (k 2)), (1, (s #[116, 97, 103])), (3, (s #[89]))]),
  q (.store 29 (t 6) (t 66))]
def r145_16 : L := [o 68 (.binOp .eql 3 (t 15) (k 6) 3),
  o 67 (a (t 68))]
def r145_17 : L := [o 69 (.binOp .eql 3 (t 15) (k 7) 3),
  o 67 (a (t 69))]
def r145_18 : L := [o 70 (m (t 0)),
  o 71 (.call ⟨.value (f 12), #[(t 70), (k 3)], #[24, 3]⟩),
  o 72 (.call ⟨.value (f 78), #[(t 71)], #[3]⟩),
  o 73 (.build 29 #[(0, (k 5)), (1, (t 72))]),
  o 8 (.alloc 29),
  q (.store 29 (t 8) (t 73))]
def r145_19 : L := [o 74 (m (t 0)),
  o 75 (.call ⟨.value (f 12), #[(t 74), (k 2)], #[24, 3]⟩),
  o 76 (.binOp .eql 3 (t 75) (k 1) 3)]
def r145_20 : L := [o 77 (.buildSlice 23 2 #[(0, (s #[49])), (1, (s #[50]))]),
  o 78 (m (t 0)),
  o 82 (fa 29 (t 8) 2),
  o 79 (.call ⟨.value (f 12), #[(t 78), (k 2)], #[24, 3]⟩),
  o 80 (.indexAddr 23 (t 77) (t 79)),
  o 81 (l 9 (t 80)),
  qc (.store 9 (t 82) (s #[110])) [c 81 (l 9 (t 80))],
  o 83 (fa 29 (t 8) 3),
  q (.store 9 (t 83) (t 81))]
def r145_21 : L := [o 84 (l 29 (t 8)),
  q (.store 29 (t 6) (t 84))]
def r145_22 : L := [o 86 (.binOp .eql 3 (t 15) (k 8) 3),
  o 85 (a (t 86))]
def r145_23 : L := [o 87 (.binOp .eql 3 (t 15) (k 9) 3),
  o 85 (a (t 87))]
def r145_24 : L := [o 88 (m (t 0)),
  o 89 (m (t 1)),
  o 90 (.binOp .sub 3 (t 89) (k 1) 3),
  o 91 (m (t 2)),
  o 92 (.call ⟨.value (f 145), #[(t 88), (t 90), (t 91)], #[24, 3, 23]⟩),
  o 93 (.buildSlice 27 1 #[(0, (t 92))]),
  o 94 (.build 29 #[(0, (k 6)), (6, (t 93))]),
  q (.store 29 (t 6) (t 94))]
def r145_25 : L := [o 95 (m (t 7)),
  o 96 (.binOp .add 3 (k 7) (t 95) 3),
  o 97 (.binOp .sub 3 (t 96) (k 10) 3),
  o 98 (m (t 0)),
  o 99 (m (t 1)),
  o 100 (.binOp .sub 3 (t 99) (k 1) 3),
  o 101 (m (t 2)),
  o 102 (.call ⟨.value (f 145), #[(t 98), (t 100), (t 101)], #[24, 3, 23]⟩),
  o 103 (m (t 0)),
  o 104 (m (t 1)),
  o 105 (.binOp .sub 3 (t 104) (k 1) 3),
  o 106 (m (t 2)),
  o 107 (.call ⟨.value (f 145), #[(t 103), (t 105), (t 106)], #[24, 3, 23]⟩),
  o 108 (.buildSlice 27 2 #[(0, (t 102)), (1, (t 107))]),
  o 109 (.build 29 #[(0, (t 97)), (6, (t 108))]),
  q (.store 29 (t 6) (t 109))]
def ir145 : ACode := .seq (.ops r145_0) (.seq (.ops r145_1) (.seq (.seq (.ops r145_2) (.cond (t 12) (.ops r145_3) (.skip))) (.seq (.seq (.ops r145_4) (.block 0 (.seq (.seq (.ops r145_5) (.cond (t 16) (.skip) (.seq (.ops r145_6) (.cond (t 16) (.skip) (.seq (.ops r145_7) (.cond (t 16) (.skip) (.ops r145_8))))))) (.cond (t 16) (.seq (.ops r145_9) (.ret)) (.seq (.ops r145_10) (.cond (t 35) (.seq (.ops r145_11) (.ret)) (.seq (.ops r145_12) (.cond (t 43) (.seq (.seq (.ops r145_13) (.cond (t 47) (.seq (.ops r145_14) (.ret)) (.skip))) (.seq (.ops r145_15) (.ret))) (.seq (.seq (.ops r145_16) (.cond (t 67) (.skip) (.ops r145_17))) (.cond (t 67) (.seq (.ops r145_18) (.seq (.seq (.ops r145_19) (.cond (t 76) (.ops r145_20) (.skip))) (.seq (.ops r145_21) (.ret)))) (.seq (.seq (.ops r145_22) (.cond (t 85) (.skip) (.ops r145_23))) (.cond (t 85) (.seq (.ops r145_24) (.ret)) (.skip))))))))))))) (.seq (.ops r145_25) (.ret)))))
theorem en145 : En ir145 110 [.cell 6 29] 145 := acalls_enter_b mixed Tryz.func145 Tryz.ntmps145 (by kernel_rfl) (by kernel_rfl)
theorem ca145 : Ca 145 := cal Tryz.func145
def r78_0 : L := [o 2 (a (s #[]))]
def r78_1 : L := [o 3 (.buildSlice 23 3 #[(0, (s #[115])), (1, (s #[110, 112])), (2, (s #[116]))]),
  o 4 (m (t 0)),
  o 5 (.call ⟨.value (f 19), #[(t 4), (k 3)], #[3, 3]⟩),
  o 6 (.indexAddr 23 (t 3) (t 5)),
  o 7 (l 9 (t 6)),
  o 2 (a (t 7))]
def ir78 : ACode := .seq (.ops r78_0) (.seq (.ops r78_1) (.ret))
theorem en78 : En ir78 8 [.tmp 2] 78 := acalls_enter_b mixed Tryz.func78 Tryz.ntmps78 (by kernel_rfl) (by kernel_rfl)
theorem ca78 : Ca 78 := cal Tryz.func78
def r27_0 : L := [o 1 (.box 32 (t 0)),
  o 2 (a (k 0)),
  o 3 (a (k 0))]
def r27_1 : L := [o 4 (l 32 (t 1)),
  o 5 (.call ⟨.value (f 73), #[(t 4)], #[32]⟩),
  o 6 (.unOp .not 4 (t 5))]
def r27_2 : L := [o 2 (a (k 0)),
  o 3 (a (k 0))]
def r27_3 : L := [o 7 (l 32 (t 1)),
  o 8 (.call ⟨.value (f 79), #[(t 7)], #[32]⟩),
  o 9 (.extract (t 8) 0),
  o 10 (.extract (t 8) 1),
  o 2 (a (t 9)),
  o 3 (a (t 10))]
def ir27 : ACode := .seq (.ops r27_0) (.seq (.seq (.ops r27_1) (.cond (t 6) (.seq (.ops r27_2) (.ret)) (.skip))) (.seq (.ops r27_3) (.ret)))
theorem en27 : En ir27 11 [.tmp 2, .tmp 3] 27 := acalls_enter_b mixed Tryz.func27 Tryz.ntmps27 (by kernel_rfl) (by kernel_rfl)
theorem ca27 : Ca 27 := cal Tryz.func27
def r79_0 : L := [o 1 (.box 32 (t 0)),
  o 2 (a (k 0)),
  o 3 (a (k 0))]
def r79_1 : L := [o 13 (fa 32 (t 1) 0),
  o 14 (l 3 (t 13))]
def r79_2 : L := [o 16 (.binOp .eql 3 (t 14) (k 1) 3),
  o 15 (a (t 16))]
def r79_3 : L := [o 2 (a (k 1)),
  o 3 (a (k 1))]
def r79_4 : L := [o 18 (.binOp .eql 3 (t 14) (k 2) 3),
  o 17 (a (t 18))]
def r79_5 : L := [o 19 (.binOp .eql 3 (t 14) (k 3) 3),
  o 17 (a (t 19))]
def r79_6 : L := [o 2 (a (k 0)),
  o 3 (a (k 0))]
def r79_7 : L := [o 21 (.binOp .eql 3 (t 14) (k 6) 3),
  o 20 (a (t 21))]
def r79_8 : L := [o 23 (fa 32 (t 1) 6),
  o 24 (l 30 (t 23)),
  o 25 (.indexAddr 30 (t 24) (k 0)),
  o 26 (l 32 (t 25)),
  o 27 (.call ⟨.value (f 79), #[(t 26)], #[32]⟩),
  o 22 (m (t 27)),
  o 28 (.extract (t 22) 0),
  o 29 (.extract (t 22) 1),
  o 4 (a (t 28)),
  o 5 (a (t 29))]
def r79_9 : L := [o 30 (m (t 4)),
  o 31 (fa 32 (t 1) 4),
  o 32 (l 3 (t 31)),
  o 33 (.binOp .mul 3 (t 30) (t 32) 3),
  o 34 (.call ⟨.builtin .min, #[(t 33), (k 10000)], #[3, 3]⟩),
  o 4 (a (t 34))]
def r79_10 : L := [o 36 (fa 32 (t 1) 5),
  o 37 (l 3 (t 36)),
  o 38 (.binOp .eql 3 (t 37) (k 0) 3),
  o 39 (m (t 38)),
  y 40 (m (t 5)) 39 false,
  y 41 (.binOp .eql 3 (t 40) (k 0) 3) 39 false,
  o 42 (.pick (t 39) (b true) (t 41)),
  o 35 (a (t 42))]
def r79_11 : L := [o 43 (m (t 4)),
  o 2 (a (t 43)),
  o 3 (a (k 0))]
def r79_12 : L := [o 45 (fa 32 (t 1) 5),
  o 46 (l 3 (t 45)),
  o 47 (.binOp .lss 3 (t 46) (k 0) 3),
  o 48 (m (t 47)),
  y 49 (m (t 5)) 48 false,
  y 50 (.binOp .lss 3 (t 49) (k 0) 3) 48 false,
  o 51 (.pick (t 48) (b true) (t 50)),
  o 44 (a (t 51))]
def r79_13 : L := [o 52 (m (t 4)),
  o 2 (a (t 52)),
  o 3 (a (k (-1)))]
def r79_14 : L := [o 53 (m (t 4)),
  o 54 (m (t 5)),
  o 55 (fa 32 (t 1) 5),
  o 56 (l 3 (t 55)),
  o 57 (.binOp .mul 3 (t 54) (t 56) 3),
  o 58 (.call ⟨.builtin .min, #[(t 57), (k 10000)], #[3, 3]⟩),
  o 2 (a (t 53)),
  o 3 (a (t 58))]
def r79_15 : L := [o 60 (fa 32 (t 1) 6),
  o 61 (l 30 (t 60)),
  o 62 (.indexAddr 30 (t 61) (k 0)),
  o 63 (l 32 (t 62)),
  o 64 (.call ⟨.value (f 79), #[(t 63)], #[32]⟩),
  o 59 (m (t 64)),
  o 65 (.extract (t 59) 0),
  o 66 (.extract (t 59) 1),
  o 6 (a (t 65)),
  o 7 (a (t 66))]
def r79_16 : L := [o 67 (fa 32 (t 1) 6),
  o 68 (l 30 (t 67)),
  o 69 (.slice 30 (t 68) (some (k 1)) none none),
  o 70 (ln (t 69) 30),
  o 71 (m (k 0))]
def r79_17 : L := [o 72 (.binOp .lss 3 (t 71) (t 70) 3)]
def r79_18 : L := [o 73 (.indexAddr 30 (t 69) (t 71)),
  o 74 (l 32 (t 73)),
  o 9 (.alloc 32),
  q (.store 32 (t 9) (t 74))]
def r79_19 : L := [o 76 (l 32 (t 9)),
  o 77 (.call ⟨.value (f 79), #[(t 76)], #[32]⟩),
  o 75 (m (t 77)),
  o 78 (.extract (t 75) 0),
  o 79 (.extract (t 75) 1),
  o 10 (a (t 78)),
  o 11 (a (t 79))]
def r79_20 : L := [o 80 (m (t 7)),
  o 81 (.binOp .lss 3 (t 80) (k 0) 3),
  o 82 (m (t 81)),
  y 83 (m (t 11)) 82 false,
  y 84 (.binOp .lss 3 (t 83) (k 0) 3) 82 false,
  o 85 (.pick (t 82) (b true) (t 84)),
  o 12 (a (t 85))]
def r79_21 : L := [o 86 (fa 32 (t 1) 0),
  o 87 (l 3 (t 86)),
  o 88 (.binOp .eql 3 (t 87) (k 4) 3)]
def r79_22 : L := [o 89 (m (t 6)),
  o 90 (m (t 10)),
  o 91 (.binOp .add 3 (t 89) (t 90) 3),
  o 92 (.call ⟨.builtin .min, #[(t 91), (k 10000)], #[3, 3]⟩),
  o 93 (m (t 7)),
  o 94 (m (t 11)),
  o 95 (.binOp .add 3 (t 93) (t 94) 3),
  o 96 (.call ⟨.builtin .min, #[(t 95), (k 10000)], #[3, 3]⟩),
  o 6 (a (t 92)),
  o 7 (a (t 96))]
def r79_23 : L := [o 97 (m (t 6)),
  o 98 (m (t 10)),
  o 99 (.call ⟨.builtin .min, #[(t 97), (t 98)], #[3, 3]⟩),
  o 100 (m (t 7)),
  o 101 (m (t 11)),
  o 102 (.call ⟨.builtin .max, #[(t 100), (t 101)], #[3, 3]⟩),
  o 6 (a (t 99)),
  o 7 (a (t 102))]
def r79_24 : L := [o 103 (m (t 12))]
def r79_25 : L := [o 7 (a (k (-1)))]
def r79_26 : L := [o 104 (.binOp .add 3 (t 71) (k 1) 3),
  o 71 (m (t 104))]
def r79_27 : L := [o 105 (m (t 6)),
  o 106 (m (t 7)),
  o 2 (a (t 105)),
  o 3 (a (t 106))]
def ir79 : ACode := .seq (.ops r79_0) (.seq (.seq (.ops r79_1) (.block 0 (.seq (.ops r79_2) (.cond (t 15) (.seq (.ops r79_3) (.ret)) (.seq (.seq (.ops r79_4) (.cond (t 17) (.skip) (.ops r79_5))) (.cond (t 17) (.seq (.ops r79_6) (.ret)) (.seq (.ops r79_7) (.cond (t 20) (.seq (.ops r79_8) (.seq (.ops r79_9) (.seq (.block 1 (.seq (.ops r79_10) (.cond (t 35) (.seq (.ops r79_11) (.ret)) (.seq (.ops r79_12) (.cond (t 44) (.seq (.ops r79_13) (.ret)) (.skip)))))) (.seq (.ops r79_14) (.ret))))) (.skip))))))))) (.seq (.ops r79_15) (.seq (.seq (.ops r79_16) (.block 2 (.loop (.seq (.ops r79_17) (.seq (.cond (t 72) (.skip) (.exit 2)) (.seq (.block 3 (.seq (.ops r79_18) (.seq (.ops r79_19) (.seq (.ops r79_20) (.seq (.seq (.ops r79_21) (.cond (t 88) (.ops r79_22) (.ops r79_23))) (.seq (.ops r79_24) (.cond (t 103) (.ops r79_25) (.skip)))))))) (.ops r79_26))))))) (.seq (.ops r79_27) (.ret)))))
theorem en79 : En ir79 107 [.tmp 2, .tmp 3] 79 := acalls_enter_b mixed Tryz.func79 Tryz.ntmps79 (by kernel_rfl) (by kernel_rfl)
theorem ca79 : Ca 79 := cal Tryz.func79
def r8_0 : L := [o 2 (a (b false))]
def r8_1 : L := [o 16 (m (t 0)),
  o 17 (.call ⟨.value (f 11), #[(t 16)], #[22]⟩),
  o 3 (a (t 17))]
def r8_2 : L := [o 18 (m (t 3)),
  o 19 (.call ⟨.value (f 26), #[(t 18), (k 2), (.const (.slice none 0 0))], #[24, 3, 23]⟩),
  o 20 (m (t 3)),
  o 21 (.call ⟨.value (f 26), #[(t 20), (k 2), (.const (.slice none 0 0))], #[24, 3, 23]⟩),
  o 4 (.alloc 32),
  o 5 (.alloc 32),
  q (.store 32 (t 4) (t 19)),
  q (.store 32 (t 5) (t 21))]
def r8_3 : L := [o 22 (l 32 (t 4)),
  o 23 (l 32 (t 5)),
  o 24 (.buildSlice 30 2 #[(0, (t 22)), (1, (t 23))]),
  o 25 (.build 32 #[(0, (k 4)), (6, (t 24))]),
  o 6 (.alloc 32),
  q (.store 32 (t 6) (t 25))]
def r8_4 : L := [o 26 (l 32 (t 4)),
  o 27 (l 32 (t 5)),
  o 28 (.buildSlice 30 2 #[(0, (t 26)), (1, (t 27))]),
  o 29 (.build 32 #[(0, (k 5)), (6, (t 28))]),
  o 7 (.alloc 32),
  q (.store 32 (t 7) (t 29))]
def r8_5 : L := [o 31 (l 32 (t 4)),
  o 32 (.call ⟨.value (f 27), #[(t 31)], #[32]⟩),
  o 30 (m (t 32)),
  o 33 (.extract (t 30) 0),
  o 34 (.extract (t 30) 1),
  o 8 (a (t 33)),
  o 9 (a (t 34))]
def r8_6 : L := [o 36 (l 32 (t 5)),
  o 37 (.call ⟨.value (f 27), #[(t 36)], #[32]⟩),
  o 35 (m (t 37)),
  o 38 (.extract (t 35) 0),
  o 39 (.extract (t 35) 1),
  o 10 (a (t 38)),
  o 11 (a (t 39))]
def r8_7 : L := [o 41 (l 32 (t 6)),
  o 42 (.call ⟨.value (f 27), #[(t 41)], #[32]⟩),
  o 40 (m (t 42)),
  o 43 (.extract (t 40) 0),
  o 44 (.extract (t 40) 1),
  o 12 (a (t 43)),
  o 13 (a (t 44))]
def r8_8 : L := [o 46 (l 32 (t 7)),
  o 47 (.call ⟨.value (f 27), #[(t 46)], #[32]⟩),
  o 45 (m (t 47)),
  o 48 (.extract (t 45) 0),
  o 49 (.extract (t 45) 1),
  o 14 (a (t 48)),
  o 15 (a (t 49))]
def r8_9 : L := [o 50 (l 32 (t 6)),
  o 52 (l 32 (t 4)),
  o 54 (l 32 (t 5)),
  oc 51 (.call ⟨.value (f 28), #[(t 50)], #[32]⟩) [c 54 (l 32 (t 5)), c 52 (l 32 (t 4))],
  oc 53 (.call ⟨.value (f 28), #[(t 52)], #[32]⟩) [c 54 (l 32 (t 5))],
  o 55 (.call ⟨.value (f 28), #[(t 54)], #[32]⟩),
  o 56 (.binOp .add 3 (t 53) (t 55) 3),
  o 57 (.binOp .neq 3 (t 51) (t 56) 3),
  o 58 (m (t 57)),
  y 59 (l 32 (t 7)) 58 false,
  y 61 (l 32 (t 6)) 58 false,
  (⟨some 60, .call ⟨.value (f 28), #[(t 59)], #[32]⟩, some (58, false)⟩, [⟨some 61, l 32 (t 6), some (58, false)⟩]),
  y 62 (.call ⟨.value (f 28), #[(t 61)], #[32]⟩) 58 false,
  y 63 (.binOp .neq 3 (t 60) (t 62) 3) 58 false,
  o 64 (.pick (t 58) (b true) (t 63)),
  o 65 (m (t 64)),
  y 66 (m (t 12)) 65 false,
  y 67 (m (t 8)) 65 false,
  y 68 (m (t 10)) 65 false,
  y 69 (.binOp .add 3 (t 67) (t 68) 3) 65 false,
  y 70 (.binOp .neq 3 (t 66) (t 69) 3) 65 false,
  o 71 (.pick (t 65) (b true) (t 70)),
  o 72 (m (t 71)),
  y 73 (m (t 14)) 72 false,
  y 74 (m (t 8)) 72 false,
  y 75 (m (t 10)) 72 false,
  y 76 (.call ⟨.builtin .min, #[(t 74), (t 75)], #[3, 3]⟩) 72 false,
  y 77 (.binOp .neq 3 (t 73) (t 76) 3) 72 false,
  o 78 (.pick (t 72) (b true) (t 77))]
def r8_10 : L := [o 2 (a (b false))]
def r8_11 : L := [o 79 (m (t 9)),
  o 80 (.binOp .eql 3 (t 79) (k (-1)) 3),
  o 81 (m (t 80)),
  y 82 (m (t 11)) 81 false,
  y 83 (.binOp .eql 3 (t 82) (k (-1)) 3) 81 false,
  o 84 (.pick (t 81) (b true) (t 83))]
def r8_12 : L := [o 85 (m (t 13)),
  o 86 (.binOp .eql 3 (t 85) (k (-1)) 3),
  o 87 (m (t 86)),
  y 88 (m (t 15)) 87 true,
  y 89 (.binOp .eql 3 (t 88) (k (-1)) 3) 87 true,
  o 90 (.pick (t 87) (t 89) (b false)),
  o 91 (m (t 90)),
  y 92 (.call ⟨.value (f 16), #[], #[]⟩) 91 true,
  o 93 (.pick (t 91) (t 92) (b false)),
  o 2 (a (t 93))]
def r8_13 : L := [o 94 (m (t 13)),
  o 95 (m (t 9)),
  o 96 (m (t 11)),
  o 97 (.binOp .add 3 (t 95) (t 96) 3),
  o 98 (.binOp .eql 3 (t 94) (t 97) 3),
  o 99 (m (t 98)),
  y 100 (m (t 15)) 99 true,
  y 101 (m (t 9)) 99 true,
  y 102 (m (t 11)) 99 true,
  y 103 (.call ⟨.builtin .max, #[(t 101), (t 102)], #[3, 3]⟩) 99 true,
  y 104 (.binOp .eql 3 (t 100) (t 103) 3) 99 true,
  o 105 (.pick (t 99) (t 104) (b false)),
  o 106 (m (t 105)),
  y 107 (.call ⟨.value (f 16), #[], #[]⟩) 106 true,
  o 108 (.pick (t 106) (t 107) (b false)),
  o 2 (a (t 108))]
def ir8 : ACode := .seq (.ops r8_0) (.seq (.ops r8_1) (.seq (.ops r8_2) (.seq (.ops r8_3) (.seq (.ops r8_4) (.seq (.ops r8_5) (.seq (.ops r8_6) (.seq (.ops r8_7) (.seq (.ops r8_8) (.seq (.seq (.ops r8_9) (.cond (t 78) (.seq (.ops r8_10) (.ret)) (.skip))) (.seq (.seq (.ops r8_11) (.cond (t 84) (.seq (.ops r8_12) (.ret)) (.skip))) (.seq (.ops r8_13) (.ret))))))))))))
theorem en8 : En ir8 109 [.tmp 2] 8 := acalls_enter_b mixed Tryz.func8 Tryz.ntmps8 (by kernel_rfl) (by kernel_rfl)
theorem ca8 : Ca 8 := cal Tryz.func8
end Go.Proofs

/- What the statements' generator makes of numbers: conditions, patterns. In plain Lean; no conditions. -/
namespace Go.Q

def types3 : List Str := [[115], [110, 112], [116]]
def attr2 : List Str := [[119, 111, 114, 100], [116, 97, 103]]
def vals8 : List Str := [[97], [98], [97, 46, 42], [91, 97, 98, 93], [88], [], [99, 63], [97, 124, 98], [89], [97, 124, 88]]

/-- A condition with a name. -/
inductive GC (lab : Str → Prop) : Nat → Cond → Prop where
  | value (n : Nat) (name x : Str) (fold : Bool) : name ∈ attr2 → x ∈ vals8 → GC lab n (.mk 2 name [] x [] fold [])
  | feature (n : Nat) (x : Str) : x ∈ [[112], [113]] → GC lab n (.mk 3 [102, 101, 97, 116] [] x [] false [])
  | same (n : Nat) (name l arg : Str) : name ∈ attr2 → lab l → arg ∈ attr2 → GC lab n (.mk 4 name arg [] l false [])
  | region (n : Nat) (ty : Str) : ty ∈ types3 → GC lab n (.mk 5 ty [] [] [] false [])
  | keyed (n : Nat) (ty x : Str) : ty ∈ types3 → x ∈ [[49], [50]] → GC lab n (.mk 5 ty [110] x [] false [])
  | neg (n : Nat) (k : Cond) : GC lab n k → GC lab (n + 1) (.mk 6 [] [] [] [] false [k])
  | two (n : Nat) (op : Int) (k1 k2 : Cond) : op = 7 ∨ op = 8 → GC lab n k1 → GC lab n k2 → GC lab (n + 1) (.mk op [] [] [] [] false [k1, k2])

/-- The condition of a token. -/
inductive GT (lab : Str → Prop) : Cond → Prop where
  | any : GT lab (.mk 1 [] [] [] [] false [])
  | plain (x : Str) (fold : Bool) : x ∈ vals8 → GT lab (.mk 2 [] [] x [] fold [])
  | inner (k : Cond) : GC lab 1 k → GT lab k

def reps7 : List (Int × Int) := [(0, 1), (0, -1), (1, -1), (2, 2), (0, 2), (1, 3), (0, 0)]

inductive GP (lab : Str → Prop) : Nat → Pat → Prop where
  | token (n : Nat) (c : Cond) (label : Str) : GT lab c → (label = [] ∨ lab label) → GP lab n (.mk 1 c label [] 0 0 [])
  | edge (n : Nat) (op : Int) (ty : Str) : op = 2 ∨ op = 3 → ty ∈ types3 → GP lab n (.mk op .zero [] ty 0 0 [])
  | two (n : Nat) (op : Int) (p q : Pat) : op = 4 ∨ op = 5 → GP lab n p → GP lab n q → GP lab (n + 1) (.mk op .zero [] [] 0 0 [p, q])
  | rep (n : Nat) (lo hi : Int) (p : Pat) : (lo, hi) ∈ reps7 → GP lab n p → GP lab (n + 1) (.mk 6 .zero [] [] lo hi [p])

theorem mem_two {α : Type} {a b x : α} {C : α → Prop} (h : x ∈ [a, b]) (ha : C a) (hb : C b) : C x := by
  rcases List.mem_cons.1 h with rfl | h
  · exact ha
  · obtain rfl := List.mem_singleton.1 h; exact hb
theorem mem_one {α : Type} {a x : α} {C : α → Prop} (h : x ∈ [a]) (ha : C a) : C x := by
  obtain rfl := List.mem_singleton.1 h; exact ha
variable {lab : Str → Prop}
theorem GC.ok {n : Nat} {c : Cond} (h : GC lab n c) : CondOK 1000 c := by
  induction h with
  | value | feature | same | region | keyed => exact cond_leaf
  | neg n k _ ih => exact cond_one (by decide) ih
  | two n op k1 k2 _ _ _ i1 i2 => exact .mk _ _ _ _ _ _ _ (by simp) fun x hx => mem_two hx i1 i2
theorem GT.ok {c : Cond} (h : GT lab c) : CondOK 1000 c := by
  cases h with
  | any => exact cond_leaf
  | plain => exact cond_leaf
  | inner _ h => exact h.ok
theorem GP.ok {n : Nat} {p : Pat} (h : GP lab n p) : PatOK 1000 p := by
  induction h with
  | token n c label hc _ => exact .mk _ _ _ _ _ _ _ hc.ok (by simp) fun x hx => by cases hx
  | edge => exact .mk _ _ _ _ _ _ _ cond_leaf (by simp) fun x hx => by cases hx
  | two n op p q _ _ _ i1 i2 => exact .mk _ _ _ _ _ _ _ cond_leaf (by simp) fun x hx => mem_two hx i1 i2
  | rep n lo hi p _ _ ih => exact .mk _ _ _ _ _ _ _ cond_leaf (by simp) fun x hx => mem_one hx ih

theorem zeroC_zero : zeroC .zero = true := rfl

theorem GP.shallow {n : Nat} {p : Pat} (h : GP lab n p) : ∀ d : Nat, d + n ≤ 100 → shallowB p d = true := by
  induction h with
  | token | edge => intro d hd; simp [shallowB, shallowBs]; omega
  | two n op p q _ _ _ i1 i2 => intro d hd; simp [shallowB, shallowBs, i1 (d + 1) (by omega), i2 (d + 1) (by omega)]; omega
  | rep n lo hi p _ _ ih => intro d hd; simp [shallowB, shallowBs, ih (d + 1) (by omega)]; omega
theorem GP.node {n : Nat} {p : Pat} (h : GP lab n p) : allP nodeB p = true := by
  induction h with
  | token n c label hc _ => simp [allP, allPs, nodeB]
  | edge n op ty ho _ => rcases ho with rfl | rfl <;> simp [allP, allPs, nodeB, zeroC_zero]
  | two n op p q ho _ _ i1 i2 => rcases ho with rfl | rfl <;> simp [allP, allPs, nodeB, zeroC_zero, i1, i2]
  | rep n lo hi p _ _ ih => simp [allP, allPs, nodeB, zeroC_zero, ih]
theorem types3_name : ∀ t, t ∈ types3 → nameB t = true := by decide
theorem GP.named {n : Nat} {p : Pat} (hl : ∀ l, lab l → nameB l = true) (h : GP lab n p) : allP namedB p = true := by
  induction h with
  | token n c label hc hlab =>
    rcases hlab with rfl | hlab
    · simp [allP, allPs, namedB]
    · simp [allP, allPs, namedB, hl _ hlab]
  | edge n op ty ho hty => rcases ho with rfl | rfl <;> simp [allP, allPs, namedB, types3_name _ hty]
  | two n op p q ho _ _ i1 i2 => rcases ho with rfl | rfl <;> simp [allP, allPs, namedB, i1, i2]
  | rep n lo hi p _ _ ih => simp [allP, allPs, namedB, ih]
theorem reps7_ok : ∀ r, r ∈ reps7 → 0 ≤ r.1 ∧ r.1 ≤ 16 ∧ (r.2 = -1 ∨ r.1 ≤ r.2 ∧ r.2 ≤ 16 ) := by decide
theorem GP.ranged {n : Nat} {p : Pat} (h : GP lab n p) : allP rangedB p = true := by
  induction h with
  | token => simp [allP, allPs, rangedB]
  | edge n op ty ho hty => rcases ho with rfl | rfl <;> simp [allP, allPs, rangedB]
  | two n op p q ho _ _ i1 i2 => rcases ho with rfl | rfl <;> simp [allP, allPs, rangedB, i1, i2]
  | rep n lo hi p hr _ ih =>
    have := reps7_ok _ hr
    simp only at this
    simp [allP, allPs, rangedB, ih, this.1, this.2.1]
    exact this.2.2
theorem GP.right {n : Nat} {p : Pat} (hn : n ≤ 90) (hl : ∀ l, lab l → nameB l = true) (h : GP lab n p) : rightP p = true := by
  simp [rightP, shapeP, h.shallow 1 (by omega), h.node, h.named hl, h.ranged]
end Go.Q

/- The codes of some functions, tied to the loaded program. No conditions. -/
namespace Go.Proofs
open Go.Abs Go.Abs.I
def r3_0 : L := [o 4 (a (b false))]
def r3_1 : L := [o 17 (m (t 0)),
  o 18 (ln (t 17) 9),
  o 19 (.binOp .gtr 3 (t 18) (k 420) 3)]
def r3_2 : L := [o 4 (a (b true))]
def r3_3 : L := [o 20 (.buildSlice 23 40 #[(0, (s #[34, 97, 34])), (1, (s #[91])), (2, (s #[93])), (3, (s #[40])), (4, (s #[41])), (5, (s #[120])), (6, (s #[58])), (7, (s #[58, 58])), (8, (s #[119, 111, 114, 100])), (9, (s #[61])), (10, (s #[33, 61])), (11, (s #[38])), (12, (s #[124])), (13, (s #[33])), (14, (s #[63])), (15, (s #[42])), (16, (s #[43])), (17, (s #[123])), (18, (s #[125])), (19, (s #[50])), (20, (s #[44])), (21, (s #[49])), (22, (s #[60])), (23, (s #[60, 47])), (24, (s #[62])), (25, (s #[115])), (26, (s #[119, 105, 116, 104, 105, 110])), (27, (s #[99, 111, 110, 116, 97, 105, 110, 105, 110, 103])), (28, (s #[115, 116, 114, 97, 116, 101, 103, 121])), (29, (s #[108, 111, 110, 103, 101, 115, 116])), (30, (s #[101, 97, 99, 104])), (31, (s #[46])), (32, (s #[100, 105, 115, 116, 97, 110, 99, 101])), (33, (s #[98, 111, 117, 110, 100])), (34, (s #[112, 97, 116, 104])), (35, (s #[105, 110])), (36, (s #[99, 111, 110, 116, 97, 105, 110, 115])), (37, (s #[37, 99])), (38, (s #[45])), (39, (s #[32]))]),
  o 5 (a (t 20))]
def r3_4 : L := [o 6 (a (s #[]))]
def r3_5 : L := [o 21 (m (t 1)),
  o 22 (.call ⟨.value (f 11), #[(t 21)], #[22]⟩),
  o 7 (a (t 22))]
def r3_6 : L := [o 23 (m (t 7)),
  o 24 (.call ⟨.value (f 12), #[(t 23), (k 24)], #[24, 3]⟩),
  o 8 (a (t 24))]
def r3_7 : L := [o 25 (m (t 8)),
  o 26 (.binOp .gtr 3 (t 25) (k 0) 3)]
def r3_8 : L := [o 29 (m (t 6)),
  o 30 (m (t 5)),
  o 31 (m (t 7)),
  o 32 (m (t 5)),
  o 33 (ln (t 32) 23),
  o 34 (.call ⟨.value (f 12), #[(t 31), (t 33)], #[24, 3]⟩),
  o 35 (.indexAddr 23 (t 30) (t 34)),
  o 36 (l 9 (t 35)),
  o 37 (.binOp .add 9 (t 29) (t 36) 9),
  o 6 (a (t 37))]
def r3_9 : L := [o 38 (m (t 7)),
  o 39 (.call ⟨.value (f 12), #[(t 38), (k 2)], #[24, 3]⟩),
  o 40 (.binOp .eql 3 (t 39) (k 1) 3)]
def r3_10 : L := [o 41 (m (t 6)),
  o 42 (.binOp .add 9 (t 41) (s #[32]) 9),
  o 6 (a (t 42))]
def r3_11 : L := [o 27 (m (t 8)),
  o 28 (.binOp .sub 3 (t 27) (k 1) 3),
  o 8 (a (t 28))]
def r3_12 : L := [o 43 (m (t 0)),
  o 44 (m (t 6)),
  o 45 (.buildSlice 23 2 #[(0, (t 43)), (1, (t 44))]),
  o 46 (ln (t 45) 23),
  o 47 (m (k 0))]
def r3_13 : L := [o 48 (.binOp .lss 3 (t 47) (t 46) 3)]
def r3_14 : L := [o 49 (.indexAddr 23 (t 45) (t 47)),
  o 50 (l 9 (t 49)),
  o 10 (a (t 50))]
def r3_15 : L := [o 52 (m (t 10)),
  o 53 (.call ⟨.value (f 13), #[(t 52)], #[9]⟩),
  o 51 (m (t 53)),
  o 54 (.extract (t 51) 0),
  o 55 (.extract (t 51) 1),
  o 56 (.extract (t 51) 2),
  o 11 (.alloc 38),
  q (.store 38 (t 11) (t 54)),
  o 12 (a (t 55)),
  o 13 (a (t 56))]
def r3_16 : L := [o 58 (m (t 10)),
  o 59 (.call ⟨.value (f 14), #[(t 58)], #[9]⟩),
  o 57 (m (t 59)),
  o 60 (.extract (t 57) 0),
  o 61 (.extract (t 57) 1),
  o 62 (.extract (t 57) 2),
  o 14 (.alloc 38),
  q (.store 38 (t 14) (t 60)),
  o 15 (a (t 61)),
  o 16 (a (t 62))]
def r3_17 : L := [o 63 (m (t 13)),
  o 64 (m (t 16)),
  o 65 (.binOp .neq 39 (t 63) (t 64) 39),
  o 66 (m (t 65)),
  y 67 (m (t 12)) 66 false,
  y 68 (m (t 15)) 66 false,
  y 69 (.binOp .neq 3 (t 67) (t 68) 3) 66 false,
  o 70 (.pick (t 66) (b true) (t 69)),
  o 71 (m (t 70)),
  y 72 (l 38 (t 11)) 71 false,
  y 73 (l 38 (t 14)) 71 false,
  y 74 (.call ⟨.value (f 15), #[(t 72), (t 73)], #[38, 38]⟩) 71 false,
  y 75 (.unOp .not 4 (t 74)) 71 false,
  o 76 (.pick (t 71) (b true) (t 75))]
def r3_18 : L := [o 4 (a (b false))]
def r3_19 : L := [o 77 (.binOp .add 3 (t 47) (k 1) 3),
  o 47 (m (t 77))]
def r3_20 : L := [o 78 (.call ⟨.value (f 16), #[], #[]⟩),
  o 4 (a (t 78))]
def ir3 : ACode := .seq (.ops r3_0) (.seq (.seq (.ops r3_1) (.cond (t 19) (.seq (.ops r3_2) (.ret)) (.skip))) (.seq (.ops r3_3) (.seq (.ops r3_4) (.seq (.ops r3_5) (.seq (.seq (.ops r3_6) (.block 0 (.loop (.seq (.seq (.ops r3_7) (.cond (t 26) (.skip) (.exit 0))) (.seq (.block 1 (.seq (.ops r3_8) (.seq (.ops r3_9) (.cond (t 40) (.ops r3_10) (.skip))))) (.ops r3_11)))))) (.seq (.seq (.ops r3_12) (.block 2 (.loop (.seq (.ops r3_13) (.seq (.cond (t 48) (.skip) (.exit 2)) (.seq (.block 3 (.seq (.ops r3_14) (.seq (.ops r3_15) (.seq (.ops r3_16) (.seq (.ops r3_17) (.cond (t 76) (.seq (.ops r3_18) (.ret)) (.skip))))))) (.ops r3_19))))))) (.seq (.ops r3_20) (.ret))))))))
theorem en3 : En ir3 79 [.tmp 4] 3 := acalls_enter_b mixed Tryz.func3 Tryz.ntmps3 (by kernel_rfl) (by kernel_rfl)
theorem ca3 : Ca 3 := cal Tryz.func3
def r11_0 : L := [o 2 (a (.const (.pointer none)))]
def r11_1 : L := [o 3 (m (t 0)),
  o 4 (ln (t 3) 22),
  o 5 (.binOp .gtr 3 (t 4) (k 120) 3)]
def r11_2 : L := [o 6 (m (t 0)),
  o 7 (.slice 22 (t 6) none (some (k 120)) none),
  o 0 (a (t 7))]
def r11_3 : L := [o 8 (m (t 0)),
  o 9 (.build 69 #[(0, (t 8))]),
  o 10 (.box 69 (t 9)),
  o 2 (a (t 10))]
def ir11 : ACode := .seq (.ops r11_0) (.seq (.seq (.ops r11_1) (.cond (t 5) (.ops r11_2) (.skip))) (.seq (.ops r11_3) (.ret)))
theorem en11 : En ir11 11 [.tmp 2] 11 := acalls_enter_b mixed Tryz.func11 Tryz.ntmps11 (by kernel_rfl) (by kernel_rfl)
theorem ca11 : Ca 11 := cal Tryz.func11
def r12_0 : L := [o 4 (a (k 0))]
def r12_1 : L := [o 5 (m (t 0)),
  o 6 (.nilCheck (t 5)),
  o 7 (fa 69 (t 6) 1),
  o 8 (l 3 (t 7)),
  o 9 (m (t 0)),
  o 10 (.nilCheck (t 9)),
  o 11 (fa 69 (t 10) 0),
  o 12 (l 22 (t 11)),
  o 13 (ln (t 12) 22),
  o 14 (.binOp .geq 3 (t 8) (t 13) 3)]
def r12_2 : L := [o 4 (a (k 0))]
def r12_3 : L := [o 15 (m (t 0)),
  o 16 (.nilCheck (t 15)),
  o 17 (fa 69 (t 16) 1),
  o 18 (l 3 (t 17)),
  o 19 (.binOp .add 3 (t 18) (k 1) 3),
  o 20 (.nilCheck (t 15)),
  o 21 (fa 69 (t 20) 1),
  q (.store 3 (t 21) (t 19))]
def r12_4 : L := [o 22 (m (t 0)),
  o 23 (.nilCheck (t 22)),
  o 24 (fa 69 (t 23) 0),
  o 25 (l 22 (t 24)),
  o 26 (m (t 0)),
  o 27 (.nilCheck (t 26)),
  o 28 (fa 69 (t 27) 1),
  o 29 (l 3 (t 28)),
  o 30 (.binOp .sub 3 (t 29) (k 1) 3),
  o 31 (.indexAddr 22 (t 25) (t 30)),
  o 32 (l 3 (t 31)),
  o 33 (m (t 1)),
  o 34 (.call ⟨.value (f 19), #[(t 32), (t 33)], #[3, 3]⟩),
  o 4 (a (t 34))]
def ir12 : ACode := .seq (.ops r12_0) (.seq (.seq (.ops r12_1) (.cond (t 14) (.seq (.ops r12_2) (.ret)) (.skip))) (.seq (.ops r12_3) (.seq (.ops r12_4) (.ret))))
theorem en12 : En ir12 35 [.tmp 4] 12 := acalls_enter_b mixed Tryz.func12 Tryz.ntmps12 (by kernel_rfl) (by kernel_rfl)
theorem ca12 : Ca 12 := cal Tryz.func12
def r19_0 : L := [o 4 (a (k 0))]
def r19_1 : L := [o 5 (m (t 1)),
  o 6 (.binOp .lss 3 (t 5) (k 1) 3)]
def r19_2 : L := [o 4 (a (k 0))]
def r19_3 : L := [o 7 (m (t 0)),
  o 8 (m (t 1)),
  o 9 (.binOp .rem 3 (t 7) (t 8) 3),
  o 0 (a (t 9))]
def r19_4 : L := [o 10 (m (t 0)),
  o 11 (.binOp .lss 3 (t 10) (k 0) 3)]
def r19_5 : L := [o 12 (m (t 0)),
  o 13 (m (t 1)),
  o 14 (.binOp .add 3 (t 12) (t 13) 3),
  o 0 (a (t 14))]
def r19_6 : L := [o 15 (m (t 0)),
  o 4 (a (t 15))]
def ir19 : ACode := .seq (.ops r19_0) (.seq (.seq (.ops r19_1) (.cond (t 6) (.seq (.ops r19_2) (.ret)) (.skip))) (.seq (.ops r19_3) (.seq (.seq (.ops r19_4) (.cond (t 11) (.ops r19_5) (.skip))) (.seq (.ops r19_6) (.ret)))))
theorem en19 : En ir19 16 [.tmp 4] 19 := acalls_enter_b mixed Tryz.func19 Tryz.ntmps19 (by kernel_rfl) (by kernel_rfl)
theorem ca19 : Ca 19 := cal Tryz.func19
def r16_0 : L := [o 0 (a (b false))]
def r16_1 : L := [o 5 (.call ⟨.value (f 13), #[(s #[60, 115, 62, 32, 91, 119, 111, 114, 100, 61, 34, 84, 104, 101, 34, 37, 99, 93])], #[9]⟩),
  o 4 (m (t 5)),
  o 6 (.extract (t 4) 0),
  o 7 (.extract (t 4) 1),
  o 8 (.extract (t 4) 2),
  o 1 (.alloc 38),
  q (.store 38 (t 1) (t 6)),
  o 2 (a (t 7)),
  o 3 (a (t 8))]
def r16_2 : L := [o 9 (m (t 3)),
  o 10 (.binOp .eql 39 (t 9) (k 0) 39),
  o 11 (m (t 10)),
  y 12 (m (t 2)) 11 true,
  y 13 (.binOp .eql 3 (t 12) (k 0) 3) 11 true,
  o 14 (.pick (t 11) (t 13) (b false)),
  o 15 (m (t 14)),
  y 16 (fa 38 (t 1) 0) 15 true,
  y 17 (fa 32 (t 16) 0) 15 true,
  y 18 (l 3 (t 17)) 15 true,
  y 19 (.binOp .eql 3 (t 18) (k 4) 3) 15 true,
  o 20 (.pick (t 15) (t 19) (b false)),
  o 21 (m (t 20)),
  y 22 (fa 38 (t 1) 0) 21 true,
  y 23 (fa 32 (t 22) 6) 21 true,
  y 24 (l 30 (t 23)) 21 true,
  y 25 (ln (t 24) 30) 21 true,
  y 26 (.binOp .eql 3 (t 25) (k 2) 3) 21 true,
  o 27 (.pick (t 21) (t 26) (b false)),
  o 28 (m (t 27)),
  y 29 (fa 38 (t 1) 0) 28 true,
  y 30 (fa 32 (t 29) 6) 28 true,
  y 31 (l 30 (t 30)) 28 true,
  y 32 (.indexAddr 30 (t 31) (k 1)) 28 true,
  y 33 (fa 32 (t 32) 1) 28 true,
  y 34 (fa 29 (t 33) 5) 28 true,
  y 35 (l 4 (t 34)) 28 true,
  o 36 (.pick (t 28) (t 35) (b false)),
  o 37 (m (t 36)),
  y 38 (fa 38 (t 1) 0) 37 true,
  y 39 (l 32 (t 38)) 37 true,
  y 40 (.call ⟨.value (f 28), #[(t 39)], #[32]⟩) 37 true,
  y 41 (.binOp .eql 3 (t 40) (k 2) 3) 37 true,
  o 42 (.pick (t 37) (t 41) (b false)),
  o 43 (m (t 42)),
  y 44 (l 38 (t 1)) 43 true,
  y 45 (.call ⟨.value (f 20), #[(t 44)], #[38]⟩) 43 true,
  y 46 (.binOp .eql 9 (t 45) (s #[60, 115, 62, 32, 91, 119, 111, 114, 100, 61, 34, 84, 104, 101, 34, 37, 99, 93]) 9) 43 true,
  o 47 (.pick (t 43) (t 46) (b false)),
  o 0 (a (t 47))]
def ir16 : ACode := .seq (.ops r16_0) (.seq (.ops r16_1) (.seq (.ops r16_2) (.ret)))
theorem en16 : En ir16 48 [.tmp 0] 16 := acalls_enter_b mixed Tryz.func16 Tryz.ntmps16 (by kernel_rfl) (by kernel_rfl)
theorem ca16 : Ca 16 := cal Tryz.func16
end Go.Proofs

/- The codes of some functions, tied to the loaded program. No conditions. -/
namespace Go.Proofs
open Go.Abs Go.Abs.I
def r15_0 : L := [o 2 (.box 38 (t 0)),
  o 3 (.box 38 (t 1)),
  o 4 (a (b false))]
def r15_1 : L := [o 6 (fa 38 (t 2) 0),
  o 7 (l 32 (t 6)),
  o 8 (fa 38 (t 3) 0),
  o 9 (l 32 (t 8)),
  o 10 (.call ⟨.value (f 23), #[(t 7), (t 9)], #[32, 32]⟩),
  o 11 (.unOp .not 4 (t 10)),
  o 12 (m (t 11)),
  y 13 (fa 38 (t 2) 1) 12 false,
  y 14 (l 35 (t 13)) 12 false,
  y 15 (fa 38 (t 3) 1) 12 false,
  y 16 (l 35 (t 15)) 12 false,
  y 17 (.call ⟨.value (f 48), #[(t 14), (t 16)], #[35, 35]⟩) 12 false,
  y 18 (.unOp .not 4 (t 17)) 12 false,
  o 19 (.pick (t 12) (b true) (t 18)),
  o 20 (m (t 19)),
  y 21 (fa 38 (t 2) 3) 20 false,
  y 22 (l 3 (t 21)) 20 false,
  y 23 (fa 38 (t 3) 3) 20 false,
  y 24 (l 3 (t 23)) 20 false,
  y 25 (.binOp .neq 3 (t 22) (t 24) 3) 20 false,
  o 26 (.pick (t 20) (b true) (t 25)),
  o 27 (m (t 26)),
  y 28 (fa 38 (t 2) 2) 27 false,
  y 29 (l 36 (t 28)) 27 false,
  y 30 (ln (t 29) 36) 27 false,
  y 31 (fa 38 (t 3) 2) 27 false,
  y 32 (l 36 (t 31)) 27 false,
  y 33 (ln (t 32) 36) 27 false,
  y 34 (.binOp .neq 3 (t 30) (t 33) 3) 27 false,
  o 35 (.pick (t 27) (b true) (t 34))]
def r15_2 : L := [o 4 (a (b false))]
def r15_3 : L := [o 36 (fa 38 (t 2) 2),
  o 37 (l 36 (t 36)),
  o 38 (ln (t 37) 36),
  o 39 (m (k 0))]
def r15_4 : L := [o 40 (.binOp .lss 3 (t 39) (t 38) 3)]
def r15_5 : L := [o 41 (m (t 39)),
  o 5 (a (t 41))]
def r15_6 : L := [o 42 (fa 38 (t 2) 2),
  o 43 (l 36 (t 42)),
  o 44 (m (t 5)),
  o 45 (.indexAddr 36 (t 43) (t 44)),
  o 46 (l 62 (t 45)),
  o 47 (fa 38 (t 3) 2),
  o 48 (l 36 (t 47)),
  o 49 (m (t 5)),
  o 50 (.indexAddr 36 (t 48) (t 49)),
  o 51 (l 62 (t 50)),
  o 52 (.binOp .neq 62 (t 46) (t 51) 62)]
def r15_7 : L := [o 4 (a (b false))]
def r15_8 : L := [o 53 (.binOp .add 3 (t 39) (k 1) 3),
  o 39 (m (t 53))]
def r15_9 : L := [o 4 (a (b true))]
def ir15 : ACode := .seq (.ops r15_0) (.seq (.seq (.ops r15_1) (.cond (t 35) (.seq (.ops r15_2) (.ret)) (.skip))) (.seq (.seq (.ops r15_3) (.block 0 (.loop (.seq (.ops r15_4) (.seq (.cond (t 40) (.skip) (.exit 0)) (.seq (.block 1 (.seq (.ops r15_5) (.seq (.ops r15_6) (.cond (t 52) (.seq (.ops r15_7) (.ret)) (.skip))))) (.ops r15_8))))))) (.seq (.ops r15_9) (.ret))))
theorem en15 : En ir15 54 [.tmp 4] 15 := acalls_enter_b mixed Tryz.func15 Tryz.ntmps15 (by kernel_rfl) (by kernel_rfl)
theorem ca15 : Ca 15 := cal Tryz.func15
def r23_0 : L := [o 2 (.box 32 (t 0)),
  o 3 (.box 32 (t 1)),
  o 4 (a (b false))]
def r23_1 : L := [o 6 (fa 32 (t 2) 0),
  o 7 (l 3 (t 6)),
  o 8 (fa 32 (t 3) 0),
  o 9 (l 3 (t 8)),
  o 10 (.binOp .neq 3 (t 7) (t 9) 3),
  o 11 (m (t 10)),
  y 12 (fa 32 (t 2) 1) 11 false,
  y 13 (l 29 (t 12)) 11 false,
  y 14 (fa 32 (t 3) 1) 11 false,
  y 15 (l 29 (t 14)) 11 false,
  y 16 (.call ⟨.value (f 75), #[(t 13), (t 15)], #[29, 29]⟩) 11 false,
  y 17 (.unOp .not 4 (t 16)) 11 false,
  o 18 (.pick (t 11) (b true) (t 17)),
  o 19 (m (t 18)),
  y 20 (fa 32 (t 2) 2) 19 false,
  y 21 (l 9 (t 20)) 19 false,
  y 22 (fa 32 (t 3) 2) 19 false,
  y 23 (l 9 (t 22)) 19 false,
  y 24 (.binOp .neq 9 (t 21) (t 23) 9) 19 false,
  o 25 (.pick (t 19) (b true) (t 24)),
  o 26 (m (t 25)),
  y 27 (fa 32 (t 2) 3) 26 false,
  y 28 (l 9 (t 27)) 26 false,
  y 29 (fa 32 (t 3) 3) 26 false,
  y 30 (l 9 (t 29)) 26 false,
  y 31 (.binOp .neq 9 (t 28) (t 30) 9) 26 false,
  o 32 (.pick (t 26) (b true) (t 31)),
  o 33 (m (t 32)),
  y 34 (fa 32 (t 2) 4) 33 false,
  y 35 (l 3 (t 34)) 33 false,
  y 36 (fa 32 (t 3) 4) 33 false,
  y 37 (l 3 (t 36)) 33 false,
  y 38 (.binOp .neq 3 (t 35) (t 37) 3) 33 false,
  o 39 (.pick (t 33) (b true) (t 38)),
  o 40 (m (t 39)),
  y 41 (fa 32 (t 2) 5) 40 false,
  y 42 (l 3 (t 41)) 40 false,
  y 43 (fa 32 (t 3) 5) 40 false,
  y 44 (l 3 (t 43)) 40 false,
  y 45 (.binOp .neq 3 (t 42) (t 44) 3) 40 false,
  o 46 (.pick (t 40) (b true) (t 45)),
  o 47 (m (t 46)),
  y 48 (fa 32 (t 2) 6) 47 false,
  y 49 (l 30 (t 48)) 47 false,
  y 50 (ln (t 49) 30) 47 false,
  y 51 (fa 32 (t 3) 6) 47 false,
  y 52 (l 30 (t 51)) 47 false,
  y 53 (ln (t 52) 30) 47 false,
  y 54 (.binOp .neq 3 (t 50) (t 53) 3) 47 false,
  o 55 (.pick (t 47) (b true) (t 54))]
def r23_2 : L := [o 4 (a (b false))]
def r23_3 : L := [o 56 (fa 32 (t 2) 6),
  o 57 (l 30 (t 56)),
  o 58 (ln (t 57) 30),
  o 59 (m (k 0))]
def r23_4 : L := [o 60 (.binOp .lss 3 (t 59) (t 58) 3)]
def r23_5 : L := [o 61 (m (t 59)),
  o 5 (a (t 61))]
def r23_6 : L := [o 62 (fa 32 (t 2) 6),
  o 63 (l 30 (t 62)),
  o 64 (m (t 5)),
  o 65 (.indexAddr 30 (t 63) (t 64)),
  o 66 (l 32 (t 65)),
  o 67 (fa 32 (t 3) 6),
  o 68 (l 30 (t 67)),
  o 69 (m (t 5)),
  o 70 (.indexAddr 30 (t 68) (t 69)),
  o 71 (l 32 (t 70)),
  o 72 (.call ⟨.value (f 23), #[(t 66), (t 71)], #[32, 32]⟩),
  o 73 (.unOp .not 4 (t 72))]
def r23_7 : L := [o 4 (a (b false))]
def r23_8 : L := [o 74 (.binOp .add 3 (t 59) (k 1) 3),
  o 59 (m (t 74))]
def r23_9 : L := [o 4 (a (b true))]
def ir23 : ACode := .seq (.ops r23_0) (.seq (.seq (.ops r23_1) (.cond (t 55) (.seq (.ops r23_2) (.ret)) (.skip))) (.seq (.seq (.ops r23_3) (.block 0 (.loop (.seq (.ops r23_4) (.seq (.cond (t 60) (.skip) (.exit 0)) (.seq (.block 1 (.seq (.ops r23_5) (.seq (.ops r23_6) (.cond (t 73) (.seq (.ops r23_7) (.ret)) (.skip))))) (.ops r23_8))))))) (.seq (.ops r23_9) (.ret))))
theorem en23 : En ir23 75 [.tmp 4] 23 := acalls_enter_b mixed Tryz.func23 Tryz.ntmps23 (by kernel_rfl) (by kernel_rfl)
theorem ca23 : Ca 23 := cal Tryz.func23
def r24_0 : L := [o 4 (a (b false))]
def r24_1 : L := [o 6 (m (t 0)),
  o 7 (ln (t 6) 23),
  o 8 (m (t 1)),
  o 9 (ln (t 8) 23),
  o 10 (.binOp .neq 3 (t 7) (t 9) 3)]
def r24_2 : L := [o 4 (a (b false))]
def r24_3 : L := [o 11 (m (t 0)),
  o 12 (ln (t 11) 23),
  o 13 (m (k 0))]
def r24_4 : L := [o 14 (.binOp .lss 3 (t 13) (t 12) 3)]
def r24_5 : L := [o 15 (m (t 13)),
  o 5 (a (t 15))]
def r24_6 : L := [o 16 (m (t 0)),
  o 17 (m (t 5)),
  o 18 (.indexAddr 23 (t 16) (t 17)),
  o 19 (l 9 (t 18)),
  o 20 (m (t 1)),
  o 21 (m (t 5)),
  o 22 (.indexAddr 23 (t 20) (t 21)),
  o 23 (l 9 (t 22)),
  o 24 (.binOp .neq 9 (t 19) (t 23) 9)]
def r24_7 : L := [o 4 (a (b false))]
def r24_8 : L := [o 25 (.binOp .add 3 (t 13) (k 1) 3),
  o 13 (m (t 25))]
def r24_9 : L := [o 4 (a (b true))]
def ir24 : ACode := .seq (.ops r24_0) (.seq (.seq (.ops r24_1) (.cond (t 10) (.seq (.ops r24_2) (.ret)) (.skip))) (.seq (.seq (.ops r24_3) (.block 0 (.loop (.seq (.ops r24_4) (.seq (.cond (t 14) (.skip) (.exit 0)) (.seq (.block 1 (.seq (.ops r24_5) (.seq (.ops r24_6) (.cond (t 24) (.seq (.ops r24_7) (.ret)) (.skip))))) (.ops r24_8))))))) (.seq (.ops r24_9) (.ret))))
theorem en24 : En ir24 26 [.tmp 4] 24 := acalls_enter_b mixed Tryz.func24 Tryz.ntmps24 (by kernel_rfl) (by kernel_rfl)
theorem ca24 : Ca 24 := cal Tryz.func24
def r48_0 : L := [o 2 (.box 35 (t 0)),
  o 3 (.box 35 (t 1)),
  o 4 (a (b false))]
def r48_1 : L := [o 6 (fa 35 (t 2) 0),
  o 7 (l 3 (t 6)),
  o 8 (fa 35 (t 3) 0),
  o 9 (l 3 (t 8)),
  o 10 (.binOp .neq 3 (t 7) (t 9) 3),
  o 11 (m (t 10)),
  y 12 (fa 35 (t 2) 1) 11 false,
  y 13 (l 9 (t 12)) 11 false,
  y 14 (fa 35 (t 3) 1) 11 false,
  y 15 (l 9 (t 14)) 11 false,
  y 16 (.binOp .neq 9 (t 13) (t 15) 9) 11 false,
  o 17 (.pick (t 11) (b true) (t 16)),
  o 18 (m (t 17)),
  y 19 (fa 35 (t 2) 2) 18 false,
  y 20 (l 9 (t 19)) 18 false,
  y 21 (fa 35 (t 3) 2) 18 false,
  y 22 (l 9 (t 21)) 18 false,
  y 23 (.binOp .neq 9 (t 20) (t 22) 9) 18 false,
  o 24 (.pick (t 18) (b true) (t 23)),
  o 25 (m (t 24)),
  y 26 (fa 35 (t 2) 3) 25 false,
  y 27 (l 9 (t 26)) 25 false,
  y 28 (fa 35 (t 3) 3) 25 false,
  y 29 (l 9 (t 28)) 25 false,
  y 30 (.binOp .neq 9 (t 27) (t 29) 9) 25 false,
  o 31 (.pick (t 25) (b true) (t 30)),
  o 32 (m (t 31)),
  y 33 (fa 35 (t 2) 4) 32 false,
  y 34 (l 9 (t 33)) 32 false,
  y 35 (fa 35 (t 3) 4) 32 false,
  y 36 (l 9 (t 35)) 32 false,
  y 37 (.binOp .neq 9 (t 34) (t 36) 9) 32 false,
  o 38 (.pick (t 32) (b true) (t 37)),
  o 39 (m (t 38)),
  y 40 (fa 35 (t 2) 5) 39 false,
  y 41 (l 9 (t 40)) 39 false,
  y 42 (fa 35 (t 3) 5) 39 false,
  y 43 (l 9 (t 42)) 39 false,
  y 44 (.binOp .neq 9 (t 41) (t 43) 9) 39 false,
  o 45 (.pick (t 39) (b true) (t 44)),
  o 46 (m (t 45)),
  y 47 (fa 35 (t 2) 6) 46 false,
  y 48 (l 4 (t 47)) 46 false,
  y 49 (fa 35 (t 3) 6) 46 false,
  y 50 (l 4 (t 49)) 46 false,
  y 51 (.binOp .neq 4 (t 48) (t 50) 4) 46 false,
  o 52 (.pick (t 46) (b true) (t 51)),
  o 53 (m (t 52)),
  y 54 (fa 35 (t 2) 7) 53 false,
  y 55 (l 3 (t 54)) 53 false,
  y 56 (fa 35 (t 3) 7) 53 false,
  y 57 (l 3 (t 56)) 53 false,
  y 58 (.binOp .neq 3 (t 55) (t 57) 3) 53 false,
  o 59 (.pick (t 53) (b true) (t 58)),
  o 60 (m (t 59)),
  y 61 (fa 35 (t 2) 8) 60 false,
  y 62 (l 3 (t 61)) 60 false,
  y 63 (fa 35 (t 3) 8) 60 false,
  y 64 (l 3 (t 63)) 60 false,
  y 65 (.binOp .neq 3 (t 62) (t 64) 3) 60 false,
  o 66 (.pick (t 60) (b true) (t 65)),
  o 67 (m (t 66)),
  y 68 (fa 35 (t 2) 9) 67 false,
  y 69 (l 23 (t 68)) 67 false,
  y 70 (fa 35 (t 3) 9) 67 false,
  y 71 (l 23 (t 70)) 67 false,
  y 72 (.call ⟨.value (f 24), #[(t 69), (t 71)], #[23, 23]⟩) 67 false,
  y 73 (.unOp .not 4 (t 72)) 67 false,
  o 74 (.pick (t 67) (b true) (t 73)),
  o 75 (m (t 74)),
  y 76 (fa 35 (t 2) 10) 75 false,
  y 77 (l 33 (t 76)) 75 false,
  y 78 (ln (t 77) 33) 75 false,
  y 79 (fa 35 (t 3) 10) 75 false,
  y 80 (l 33 (t 79)) 75 false,
  y 81 (ln (t 80) 33) 75 false,
  y 82 (.binOp .neq 3 (t 78) (t 81) 3) 75 false,
  o 83 (.pick (t 75) (b true) (t 82))]
def r48_2 : L := [o 4 (a (b false))]
def r48_3 : L := [o 84 (fa 35 (t 2) 10),
  o 85 (l 33 (t 84)),
  o 86 (ln (t 85) 33),
  o 87 (m (k 0))]
def r48_4 : L := [o 88 (.binOp .lss 3 (t 87) (t 86) 3)]
def r48_5 : L := [o 89 (m (t 87)),
  o 5 (a (t 89))]
def r48_6 : L := [o 90 (fa 35 (t 2) 10),
  o 91 (l 33 (t 90)),
  o 92 (m (t 5)),
  o 93 (.indexAddr 33 (t 91) (t 92)),
  o 94 (l 35 (t 93)),
  o 95 (fa 35 (t 3) 10),
  o 96 (l 33 (t 95)),
  o 97 (m (t 5)),
  o 98 (.indexAddr 33 (t 96) (t 97)),
  o 99 (l 35 (t 98)),
  o 100 (.call ⟨.value (f 48), #[(t 94), (t 99)], #[35, 35]⟩),
  o 101 (.unOp .not 4 (t 100))]
def r48_7 : L := [o 4 (a (b false))]
def r48_8 : L := [o 102 (.binOp .add 3 (t 87) (k 1) 3),
  o 87 (m (t 102))]
def r48_9 : L := [o 4 (a (b true))]
def ir48 : ACode := .seq (.ops r48_0) (.seq (.seq (.ops r48_1) (.cond (t 83) (.seq (.ops r48_2) (.ret)) (.skip))) (.seq (.seq (.ops r48_3) (.block 0 (.loop (.seq (.ops r48_4) (.seq (.cond (t 88) (.skip) (.exit 0)) (.seq (.block 1 (.seq (.ops r48_5) (.seq (.ops r48_6) (.cond (t 101) (.seq (.ops r48_7) (.ret)) (.skip))))) (.ops r48_8))))))) (.seq (.ops r48_9) (.ret))))
theorem en48 : En ir48 103 [.tmp 4] 48 := acalls_enter_b mixed Tryz.func48 Tryz.ntmps48 (by kernel_rfl) (by kernel_rfl)
theorem ca48 : Ca 48 := cal Tryz.func48
def r75_0 : L := [o 2 (.box 29 (t 0)),
  o 3 (.box 29 (t 1)),
  o 4 (a (b false))]
def r75_1 : L := [o 6 (fa 29 (t 2) 0),
  o 7 (l 3 (t 6)),
  o 8 (fa 29 (t 3) 0),
  o 9 (l 3 (t 8)),
  o 10 (.binOp .neq 3 (t 7) (t 9) 3),
  o 11 (m (t 10)),
  y 12 (fa 29 (t 2) 1) 11 false,
  y 13 (l 9 (t 12)) 11 false,
  y 14 (fa 29 (t 3) 1) 11 false,
  y 15 (l 9 (t 14)) 11 false,
  y 16 (.binOp .neq 9 (t 13) (t 15) 9) 11 false,
  o 17 (.pick (t 11) (b true) (t 16)),
  o 18 (m (t 17)),
  y 19 (fa 29 (t 2) 2) 18 false,
  y 20 (l 9 (t 19)) 18 false,
  y 21 (fa 29 (t 3) 2) 18 false,
  y 22 (l 9 (t 21)) 18 false,
  y 23 (.binOp .neq 9 (t 20) (t 22) 9) 18 false,
  o 24 (.pick (t 18) (b true) (t 23)),
  o 25 (m (t 24)),
  y 26 (fa 29 (t 2) 3) 25 false,
  y 27 (l 9 (t 26)) 25 false,
  y 28 (fa 29 (t 3) 3) 25 false,
  y 29 (l 9 (t 28)) 25 false,
  y 30 (.binOp .neq 9 (t 27) (t 29) 9) 25 false,
  o 31 (.pick (t 25) (b true) (t 30)),
  o 32 (m (t 31)),
  y 33 (fa 29 (t 2) 4) 32 false,
  y 34 (l 9 (t 33)) 32 false,
  y 35 (fa 29 (t 3) 4) 32 false,
  y 36 (l 9 (t 35)) 32 false,
  y 37 (.binOp .neq 9 (t 34) (t 36) 9) 32 false,
  o 38 (.pick (t 32) (b true) (t 37)),
  o 39 (m (t 38)),
  y 40 (fa 29 (t 2) 5) 39 false,
  y 41 (l 4 (t 40)) 39 false,
  y 42 (fa 29 (t 3) 5) 39 false,
  y 43 (l 4 (t 42)) 39 false,
  y 44 (.binOp .neq 4 (t 41) (t 43) 4) 39 false,
  o 45 (.pick (t 39) (b true) (t 44)),
  o 46 (m (t 45)),
  y 47 (fa 29 (t 2) 6) 46 false,
  y 48 (l 27 (t 47)) 46 false,
  y 49 (ln (t 48) 27) 46 false,
  y 50 (fa 29 (t 3) 6) 46 false,
  y 51 (l 27 (t 50)) 46 false,
  y 52 (ln (t 51) 27) 46 false,
  y 53 (.binOp .neq 3 (t 49) (t 52) 3) 46 false,
  o 54 (.pick (t 46) (b true) (t 53))]
def r75_2 : L := [o 4 (a (b false))]
def r75_3 : L := [o 55 (fa 29 (t 2) 6),
  o 56 (l 27 (t 55)),
  o 57 (ln (t 56) 27),
  o 58 (m (k 0))]
def r75_4 : L := [o 59 (.binOp .lss 3 (t 58) (t 57) 3)]
def r75_5 : L := [o 60 (m (t 58)),
  o 5 (a (t 60))]
def r75_6 : L := [o 61 (fa 29 (t 2) 6),
  o 62 (l 27 (t 61)),
  o 63 (m (t 5)),
  o 64 (.indexAddr 27 (t 62) (t 63)),
  o 65 (l 29 (t 64)),
  o 66 (fa 29 (t 3) 6),
  o 67 (l 27 (t 66)),
  o 68 (m (t 5)),
  o 69 (.indexAddr 27 (t 67) (t 68)),
  o 70 (l 29 (t 69)),
  o 71 (.call ⟨.value (f 75), #[(t 65), (t 70)], #[29, 29]⟩),
  o 72 (.unOp .not 4 (t 71))]
def r75_7 : L := [o 4 (a (b false))]
def r75_8 : L := [o 73 (.binOp .add 3 (t 58) (k 1) 3),
  o 58 (m (t 73))]
def r75_9 : L := [o 4 (a (b true))]
def ir75 : ACode := .seq (.ops r75_0) (.seq (.seq (.ops r75_1) (.cond (t 54) (.seq (.ops r75_2) (.ret)) (.skip))) (.seq (.seq (.ops r75_3) (.block 0 (.loop (.seq (.ops r75_4) (.seq (.cond (t 59) (.skip) (.exit 0)) (.seq (.block 1 (.seq (.ops r75_5) (.seq (.ops r75_6) (.cond (t 72) (.seq (.ops r75_7) (.ret)) (.skip))))) (.ops r75_8))))))) (.seq (.ops r75_9) (.ret))))
theorem en75 : En ir75 74 [.tmp 4] 75 := acalls_enter_b mixed Tryz.func75 Tryz.ntmps75 (by kernel_rfl) (by kernel_rfl)
theorem ca75 : Ca 75 := cal Tryz.func75
end Go.Proofs

/- What queries look like as abstract values, and how a reader stands in memory. No conditions. -/
namespace Go.Abs
open Go.Q

mutual
def encC : Cond → List AVal
  | .mk op name arg value label fold kids => [.int .i64 op, .str name, .str arg, .str value, .str label, .bool fold, .sl 7 (encCs kids) .frz]
def encCs : List Cond → List (List AVal)
  | [] => []
  | c :: r => encC c :: encCs r
end
mutual
def encP : Pat → List AVal
  | .mk op cond label region lo hi kids => .int .i64 op :: (encC cond ++ [.str label, .str region, .int .i64 lo, .int .i64 hi, .sl 13 (encPs kids) .frz])
def encPs : List Pat → List (List AVal)
  | [] => []
  | c :: r => encP c :: encPs r
end
def encSs (l : List Str) : List (List AVal) := l.map fun s => [.str s]
mutual
def encG : Con → List AVal
  | .mk op a b name arg value fold lo hi args kids => [.int .i64 op, .str a, .str b, .str name, .str arg, .str value, .bool fold, .int .i64 lo, .int .i64 hi, .sl 1 (encSs args) .frz, .sl 11 (encGs kids) .frz]
def encGs : List Con → List (List AVal)
  | [] => []
  | c :: r => encG c :: encGs r
end
def encF : Flt → List AVal
  | ⟨op, neg, region⟩ => [.int .i64 op, .bool neg, .str region]
def encFs (l : List Flt) : List (List AVal) := l.map encF
def encQ : Qry → List AVal
  | ⟨p, g, fs, k⟩ => encP p ++ (encG g ++ [.sl 3 (encFs fs) .frz, .int .i64 k])

theorem encCs_map : ∀ l, encCs l = l.map encC
  | [] => rfl
  | c :: r => by rw [encCs, encCs_map r]; rfl
theorem encPs_map : ∀ l, encPs l = l.map encP
  | [] => rfl
  | c :: r => by rw [encPs, encPs_map r]; rfl
theorem encGs_map : ∀ l, encGs l = l.map encG
  | [] => rfl
  | c :: r => by rw [encGs, encGs_map r]; rfl
theorem encCs_length (l : List Cond) : (encCs l).length = l.length := by rw [encCs_map, List.length_map]
theorem encPs_length (l : List Pat) : (encPs l).length = l.length := by rw [encPs_map, List.length_map]
theorem encGs_length (l : List Con) : (encGs l).length = l.length := by rw [encGs_map, List.length_map]
theorem encCs_append (l m : List Cond) : encCs (l ++ m) = encCs l ++ encCs m := by simp [encCs_map]
theorem encPs_append (l m : List Pat) : encPs (l ++ m) = encPs l ++ encPs m := by simp [encPs_map]
theorem encGs_append (l m : List Con) : encGs (l ++ m) = encGs l ++ encGs m := by simp [encGs_map]

/-- A reader in memory. -/
def rdr (s : Str) (st : S) : AObj := .box 77 [.str s, .int .i64 st.2, .int .i64 st.1.kind, .str st.1.text, .int .i64 st.1.pos]

/-- The error that ends the reading. -/
def fault (pos : Nat) (e : Int) : AVal := .iface 71 (.agg [.int .i64 pos, .int .i64 e])

/-- What a reading function does with its reader at g. -/
def RP {α : Type} (s : Str) (g : Nat) (h : AHeap) (enc : α → AVal) (r : R α) (out : AOut) (h' : AHeap) : Prop := match r with
  | .ok a st => V s st ∧ out = .ret (enc a) ∧ h' = h.set g (rdr s st)
  | .bad p e => ∃ st, out = .panic (fault p e) ∧ h' = h.set g (rdr s st)

section
variable {P : Program} {G : Nat → Option Obj} {Q : AExit → Env → AHeap → Prop} {l : List Frame} {rs : List (AOp × List AOp)} {e : Env} {h : AHeap} {dd : Option Nat} {chk : List AOp} {s : Str} {g : Nat}

/-- A call of a reading function. -/
theorem call_r {α : Type} {enc : α → AVal} {r1 : R α} {f : FuncId} {args : List AVal} (hc : ACalls P G f args h (RP s g h enc r1)) (hok : ∀ a st, r1 = .ok a st → V s st → Back P G (Run P G Q l) dd chk rs e (.ret (enc a)) (h.set g (rdr s st)))
    (hbad : ∀ p x st, r1 = .bad p x → Q (.panic (fault p x)) [] (h.set g (rdr s st))) : ACalls P G f args h (Back P G (Run P G Q l) dd chk rs e) := by
  refine hc.mono fun out h' hp => ?_
  cases r1 with
  | ok a st => obtain ⟨h1, rfl, rfl⟩ := hp; exact hok a st rfl h1
  | bad p x => obtain ⟨st, rfl, rfl⟩ := hp; exact run_panic (hbad p x st rfl)

/-- The same, of a function with fuel. -/
theorem call_o {α : Type} {enc : α → AVal} {x : Option (R α)} {f : FuncId} {args : List AVal} (hx : x ≠ none) (hc : ∀ r1, x = some r1 → ACalls P G f args h (RP s g h enc r1)) (hok : ∀ a st, x = some (.ok a st) → V s st → Back P G (Run P G Q l) dd chk rs e (.ret (enc a)) (h.set g (rdr s st)))
    (hbad : ∀ p y st, x = some (.bad p y) → Q (.panic (fault p y)) [] (h.set g (rdr s st))) : ACalls P G f args h (Back P G (Run P G Q l) dd chk rs e) := by
  cases x with
  | none => exact absurd rfl hx
  | some r1 => exact call_r (hc r1 rfl) (fun a st h1 => hok a st (by rw [h1])) (fun p y st h1 => hbad p y st (by rw [h1]))

theorem bindO_ne {α β : Type} {x : Option (R α)} {k : α → S → Option (R β)} {r : R β} (h : bindO x k = some r) : x ≠ none := by
  intro hx; subst hx; cases h

/-- The end of a reading function. -/
theorem fin_ok {α : Type} {enc : α → AVal} {a : α} {st : S} {h0 : AHeap} {v : AVal} (ha : At h0 g (rdr s st) h) (hl : V s st) (hw : Weak v (enc a)) : Fin (RP s g h0 enc (.ok a st)) (.ret v) h :=
  fin_at ha (.ret _ _ hw) ⟨hl, rfl, rfl⟩
theorem fin_bad {α : Type} {enc : α → AVal} {p : Nat} {x : Int} {st : S} {h0 : AHeap} (ha : At h0 g (rdr s st) h) : Fin (RP s g h0 enc (.bad p x)) (.panic (fault p x)) h :=
  fin_at ha (.panic _ _ (.refl _)) ⟨st, rfl, rfl⟩
end

end Go.Abs
