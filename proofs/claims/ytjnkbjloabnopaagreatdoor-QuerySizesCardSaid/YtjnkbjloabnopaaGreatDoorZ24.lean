/- The codes of some functions, tied to the loaded program. No conditions. -/
import Derived.Test.YtjnkbjloabnopaaGreatDoorZ23
namespace Go.Proofs
open Go.Abs Go.Abs.I
def r20_0 : L := [o 1 (.box 38 (t 0)),
  o 2 (a (s #[]))]
def r20_1 : L := [o 6 (fa 38 (t 1) 0),
  o 7 (l 32 (t 6)),
  o 8 (.call ⟨.value (f 59), #[(t 7)], #[32]⟩),
  o 9 (.unOp .not 4 (t 8)),
  o 10 (m (t 9)),
  y 11 (fa 38 (t 1) 3) 10 false,
  y 12 (l 3 (t 11)) 10 false,
  y 13 (.binOp .lss 3 (t 12) (k 0) 3) 10 false,
  o 14 (.pick (t 10) (b true) (t 13)),
  o 15 (m (t 14)),
  y 16 (fa 38 (t 1) 3) 15 false,
  y 17 (l 3 (t 16)) 15 false,
  y 18 (.binOp .gtr 3 (t 17) (k 3) 3) 15 false,
  o 19 (.pick (t 15) (b true) (t 18)),
  o 20 (m (t 19)),
  y 21 (fa 38 (t 1) 2) 20 false,
  y 22 (l 36 (t 21)) 20 false,
  y 23 (.call ⟨.value (f 60), #[(t 22), (f 61)], #[36, 107]⟩) 20 false,
  o 24 (.pick (t 20) (b true) (t 23)),
  o 25 (m (t 24)),
  y 26 (fa 38 (t 1) 1) 25 false,
  y 27 (l 35 (t 26)) 25 false,
  y 28 (.call ⟨.value (f 62), #[(t 27)], #[35]⟩) 25 false,
  y 29 (.unOp .not 4 (t 28)) 25 false,
  o 30 (.pick (t 25) (b true) (t 29))]
def r20_2 : L := [o 2 (a (s #[]))]
def r20_3 : L := [o 31 (fa 38 (t 1) 0),
  o 32 (l 32 (t 31)),
  o 33 (.call ⟨.value (f 64), #[(t 32), (.const (.slice none 0 0))], #[32, 30]⟩),
  o 34 (.call ⟨.value (f 63), #[(t 33), (f 65)], #[30, 105]⟩)]
def r20_4 : L := [o 2 (a (s #[]))]
def r20_5 : L := [o 35 (.build 114 #[]),
  o 36 (.box 114 (t 35)),
  o 3 (a (t 36))]
def r20_6 : L := [o 37 (m (t 3)),
  o 38 (fa 38 (t 1) 0),
  o 39 (l 32 (t 38)),
  o 40 (.call ⟨.value (f 67), #[(t 37), (t 39)], #[109, 32]⟩)]
def r20_7 : L := [o 41 (fa 38 (t 1) 1),
  o 42 (fa 35 (t 41) 0),
  o 43 (l 3 (t 42)),
  o 44 (.binOp .neq 3 (t 43) (k 0) 3)]
def r20_8 : L := [o 45 (m (t 3)),
  o 46 (.nilCheck (t 45)),
  o 47 (fa 114 (t 46) 0),
  o 48 (.call ⟨.value (f 68), #[(t 47), (s #[32, 58, 58, 32])], #[112, 9]⟩)]
def r20_9 : L := [o 49 (m (t 3)),
  o 50 (fa 38 (t 1) 1),
  o 51 (l 35 (t 50)),
  o 52 (.call ⟨.value (f 69), #[(t 49), (t 51)], #[109, 35]⟩)]
def r20_10 : L := [o 53 (fa 38 (t 1) 2),
  o 54 (l 36 (t 53)),
  o 55 (ln (t 54) 36),
  o 56 (m (k 0))]
def r20_11 : L := [o 57 (.binOp .lss 3 (t 56) (t 55) 3)]
def r20_12 : L := [o 58 (.indexAddr 36 (t 54) (t 56)),
  o 59 (l 62 (t 58)),
  o 5 (.alloc 62),
  q (.store 62 (t 5) (t 59))]
def r20_13 : L := [o 60 (m (t 3)),
  o 61 (.nilCheck (t 60)),
  o 62 (fa 114 (t 61) 0),
  o 63 (.call ⟨.value (f 68), #[(t 62), (s #[32])], #[112, 9]⟩)]
def r20_14 : L := [o 64 (fa 62 (t 5) 1),
  o 65 (l 4 (t 64))]
def r20_15 : L := [o 66 (m (t 3)),
  o 67 (.nilCheck (t 66)),
  o 68 (fa 114 (t 67) 0),
  o 69 (.call ⟨.value (f 68), #[(t 68), (s #[33])], #[112, 9]⟩)]
def r20_16 : L := [o 70 (m (t 3)),
  o 71 (.nilCheck (t 70)),
  o 72 (fa 114 (t 71) 0),
  o 74 (fa 62 (t 5) 0),
  o 75 (l 3 (t 74)),
  o 79 (fa 62 (t 5) 2),
  o 80 (l 9 (t 79)),
  oc 73 (.call ⟨.value (f 70), #[], #[]⟩) [c 80 (l 9 (t 79)), c 75 (l 3 (t 74))],
  o 76 (.indexAddr 23 (t 73) (t 75)),
  o 77 (l 9 (t 76)),
  o 78 (.binOp .add 9 (t 77) (s #[32]) 9),
  o 81 (.binOp .add 9 (t 78) (t 80) 9),
  o 82 (.call ⟨.value (f 68), #[(t 72), (t 81)], #[112, 9]⟩)]
def r20_17 : L := [o 83 (.binOp .add 3 (t 56) (k 1) 3),
  o 56 (m (t 83))]
def r20_18 : L := [o 84 (fa 38 (t 1) 3),
  o 85 (l 3 (t 84)),
  o 86 (.binOp .neq 3 (t 85) (k 0) 3)]
def r20_19 : L := [o 87 (m (t 3)),
  o 88 (.nilCheck (t 87)),
  o 89 (fa 114 (t 88) 0),
  o 91 (fa 38 (t 1) 3),
  o 92 (l 3 (t 91)),
  oc 90 (.call ⟨.value (f 71), #[], #[]⟩) [c 92 (l 3 (t 91))],
  o 93 (.indexAddr 23 (t 90) (t 92)),
  o 94 (l 9 (t 93)),
  o 95 (.binOp .add 9 (s #[32, 115, 116, 114, 97, 116, 101, 103, 121, 32]) (t 94) 9),
  o 96 (.call ⟨.value (f 68), #[(t 89), (t 95)], #[112, 9]⟩)]
def r20_20 : L := [o 97 (m (t 3)),
  o 98 (.nilCheck (t 97)),
  o 99 (fa 114 (t 98) 0),
  o 100 (.call ⟨.value (f 72), #[(t 99)], #[112]⟩),
  o 2 (a (t 100))]
def ir20 : ACode := .seq (.ops r20_0) (.seq (.seq (.ops r20_1) (.cond (t 30) (.seq (.ops r20_2) (.ret)) (.skip))) (.seq (.seq (.ops r20_3) (.cond (t 34) (.seq (.ops r20_4) (.ret)) (.skip))) (.seq (.ops r20_5) (.seq (.ops r20_6) (.seq (.seq (.ops r20_7) (.cond (t 44) (.seq (.ops r20_8) (.ops r20_9)) (.skip))) (.seq (.seq (.ops r20_10) (.block 0 (.loop (.seq (.ops r20_11) (.seq (.cond (t 57) (.skip) (.exit 0)) (.seq (.block 1 (.seq (.ops r20_12) (.seq (.ops r20_13) (.seq (.seq (.ops r20_14) (.cond (t 65) (.ops r20_15) (.skip))) (.ops r20_16))))) (.ops r20_17))))))) (.seq (.seq (.ops r20_18) (.cond (t 86) (.ops r20_19) (.skip))) (.seq (.ops r20_20) (.ret)))))))))
theorem en20 : En ir20 101 [.tmp 2] 20 := acalls_enter_b mixed Tryz.func20 Tryz.ntmps20 (by kernel_rfl) (by kernel_rfl)
theorem ca20 : Ca 20 := cal Tryz.func20
def r64_0 : L := [o 2 (.box 32 (t 0)),
  o 4 (a (.const (.slice none 0 0)))]
def r64_1 : L := [o 7 (fa 32 (t 2) 0),
  o 8 (l 3 (t 7)),
  o 9 (.binOp .eql 3 (t 8) (k 1) 3)]
def r64_2 : L := [o 10 (m (t 1)),
  o 11 (l 32 (t 2)),
  o 12 (.call ⟨.value (f 127), #[(t 11)], #[32]⟩),
  o 13 (.buildSlice 30 1 #[(0, (t 12))]),
  o 14 (.call ⟨.builtin .append, #[(t 10), (t 13)], #[30, 30]⟩),
  o 4 (a (t 14))]
def r64_3 : L := [o 15 (fa 32 (t 2) 6),
  o 16 (l 30 (t 15)),
  o 17 (ln (t 16) 30),
  o 18 (m (k 0))]
def r64_4 : L := [o 19 (.binOp .lss 3 (t 18) (t 17) 3)]
def r64_5 : L := [o 20 (.indexAddr 30 (t 16) (t 18)),
  o 21 (l 32 (t 20)),
  o 6 (.alloc 32),
  q (.store 32 (t 6) (t 21))]
def r64_6 : L := [o 22 (l 32 (t 6)),
  o 23 (m (t 1)),
  o 24 (.call ⟨.value (f 64), #[(t 22), (t 23)], #[32, 30]⟩),
  o 1 (a (t 24))]
def r64_7 : L := [o 25 (.binOp .add 3 (t 18) (k 1) 3),
  o 18 (m (t 25))]
def r64_8 : L := [o 26 (m (t 1)),
  o 4 (a (t 26))]
def ir64 : ACode := .seq (.ops r64_0) (.seq (.seq (.ops r64_1) (.cond (t 9) (.seq (.ops r64_2) (.ret)) (.skip))) (.seq (.seq (.ops r64_3) (.block 0 (.loop (.seq (.ops r64_4) (.seq (.cond (t 19) (.skip) (.exit 0)) (.seq (.block 1 (.seq (.ops r64_5) (.ops r64_6))) (.ops r64_7))))))) (.seq (.ops r64_8) (.ret))))
theorem en64 : En ir64 27 [.tmp 4] 64 := acalls_enter_b mixed Tryz.func64 Tryz.ntmps64 (by kernel_rfl) (by kernel_rfl)
theorem ca64 : Ca 64 := cal Tryz.func64
def r127_0 : L := [o 1 (.box 32 (t 0)),
  o 2 (.alloc 32)]
def r127_1 : L := [o 3 (fa 32 (t 1) 0),
  o 4 (l 3 (t 3)),
  o 5 (fa 32 (t 1) 1),
  o 6 (l 29 (t 5)),
  o 8 (fa 32 (t 1) 2),
  o 9 (l 9 (t 8)),
  oc 7 (.call ⟨.value (f 172), #[(t 6)], #[29]⟩) [c 9 (l 9 (t 8)), c 4 (l 3 (t 3))],
  o 10 (.build 32 #[(0, (t 4)), (1, (t 7)), (2, (t 9))]),
  q (.store 32 (t 2) (t 10))]
def ir127 : ACode := .seq (.ops r127_0) (.seq (.ops r127_1) (.ret))
theorem en127 : En ir127 11 [.cell 2 32] 127 := acalls_enter_b mixed Tryz.func127 Tryz.ntmps127 (by kernel_rfl) (by kernel_rfl)
theorem ca127 : Ca 127 := cal Tryz.func127
def r172_0 : L := [o 1 (.box 29 (t 0)),
  o 2 (.alloc 29)]
def r172_1 : L := [o 6 (l 29 (t 1)),
  o 3 (.alloc 29),
  q (.store 29 (t 3) (t 6))]
def r172_2 : L := [o 7 (fa 29 (t 3) 6),
  q (.store 27 (t 7) (.const (.slice none 0 0)))]
def r172_3 : L := [o 8 (fa 29 (t 1) 6),
  o 9 (l 27 (t 8)),
  o 10 (ln (t 9) 27),
  o 11 (m (k 0))]
def r172_4 : L := [o 12 (.binOp .lss 3 (t 11) (t 10) 3)]
def r172_5 : L := [o 13 (.indexAddr 27 (t 9) (t 11)),
  o 14 (l 29 (t 13)),
  o 5 (.alloc 29),
  q (.store 29 (t 5) (t 14))]
def r172_6 : L := [o 15 (fa 29 (t 3) 6),
  o 16 (l 27 (t 15)),
  o 17 (l 29 (t 5)),
  oc 18 (.call ⟨.value (f 172), #[(t 17)], #[29]⟩) [c 16 (l 27 (t 15))],
  o 19 (.buildSlice 27 1 #[(0, (t 18))]),
  o 20 (.call ⟨.builtin .append, #[(t 16), (t 19)], #[27, 27]⟩),
  o 21 (fa 29 (t 3) 6),
  q (.store 27 (t 21) (t 20))]
def r172_7 : L := [o 22 (.binOp .add 3 (t 11) (k 1) 3),
  o 11 (m (t 22))]
def r172_8 : L := [o 23 (l 29 (t 3)),
  q (.store 29 (t 2) (t 23))]
def ir172 : ACode := .seq (.ops r172_0) (.seq (.ops r172_1) (.seq (.ops r172_2) (.seq (.seq (.ops r172_3) (.block 0 (.loop (.seq (.ops r172_4) (.seq (.cond (t 12) (.skip) (.exit 0)) (.seq (.block 1 (.seq (.ops r172_5) (.ops r172_6))) (.ops r172_7))))))) (.seq (.ops r172_8) (.ret)))))
theorem en172 : En ir172 24 [.cell 2 29] 172 := acalls_enter_b mixed Tryz.func172 Tryz.ntmps172 (by kernel_rfl) (by kernel_rfl)
theorem ca172 : Ca 172 := cal Tryz.func172
def r65_0 : L := [o 1 (.box 32 (t 0)),
  o 2 (a (b false))]
def r65_1 : L := [o 3 (fa 32 (t 1) 1),
  o 4 (l 29 (t 3)),
  o 5 (.call ⟨.value (f 66), #[(t 4)], #[29]⟩),
  o 6 (.unOp .not 4 (t 5)),
  o 2 (a (t 6))]
def ir65 : ACode := .seq (.ops r65_0) (.seq (.ops r65_1) (.ret))
theorem en65 : En ir65 7 [.tmp 2] 65 := acalls_enter_b mixed Tryz.func65 Tryz.ntmps65 (by kernel_rfl) (by kernel_rfl)
theorem ca65 : Ca 65 := cal Tryz.func65
def r66_0 : L := [o 1 (.box 29 (t 0)),
  o 2 (a (b false))]
def r66_1 : L := [o 6 (l 29 (t 1)),
  o 7 (.call ⟨.value (f 128), #[(t 6), (k 0), (k 1)], #[29, 3, 3]⟩),
  o 5 (m (t 7)),
  o 8 (.extract (t 5) 0),
  o 9 (.extract (t 5) 1),
  o 3 (a (t 8)),
  o 4 (a (t 9))]
def r66_2 : L := [o 10 (m (t 3)),
  o 11 (.binOp .leq 3 (t 10) (k 60) 3),
  o 12 (m (t 11)),
  y 13 (m (t 4)) 12 true,
  y 14 (.binOp .leq 3 (t 13) (k 20) 3) 12 true,
  o 15 (.pick (t 12) (t 14) (b false)),
  o 16 (m (t 15)),
  y 17 (l 29 (t 1)) 16 true,
  y 18 (.call ⟨.value (f 129), #[(t 17), (f 130)], #[29, 152]⟩) 16 true,
  y 19 (.binOp .eql 39 (t 18) (k 0) 39) 16 true,
  o 20 (.pick (t 16) (t 19) (b false)),
  o 2 (a (t 20))]
def ir66 : ACode := .seq (.ops r66_0) (.seq (.ops r66_1) (.seq (.ops r66_2) (.ret)))
theorem en66 : En ir66 21 [.tmp 2] 66 := acalls_enter_b mixed Tryz.func66 Tryz.ntmps66 (by kernel_rfl) (by kernel_rfl)
theorem ca66 : Ca 66 := cal Tryz.func66
def r128_0 : L := [o 3 (.box 29 (t 0)),
  o 6 (a (k 0)),
  o 7 (a (k 0))]
def r128_1 : L := [o 13 (m (t 1)),
  o 14 (.binOp .add 3 (t 13) (k 1) 3),
  o 1 (a (t 14))]
def r128_2 : L := [o 15 (m (t 2)),
  o 8 (a (t 15))]
def r128_3 : L := [o 16 (fa 29 (t 3) 6),
  o 17 (l 27 (t 16)),
  o 18 (ln (t 17) 27),
  o 19 (m (k 0))]
def r128_4 : L := [o 20 (.binOp .lss 3 (t 19) (t 18) 3)]
def r128_5 : L := [o 21 (.indexAddr 27 (t 17) (t 19)),
  o 22 (l 29 (t 21)),
  o 10 (.alloc 29),
  q (.store 29 (t 10) (t 22))]
def r128_6 : L := [o 23 (m (t 1)),
  o 24 (.binOp .gtr 3 (t 23) (k 60) 3)]
def r128_7 : L := [o 26 (l 29 (t 10)),
  o 27 (m (t 1)),
  o 28 (m (t 2)),
  o 29 (.binOp .add 3 (t 28) (k 1) 3),
  o 30 (.call ⟨.value (f 128), #[(t 26), (t 27), (t 29)], #[29, 3, 3]⟩),
  o 25 (m (t 30)),
  o 31 (.extract (t 25) 0),
  o 32 (.extract (t 25) 1),
  o 11 (a (t 31)),
  o 12 (a (t 32))]
def r128_8 : L := [o 33 (m (t 11)),
  o 34 (m (t 8)),
  o 35 (m (t 12)),
  o 36 (.call ⟨.builtin .max, #[(t 34), (t 35)], #[3, 3]⟩),
  o 1 (a (t 33)),
  o 8 (a (t 36))]
def r128_9 : L := [o 37 (.binOp .add 3 (t 19) (k 1) 3),
  o 19 (m (t 37))]
def r128_10 : L := [o 38 (m (t 1)),
  o 39 (m (t 8)),
  o 6 (a (t 38)),
  o 7 (a (t 39))]
def ir128 : ACode := .seq (.ops r128_0) (.seq (.ops r128_1) (.seq (.ops r128_2) (.seq (.seq (.ops r128_3) (.block 0 (.loop (.seq (.ops r128_4) (.seq (.cond (t 20) (.skip) (.exit 0)) (.seq (.block 1 (.seq (.ops r128_5) (.seq (.seq (.ops r128_6) (.cond (t 24) (.exit 0) (.skip))) (.seq (.ops r128_7) (.ops r128_8))))) (.ops r128_9))))))) (.seq (.ops r128_10) (.ret)))))
theorem en128 : En ir128 40 [.tmp 6, .tmp 7] 128 := acalls_enter_b mixed Tryz.func128 Tryz.ntmps128 (by kernel_rfl) (by kernel_rfl)
theorem ca128 : Ca 128 := cal Tryz.func128
def r129_0 : L := [o 2 (.box 29 (t 0)),
  o 4 (a (k 0))]
def r129_1 : L := [o 9 (m (t 1)),
  o 10 (l 29 (t 2)),
  o 11 (.call ⟨.value (t 9), #[(t 10)], #[29]⟩),
  o 5 (a (t 11))]
def r129_2 : L := [o 12 (m (t 5)),
  o 13 (.binOp .neq 39 (t 12) (k 0) 39)]
def r129_3 : L := [o 14 (m (t 5)),
  o 4 (a (t 14))]
def r129_4 : L := [o 15 (fa 29 (t 2) 6),
  o 16 (l 27 (t 15)),
  o 17 (ln (t 16) 27),
  o 18 (m (k 0))]
def r129_5 : L := [o 19 (.binOp .lss 3 (t 18) (t 17) 3)]
def r129_6 : L := [o 20 (.indexAddr 27 (t 16) (t 18)),
  o 21 (l 29 (t 20)),
  o 7 (.alloc 29),
  q (.store 29 (t 7) (t 21))]
def r129_7 : L := [o 22 (l 29 (t 7)),
  o 23 (m (t 1)),
  o 24 (.call ⟨.value (f 129), #[(t 22), (t 23)], #[29, 152]⟩),
  o 8 (a (t 24))]
def r129_8 : L := [o 25 (m (t 8)),
  o 26 (.binOp .neq 39 (t 25) (k 0) 39)]
def r129_9 : L := [o 27 (m (t 8)),
  o 4 (a (t 27))]
def r129_10 : L := [o 28 (.binOp .add 3 (t 18) (k 1) 3),
  o 18 (m (t 28))]
def r129_11 : L := [o 4 (a (k 0))]
def ir129 : ACode := .seq (.ops r129_0) (.seq (.seq (.ops r129_1) (.seq (.ops r129_2) (.cond (t 13) (.seq (.ops r129_3) (.ret)) (.skip)))) (.seq (.seq (.ops r129_4) (.block 0 (.loop (.seq (.ops r129_5) (.seq (.cond (t 19) (.skip) (.exit 0)) (.seq (.block 1 (.seq (.ops r129_6) (.seq (.ops r129_7) (.seq (.ops r129_8) (.cond (t 26) (.seq (.ops r129_9) (.ret)) (.skip)))))) (.ops r129_10))))))) (.seq (.ops r129_11) (.ret))))
theorem en129 : En ir129 29 [.tmp 4] 129 := acalls_enter_b mixed Tryz.func129 Tryz.ntmps129 (by kernel_rfl) (by kernel_rfl)
theorem ca129 : Ca 129 := cal Tryz.func129
def r130_0 : L := [o 1 (.box 29 (t 0)),
  o 2 (a (k 0))]
def r130_1 : L := [o 3 (l 29 (t 1)),
  o 4 (.call ⟨.value (f 131), #[(t 3)], #[29]⟩),
  o 5 (.unOp .not 4 (t 4))]
def r130_2 : L := [o 2 (a (k 1))]
def r130_3 : L := [o 2 (a (k 0))]
def ir130 : ACode := .seq (.ops r130_0) (.seq (.seq (.ops r130_1) (.cond (t 5) (.seq (.ops r130_2) (.ret)) (.skip))) (.seq (.ops r130_3) (.ret)))
theorem en130 : En ir130 6 [.tmp 2] 130 := acalls_enter_b mixed Tryz.func130 Tryz.ntmps130 (by kernel_rfl) (by kernel_rfl)
theorem ca130 : Ca 130 := cal Tryz.func130
def r131_0 : L := [o 1 (.box 29 (t 0)),
  o 2 (a (b false))]
def r131_1 : L := [o 3 (a (k 0)),
  o 4 (a (k 0))]
def r131_2 : L := [o 6 (fa 29 (t 1) 0),
  o 7 (l 3 (t 6)),
  o 8 (.build 29 #[(0, (t 7))]),
  o 5 (.alloc 29),
  q (.store 29 (t 5) (t 8))]
def r131_3 : L := [o 9 (fa 29 (t 1) 0),
  o 10 (l 3 (t 9))]
def r131_4 : L := [o 12 (.binOp .eql 3 (t 10) (k 1) 3),
  o 11 (a (t 12))]
def r131_5 : L := [o 14 (.binOp .eql 3 (t 10) (k 2) 3),
  o 13 (a (t 14))]
def r131_6 : L := [o 16 (.binOp .eql 3 (t 10) (k 3) 3),
  o 15 (a (t 16))]
def r131_7 : L := [o 18 (.binOp .eql 3 (t 10) (k 4) 3),
  o 17 (a (t 18))]
def r131_8 : L := [o 20 (.binOp .eql 3 (t 10) (k 5) 3),
  o 19 (a (t 20))]
def r131_9 : L := [o 22 (.binOp .eql 3 (t 10) (k 6) 3),
  o 21 (a (t 22))]
def r131_10 : L := [o 24 (.binOp .eql 3 (t 10) (k 7) 3),
  o 23 (a (t 24))]
def r131_11 : L := [o 25 (.binOp .eql 3 (t 10) (k 8) 3),
  o 23 (a (t 25))]
def r131_12 : L := [o 26 (fa 29 (t 1) 5),
  o 27 (l 4 (t 26)),
  o 28 (fa 29 (t 5) 5),
  q (.store 4 (t 28) (t 27))]
def r131_13 : L := [o 29 (fa 29 (t 1) 1),
  o 30 (l 9 (t 29)),
  o 31 (fa 29 (t 1) 3),
  o 32 (l 9 (t 31)),
  o 33 (fa 29 (t 5) 1),
  qc (.store 9 (t 33) (t 30)) [c 32 (l 9 (t 31))],
  o 34 (fa 29 (t 5) 3),
  q (.store 9 (t 34) (t 32))]
def r131_14 : L := [o 35 (fa 29 (t 1) 1),
  o 36 (l 9 (t 35)),
  o 37 (fa 29 (t 1) 4),
  o 38 (l 9 (t 37)),
  o 39 (fa 29 (t 1) 2),
  o 40 (l 9 (t 39)),
  o 41 (fa 29 (t 5) 1),
  qc (.store 9 (t 41) (t 36)) [c 40 (l 9 (t 39)), c 38 (l 9 (t 37))],
  o 42 (fa 29 (t 5) 4),
  qc (.store 9 (t 42) (t 38)) [c 40 (l 9 (t 39))],
  o 43 (fa 29 (t 5) 2),
  q (.store 9 (t 43) (t 40))]
def r131_15 : L := [o 44 (fa 29 (t 1) 1),
  o 45 (l 9 (t 44)),
  o 46 (fa 29 (t 1) 2),
  o 47 (l 9 (t 46)),
  o 48 (fa 29 (t 1) 3),
  o 49 (l 9 (t 48)),
  o 50 (fa 29 (t 5) 1),
  qc (.store 9 (t 50) (t 45)) [c 49 (l 9 (t 48)), c 47 (l 9 (t 46))],
  o 51 (fa 29 (t 5) 2),
  qc (.store 9 (t 51) (t 47)) [c 49 (l 9 (t 48))],
  o 52 (fa 29 (t 5) 3),
  q (.store 9 (t 52) (t 49))]
def r131_16 : L := [o 53 (fa 29 (t 1) 2),
  o 54 (l 9 (t 53)),
  o 55 (.binOp .eql 9 (t 54) (s #[]) 9),
  o 56 (m (t 55)),
  y 57 (fa 29 (t 1) 3) 56 true,
  y 58 (l 9 (t 57)) 56 true,
  y 59 (.binOp .neq 9 (t 58) (s #[]) 9) 56 true,
  o 60 (.pick (t 56) (t 59) (b false))]
def r131_17 : L := [o 2 (a (b false))]
def r131_18 : L := [o 3 (a (k 1)),
  o 4 (a (k 1))]
def r131_19 : L := [o 3 (a (k 2)),
  o 4 (a (k 60))]
def r131_20 : L := [o 2 (a (b false))]
def r131_21 : L := [o 61 (fa 29 (t 1) 6),
  o 62 (l 27 (t 61)),
  o 63 (ln (t 62) 27),
  o 64 (m (t 3)),
  o 65 (.binOp .geq 3 (t 63) (t 64) 3),
  o 66 (m (t 65)),
  y 67 (fa 29 (t 1) 6) 66 true,
  y 68 (l 27 (t 67)) 66 true,
  y 69 (ln (t 68) 27) 66 true,
  y 70 (m (t 4)) 66 true,
  y 71 (.binOp .leq 3 (t 69) (t 70) 3) 66 true,
  o 72 (.pick (t 66) (t 71) (b false)),
  o 73 (m (t 72)),
  y 74 (fa 29 (t 1) 1) 73 true,
  y 75 (l 9 (t 74)) 73 true,
  y 76 (fa 29 (t 5) 1) 73 true,
  y 77 (l 9 (t 76)) 73 true,
  y 78 (.binOp .eql 9 (t 75) (t 77) 9) 73 true,
  o 79 (.pick (t 73) (t 78) (b false)),
  o 80 (m (t 79)),
  y 81 (fa 29 (t 1) 2) 80 true,
  y 82 (l 9 (t 81)) 80 true,
  y 83 (fa 29 (t 5) 2) 80 true,
  y 84 (l 9 (t 83)) 80 true,
  y 85 (.binOp .eql 9 (t 82) (t 84) 9) 80 true,
  o 86 (.pick (t 80) (t 85) (b false)),
  o 87 (m (t 86)),
  y 88 (fa 29 (t 1) 3) 87 true,
  y 89 (l 9 (t 88)) 87 true,
  y 90 (fa 29 (t 5) 3) 87 true,
  y 91 (l 9 (t 90)) 87 true,
  y 92 (.binOp .eql 9 (t 89) (t 91) 9) 87 true,
  o 93 (.pick (t 87) (t 92) (b false)),
  o 94 (m (t 93)),
  y 95 (fa 29 (t 1) 4) 94 true,
  y 96 (l 9 (t 95)) 94 true,
  y 97 (fa 29 (t 5) 4) 94 true,
  y 98 (l 9 (t 97)) 94 true,
  y 99 (.binOp .eql 9 (t 96) (t 98) 9) 94 true,
  o 100 (.pick (t 94) (t 99) (b false)),
  o 101 (m (t 100)),
  y 102 (fa 29 (t 1) 5) 101 true,
  y 103 (l 4 (t 102)) 101 true,
  y 104 (fa 29 (t 5) 5) 101 true,
  y 105 (l 4 (t 104)) 101 true,
  y 106 (.binOp .eql 4 (t 103) (t 105) 4) 101 true,
  o 107 (.pick (t 101) (t 106) (b false)),
  o 2 (a (t 107))]
def ir131 : ACode := .seq (.ops r131_0) (.seq (.ops r131_1) (.seq (.ops r131_2) (.seq (.seq (.ops r131_3) (.block 0 (.seq (.block 8 (.seq (.block 7 (.seq (.block 6 (.seq (.block 5 (.seq (.block 4 (.seq (.block 3 (.seq (.block 2 (.seq (.block 1 (.seq (.seq (.seq (.ops r131_4) (.cond (t 11) (.exit 1) (.skip))) (.seq (.seq (.ops r131_5) (.cond (t 13) (.exit 2) (.skip))) (.seq (.seq (.ops r131_6) (.cond (t 15) (.exit 3) (.skip))) (.seq (.seq (.ops r131_7) (.cond (t 17) (.exit 4) (.skip))) (.seq (.seq (.ops r131_8) (.cond (t 19) (.exit 5) (.skip))) (.seq (.seq (.ops r131_9) (.cond (t 21) (.exit 6) (.skip))) (.seq (.seq (.ops r131_10) (.cond (t 23) (.skip) (.ops r131_11))) (.cond (t 23) (.exit 7) (.skip))))))))) (.exit 8))) (.exit 0))) (.ops r131_12))) (.seq (.ops r131_13) (.exit 0)))) (.seq (.ops r131_14) (.exit 0)))) (.seq (.seq (.ops r131_15) (.seq (.ops r131_16) (.cond (t 60) (.seq (.ops r131_17) (.ret)) (.skip)))) (.exit 0)))) (.seq (.ops r131_18) (.exit 0)))) (.seq (.ops r131_19) (.exit 0)))) (.seq (.seq (.ops r131_20) (.ret)) (.exit 0))))) (.seq (.ops r131_21) (.ret)))))
theorem en131 : En ir131 108 [.tmp 2] 131 := acalls_enter_b mixed Tryz.func131 Tryz.ntmps131 (by kernel_rfl) (by kernel_rfl)
theorem ca131 : Ca 131 := cal Tryz.func131
def r67_0 : L := [o 2 (.box 109 (t 0)),
  o 3 (.box 32 (t 1))]
def r67_1 : L := [o 7 (fa 32 (t 3) 0),
  o 8 (l 3 (t 7))]
def r67_2 : L := [o 52 (.binOp .eql 3 (t 8) (k 1) 3),
  o 51 (a (t 52))]
def r67_3 : L := [o 53 (l 109 (t 2)),
  o 54 (l 32 (t 3)),
  o 55 (.call ⟨.value (f 132), #[(t 53), (t 54)], #[109, 32]⟩)]
def r67_4 : L := [o 57 (.binOp .eql 3 (t 8) (k 2) 3),
  o 56 (a (t 57))]
def r67_5 : L := [o 58 (l 109 (t 2)),
  o 59 (.nilCheck (t 58)),
  o 60 (fa 114 (t 59) 0),
  o 61 (fa 32 (t 3) 3),
  o 62 (l 9 (t 61)),
  o 63 (.binOp .add 9 (s #[60]) (t 62) 9),
  o 64 (.binOp .add 9 (t 63) (s #[62]) 9),
  o 65 (.call ⟨.value (f 68), #[(t 60), (t 64)], #[112, 9]⟩)]
def r67_6 : L := [o 67 (.binOp .eql 3 (t 8) (k 3) 3),
  o 66 (a (t 67))]
def r67_7 : L := [o 68 (l 109 (t 2)),
  o 69 (.nilCheck (t 68)),
  o 70 (fa 114 (t 69) 0),
  o 71 (fa 32 (t 3) 3),
  o 72 (l 9 (t 71)),
  o 73 (.binOp .add 9 (s #[60, 47]) (t 72) 9),
  o 74 (.binOp .add 9 (t 73) (s #[62]) 9),
  o 75 (.call ⟨.value (f 68), #[(t 70), (t 74)], #[112, 9]⟩)]
def r67_8 : L := [o 77 (.binOp .eql 3 (t 8) (k 6) 3),
  o 76 (a (t 77))]
def r67_9 : L := [o 78 (fa 32 (t 3) 6),
  o 79 (l 30 (t 78)),
  o 80 (.indexAddr 30 (t 79) (k 0)),
  o 81 (l 32 (t 80)),
  o 4 (.alloc 32),
  q (.store 32 (t 4) (t 81))]
def r67_10 : L := [o 82 (l 109 (t 2)),
  o 83 (fa 32 (t 4) 0),
  o 84 (l 3 (t 83)),
  o 85 (.binOp .eql 3 (t 84) (k 5) 3),
  o 86 (m (t 85)),
  y 87 (fa 32 (t 4) 0) 86 false,
  y 88 (l 3 (t 87)) 86 false,
  y 89 (.binOp .eql 3 (t 88) (k 4) 3) 86 false,
  o 90 (.pick (t 86) (b true) (t 89)),
  o 91 (.makeFunc (.func 134) #[] #[(t 2), (t 4)]),
  o 92 (.call ⟨.value (f 133), #[(t 82), (t 90), (t 91)], #[109, 4, 1]⟩)]
def r67_11 : L := [o 93 (l 109 (t 2)),
  o 94 (.nilCheck (t 93)),
  o 95 (fa 114 (t 94) 0),
  o 96 (fa 32 (t 3) 4),
  o 97 (l 3 (t 96)),
  o 98 (fa 32 (t 3) 5),
  o 99 (l 3 (t 98)),
  oc 100 (.call ⟨.value (f 135), #[(t 97), (t 99)], #[3, 3]⟩) [c 93 (l 109 (t 2))],
  o 101 (.call ⟨.value (f 68), #[(t 95), (t 100)], #[112, 9]⟩)]
def r67_12 : L := [o 9 (fa 32 (t 3) 6),
  o 10 (l 30 (t 9)),
  o 11 (ln (t 10) 30),
  o 12 (m (k 0))]
def r67_13 : L := [o 13 (.binOp .lss 3 (t 12) (t 11) 3)]
def r67_14 : L := [o 14 (m (t 12)),
  o 15 (.indexAddr 30 (t 10) (t 12)),
  o 16 (l 32 (t 15)),
  o 6 (.alloc 32),
  o 5 (a (t 14)),
  q (.store 32 (t 6) (t 16))]
def r67_15 : L := [o 17 (m (t 5)),
  o 18 (.binOp .gtr 3 (t 17) (k 0) 3),
  o 19 (m (t 18)),
  y 20 (fa 32 (t 3) 0) 19 true,
  y 21 (l 3 (t 20)) 19 true,
  y 22 (.binOp .eql 3 (t 21) (k 5) 3) 19 true,
  o 23 (.pick (t 19) (t 22) (b false))]
def r67_16 : L := [o 24 (l 109 (t 2)),
  o 25 (.nilCheck (t 24)),
  o 26 (fa 114 (t 25) 0),
  o 27 (.call ⟨.value (f 68), #[(t 26), (s #[32, 124])], #[112, 9]⟩)]
def r67_17 : L := [o 28 (m (t 5)),
  o 29 (.binOp .gtr 3 (t 28) (k 0) 3)]
def r67_18 : L := [o 30 (l 109 (t 2)),
  o 31 (.nilCheck (t 30)),
  o 32 (fa 114 (t 31) 0),
  o 33 (.call ⟨.value (f 68), #[(t 32), (s #[32])], #[112, 9]⟩)]
def r67_19 : L := [o 34 (l 109 (t 2)),
  o 35 (fa 32 (t 6) 0),
  o 36 (l 3 (t 35)),
  o 37 (.binOp .eql 3 (t 36) (k 5) 3),
  o 38 (m (t 37)),
  y 39 (fa 32 (t 6) 0) 38 false,
  y 40 (l 3 (t 39)) 38 false,
  y 41 (.binOp .eql 3 (t 40) (k 4) 3) 38 false,
  y 42 (m (t 41)) 38 false,
  y 43 (fa 32 (t 3) 0) 42 true,
  y 44 (l 3 (t 43)) 42 true,
  y 45 (.binOp .eql 3 (t 44) (k 4) 3) 42 true,
  y 46 (.pick (t 42) (t 45) (b false)) 38 false,
  o 47 (.pick (t 38) (b true) (t 46)),
  o 48 (.makeFunc (.func 136) #[] #[(t 2), (t 6)]),
  o 49 (.call ⟨.value (f 133), #[(t 34), (t 47), (t 48)], #[109, 4, 1]⟩)]
def r67_20 : L := [o 50 (.binOp .add 3 (t 12) (k 1) 3),
  o 12 (m (t 50))]
def ir67 : ACode := .seq (.ops r67_0) (.seq (.ops r67_1) (.block 0 (.seq (.ops r67_2) (.cond (t 51) (.ops r67_3) (.seq (.ops r67_4) (.cond (t 56) (.ops r67_5) (.seq (.ops r67_6) (.cond (t 66) (.ops r67_7) (.seq (.ops r67_8) (.cond (t 76) (.seq (.ops r67_9) (.seq (.ops r67_10) (.ops r67_11))) (.seq (.ops r67_12) (.block 1 (.loop (.seq (.ops r67_13) (.seq (.cond (t 13) (.skip) (.exit 1)) (.seq (.block 2 (.seq (.ops r67_14) (.seq (.seq (.ops r67_15) (.cond (t 23) (.ops r67_16) (.skip))) (.seq (.seq (.ops r67_17) (.cond (t 29) (.ops r67_18) (.skip))) (.ops r67_19))))) (.ops r67_20)))))))))))))))))
theorem en67 : En ir67 102 [] 67 := acalls_enter_b mixed Tryz.func67 Tryz.ntmps67 (by kernel_rfl) (by kernel_rfl)
theorem ca67 : Ca 67 := cal Tryz.func67
def r68_0 : L := [o 4 (a (k 0)),
  o 5 (a (.const .nilIface))]
def r68_1 : L := [o 6 (m (t 0)),
  o 7 (.call ⟨.value (f 137), #[(t 6)], #[110]⟩)]
def r68_2 : L := [o 8 (m (t 0)),
  o 9 (m (t 0)),
  o 10 (.nilCheck (t 9)),
  o 11 (fa 112 (t 10) 1),
  o 12 (l 50 (t 11)),
  o 13 (m (t 1)),
  o 14 (.call ⟨.builtin .append, #[(t 12), (t 13)], #[50, 9]⟩),
  o 15 (.nilCheck (t 8)),
  o 16 (fa 112 (t 15) 1),
  q (.store 50 (t 16) (t 14))]
def r68_3 : L := [o 17 (m (t 1)),
  o 18 (ln (t 17) 9),
  o 4 (a (t 18)),
  o 5 (a (.const .nilIface))]
def ir68 : ACode := .seq (.ops r68_0) (.seq (.ops r68_1) (.seq (.ops r68_2) (.seq (.ops r68_3) (.ret))))
theorem en68 : En ir68 19 [.tmp 4, .tmp 5] 68 := acalls_enter_b mixed Tryz.func68 Tryz.ntmps68 (by kernel_rfl) (by kernel_rfl)
theorem ca68 : Ca 68 := cal Tryz.func68
def r132_0 : L := [o 3 (.box 32 (t 1))]
def r132_1 : L := [o 5 (fa 32 (t 3) 2),
  o 6 (l 9 (t 5)),
  o 7 (.binOp .neq 9 (t 6) (s #[]) 9)]
def r132_2 : L := [o 8 (m (t 0)),
  o 9 (.nilCheck (t 8)),
  o 10 (fa 114 (t 9) 0),
  o 11 (fa 32 (t 3) 2),
  o 12 (l 9 (t 11)),
  o 13 (.binOp .add 9 (t 12) (s #[58]) 9),
  o 14 (.call ⟨.value (f 68), #[(t 10), (t 13)], #[112, 9]⟩)]
def r132_3 : L := [o 15 (fa 32 (t 3) 1),
  o 16 (fa 29 (t 15) 0),
  o 17 (l 3 (t 16)),
  o 18 (.binOp .eql 3 (t 17) (k 1) 3),
  o 19 (m (t 18)),
  y 20 (fa 32 (t 3) 1) 19 false,
  y 21 (fa 29 (t 20) 0) 19 false,
  y 22 (l 3 (t 21)) 19 false,
  y 23 (.binOp .eql 3 (t 22) (k 2) 3) 19 false,
  y 24 (m (t 23)) 19 false,
  y 25 (fa 32 (t 3) 1) 24 true,
  y 26 (fa 29 (t 25) 1) 24 true,
  y 27 (l 9 (t 26)) 24 true,
  y 28 (.binOp .eql 9 (t 27) (s #[]) 9) 24 true,
  y 29 (.pick (t 24) (t 28) (b false)) 19 false,
  o 30 (.pick (t 19) (b true) (t 29)),
  o 4 (a (t 30))]
def r132_4 : L := [o 31 (m (t 4))]
def r132_5 : L := [o 32 (m (t 0)),
  o 33 (fa 32 (t 3) 1),
  o 34 (l 29 (t 33)),
  o 35 (.call ⟨.value (f 173), #[(t 32), (t 34)], #[109, 29]⟩)]
def r132_6 : L := [o 36 (m (t 0)),
  o 37 (.nilCheck (t 36)),
  o 38 (fa 114 (t 37) 0),
  o 39 (.call ⟨.value (f 68), #[(t 38), (s #[91])], #[112, 9]⟩)]
def r132_7 : L := [o 40 (m (t 0)),
  o 41 (fa 32 (t 3) 1),
  o 42 (l 29 (t 41)),
  o 43 (.call ⟨.value (f 173), #[(t 40), (t 42)], #[109, 29]⟩)]
def r132_8 : L := [o 44 (m (t 0)),
  o 45 (.nilCheck (t 44)),
  o 46 (fa 114 (t 45) 0),
  o 47 (.call ⟨.value (f 68), #[(t 46), (s #[93])], #[112, 9]⟩)]
def ir132 : ACode := .seq (.ops r132_0) (.seq (.seq (.ops r132_1) (.cond (t 7) (.ops r132_2) (.skip))) (.seq (.seq (.ops r132_3) (.seq (.ops r132_4) (.cond (t 31) (.seq (.ops r132_5) (.ret)) (.skip)))) (.seq (.ops r132_6) (.seq (.ops r132_7) (.ops r132_8)))))
theorem en132 : En ir132 48 [] 132 := acalls_enter_b mixed Tryz.func132 Tryz.ntmps132 (by kernel_rfl) (by kernel_rfl)
theorem ca132 : Ca 132 := cal Tryz.func132
def r133_0 : L := [o 6 (m (t 1))]
def r133_1 : L := [o 7 (m (t 0)),
  o 8 (.nilCheck (t 7)),
  o 9 (fa 114 (t 8) 0),
  o 10 (.call ⟨.value (f 68), #[(t 9), (s #[40])], #[112, 9]⟩)]
def r133_2 : L := [o 11 (m (t 2)),
  o 12 (.call ⟨.value (t 11), #[], #[]⟩)]
def r133_3 : L := [o 13 (m (t 1))]
def r133_4 : L := [o 14 (m (t 0)),
  o 15 (.nilCheck (t 14)),
  o 16 (fa 114 (t 15) 0),
  o 17 (.call ⟨.value (f 68), #[(t 16), (s #[41])], #[112, 9]⟩)]
def ir133 : ACode := .seq (.seq (.ops r133_0) (.cond (t 6) (.ops r133_1) (.skip))) (.seq (.ops r133_2) (.seq (.ops r133_3) (.cond (t 13) (.ops r133_4) (.skip))))
theorem en133 : En ir133 18 [] 133 := acalls_enter_b mixed Tryz.func133 Tryz.ntmps133 (by kernel_rfl) (by kernel_rfl)
theorem ca133 : Ca 133 := cal Tryz.func133
def r136_0 : L := [o 2 (l 109 (t 0)),
  o 3 (l 32 (t 1)),
  o 4 (.call ⟨.value (f 67), #[(t 2), (t 3)], #[109, 32]⟩)]
def ir136 : ACode := .ops r136_0
theorem en136 : En ir136 5 [] 136 := acalls_enter_b mixed Tryz.func136 Tryz.ntmps136 (by kernel_rfl) (by kernel_rfl)
theorem ca136 : Ca 136 := cal Tryz.func136
def r134_0 : L := [o 2 (l 109 (t 0)),
  o 3 (l 32 (t 1)),
  o 4 (.call ⟨.value (f 67), #[(t 2), (t 3)], #[109, 32]⟩)]
def ir134 : ACode := .ops r134_0
theorem en134 : En ir134 5 [] 134 := acalls_enter_b mixed Tryz.func134 Tryz.ntmps134 (by kernel_rfl) (by kernel_rfl)
theorem ca134 : Ca 134 := cal Tryz.func134
def r173_0 : L := [o 2 (.box 109 (t 0)),
  o 3 (.box 29 (t 1))]
def r173_1 : L := [o 7 (fa 29 (t 3) 0),
  o 8 (l 3 (t 7))]
def r173_2 : L := [o 47 (.binOp .eql 3 (t 8) (k 1) 3),
  o 46 (a (t 47))]
def r173_3 : L := [o 48 (l 109 (t 2)),
  o 49 (.nilCheck (t 48)),
  o 50 (fa 114 (t 49) 0),
  o 51 (.call ⟨.value (f 68), #[(t 50), (s #[91, 93])], #[112, 9]⟩)]
def r173_4 : L := [o 53 (.binOp .eql 3 (t 8) (k 2) 3),
  o 52 (a (t 53))]
def r173_5 : L := [o 54 (fa 29 (t 3) 1),
  o 55 (l 9 (t 54)),
  o 56 (.binOp .neq 9 (t 55) (s #[]) 9)]
def r173_6 : L := [o 57 (l 109 (t 2)),
  o 58 (.nilCheck (t 57)),
  o 59 (fa 114 (t 58) 0),
  o 60 (fa 29 (t 3) 1),
  o 61 (l 9 (t 60)),
  o 62 (.binOp .add 9 (t 61) (s #[61]) 9),
  o 63 (.call ⟨.value (f 68), #[(t 59), (t 62)], #[112, 9]⟩)]
def r173_7 : L := [o 64 (l 109 (t 2)),
  o 65 (fa 29 (t 3) 3),
  o 66 (l 9 (t 65)),
  o 67 (fa 29 (t 3) 5),
  o 68 (l 4 (t 67)),
  o 69 (.call ⟨.value (f 138), #[(t 64), (t 66), (t 68)], #[109, 9, 4]⟩)]
def r173_8 : L := [o 71 (.binOp .eql 3 (t 8) (k 3) 3),
  o 70 (a (t 71))]
def r173_9 : L := [o 72 (l 109 (t 2)),
  o 73 (.nilCheck (t 72)),
  o 74 (fa 114 (t 73) 0),
  o 75 (fa 29 (t 3) 1),
  o 76 (l 9 (t 75)),
  o 77 (.binOp .add 9 (t 76) (s #[32, 99, 111, 110, 116, 97, 105, 110, 115, 32]) 9),
  o 78 (.call ⟨.value (f 68), #[(t 74), (t 77)], #[112, 9]⟩)]
def r173_10 : L := [o 79 (l 109 (t 2)),
  o 80 (fa 29 (t 3) 3),
  o 81 (l 9 (t 80)),
  o 82 (.call ⟨.value (f 176), #[(t 79), (t 81)], #[109, 9]⟩)]
def r173_11 : L := [o 84 (.binOp .eql 3 (t 8) (k 4) 3),
  o 83 (a (t 84))]
def r173_12 : L := [o 85 (l 109 (t 2)),
  o 86 (.nilCheck (t 85)),
  o 87 (fa 114 (t 86) 0),
  o 88 (fa 29 (t 3) 1),
  o 89 (l 9 (t 88)),
  o 90 (.binOp .add 9 (t 89) (s #[61]) 9),
  o 91 (fa 29 (t 3) 4),
  o 92 (l 9 (t 91)),
  o 93 (.binOp .add 9 (t 90) (t 92) 9),
  o 94 (.binOp .add 9 (t 93) (s #[46]) 9),
  o 95 (fa 29 (t 3) 2),
  o 96 (l 9 (t 95)),
  o 97 (.binOp .add 9 (t 94) (t 96) 9),
  o 98 (.call ⟨.value (f 68), #[(t 87), (t 97)], #[112, 9]⟩)]
def r173_13 : L := [o 100 (.binOp .eql 3 (t 8) (k 5) 3),
  o 99 (a (t 100))]
def r173_14 : L := [o 101 (l 109 (t 2)),
  o 102 (.nilCheck (t 101)),
  o 103 (fa 114 (t 102) 0),
  o 104 (fa 29 (t 3) 1),
  o 105 (l 9 (t 104)),
  o 106 (.binOp .add 9 (s #[105, 110, 40]) (t 105) 9),
  o 107 (.call ⟨.value (f 68), #[(t 103), (t 106)], #[112, 9]⟩)]
def r173_15 : L := [o 108 (fa 29 (t 3) 2),
  o 109 (l 9 (t 108)),
  o 110 (.binOp .neq 9 (t 109) (s #[]) 9)]
def r173_16 : L := [o 111 (l 109 (t 2)),
  o 112 (.nilCheck (t 111)),
  o 113 (fa 114 (t 112) 0),
  o 114 (fa 29 (t 3) 2),
  o 115 (l 9 (t 114)),
  o 116 (.binOp .add 9 (s #[44]) (t 115) 9),
  o 117 (.binOp .add 9 (t 116) (s #[61]) 9),
  o 118 (.call ⟨.value (f 68), #[(t 113), (t 117)], #[112, 9]⟩)]
def r173_17 : L := [o 119 (l 109 (t 2)),
  o 120 (fa 29 (t 3) 3),
  o 121 (l 9 (t 120)),
  o 122 (.call ⟨.value (f 176), #[(t 119), (t 121)], #[109, 9]⟩)]
def r173_18 : L := [o 123 (l 109 (t 2)),
  o 124 (.nilCheck (t 123)),
  o 125 (fa 114 (t 124) 0),
  o 126 (.call ⟨.value (f 68), #[(t 125), (s #[41])], #[112, 9]⟩)]
def r173_19 : L := [o 128 (.binOp .eql 3 (t 8) (k 6) 3),
  o 127 (a (t 128))]
def r173_20 : L := [o 129 (fa 29 (t 3) 6),
  o 130 (l 27 (t 129)),
  o 131 (.indexAddr 27 (t 130) (k 0)),
  o 132 (l 29 (t 131)),
  o 4 (.alloc 29),
  q (.store 29 (t 4) (t 132))]
def r173_21 : L := [o 133 (l 109 (t 2)),
  o 134 (.nilCheck (t 133)),
  o 135 (fa 114 (t 134) 0),
  o 136 (.call ⟨.value (f 68), #[(t 135), (s #[33])], #[112, 9]⟩)]
def r173_22 : L := [o 137 (l 109 (t 2)),
  o 138 (fa 29 (t 4) 0),
  o 139 (l 3 (t 138)),
  o 140 (.binOp .eql 3 (t 139) (k 8) 3),
  o 141 (m (t 140)),
  y 142 (fa 29 (t 4) 0) 141 false,
  y 143 (l 3 (t 142)) 141 false,
  y 144 (.binOp .eql 3 (t 143) (k 7) 3) 141 false,
  o 145 (.pick (t 141) (b true) (t 144)),
  o 146 (.makeFunc (.func 210) #[] #[(t 2), (t 4)]),
  o 147 (.call ⟨.value (f 133), #[(t 137), (t 145), (t 146)], #[109, 4, 1]⟩)]
def r173_23 : L := [o 9 (fa 29 (t 3) 6),
  o 10 (l 27 (t 9)),
  o 11 (ln (t 10) 27),
  o 12 (m (k 0))]
def r173_24 : L := [o 13 (.binOp .lss 3 (t 12) (t 11) 3)]
def r173_25 : L := [o 14 (m (t 12)),
  o 15 (.indexAddr 27 (t 10) (t 12)),
  o 16 (l 29 (t 15)),
  o 6 (.alloc 29),
  o 5 (a (t 14)),
  q (.store 29 (t 6) (t 16))]
def r173_26 : L := [o 17 (m (t 5)),
  o 18 (.binOp .gtr 3 (t 17) (k 0) 3)]
def r173_27 : L := [o 19 (l 109 (t 2)),
  o 20 (.nilCheck (t 19)),
  o 21 (fa 114 (t 20) 0),
  o 22 (.buildSlice 23 2 #[(0, (s #[32, 38, 32])), (1, (s #[32, 124, 32]))]),
  o 23 (fa 29 (t 3) 0),
  o 24 (l 3 (t 23)),
  o 25 (.binOp .sub 3 (t 24) (k 7) 3),
  o 26 (.indexAddr 23 (t 22) (t 25)),
  o 27 (l 9 (t 26)),
  o 28 (.call ⟨.value (f 68), #[(t 21), (t 27)], #[112, 9]⟩)]
def r173_28 : L := [o 29 (l 109 (t 2)),
  o 30 (fa 29 (t 6) 0),
  o 31 (l 3 (t 30)),
  o 32 (.binOp .eql 3 (t 31) (k 8) 3),
  o 33 (m (t 32)),
  y 34 (fa 29 (t 6) 0) 33 false,
  y 35 (l 3 (t 34)) 33 false,
  y 36 (.binOp .eql 3 (t 35) (k 7) 3) 33 false,
  y 37 (m (t 36)) 33 false,
  y 38 (fa 29 (t 3) 0) 37 true,
  y 39 (l 3 (t 38)) 37 true,
  y 40 (.binOp .eql 3 (t 39) (k 7) 3) 37 true,
  y 41 (.pick (t 37) (t 40) (b false)) 33 false,
  o 42 (.pick (t 33) (b true) (t 41)),
  o 43 (.makeFunc (.func 211) #[] #[(t 2), (t 6)]),
  o 44 (.call ⟨.value (f 133), #[(t 29), (t 42), (t 43)], #[109, 4, 1]⟩)]
def r173_29 : L := [o 45 (.binOp .add 3 (t 12) (k 1) 3),
  o 12 (m (t 45))]
def ir173 : ACode := .seq (.ops r173_0) (.seq (.ops r173_1) (.block 0 (.seq (.ops r173_2) (.cond (t 46) (.ops r173_3) (.seq (.ops r173_4) (.cond (t 52) (.seq (.seq (.ops r173_5) (.cond (t 56) (.ops r173_6) (.skip))) (.ops r173_7)) (.seq (.ops r173_8) (.cond (t 70) (.seq (.ops r173_9) (.ops r173_10)) (.seq (.ops r173_11) (.cond (t 83) (.ops r173_12) (.seq (.ops r173_13) (.cond (t 99) (.seq (.ops r173_14) (.seq (.seq (.ops r173_15) (.cond (t 110) (.seq (.ops r173_16) (.ops r173_17)) (.skip))) (.ops r173_18))) (.seq (.ops r173_19) (.cond (t 127) (.seq (.ops r173_20) (.seq (.ops r173_21) (.ops r173_22))) (.seq (.ops r173_23) (.block 1 (.loop (.seq (.ops r173_24) (.seq (.cond (t 13) (.skip) (.exit 1)) (.seq (.block 2 (.seq (.ops r173_25) (.seq (.seq (.ops r173_26) (.cond (t 18) (.ops r173_27) (.skip))) (.ops r173_28)))) (.ops r173_29)))))))))))))))))))))
theorem en173 : En ir173 148 [] 173 := acalls_enter_b mixed Tryz.func173 Tryz.ntmps173 (by kernel_rfl) (by kernel_rfl)
theorem ca173 : Ca 173 := cal Tryz.func173
def r138_0 : L := [o 6 (m (t 0)),
  o 7 (m (t 1)),
  o 8 (.call ⟨.value (f 176), #[(t 6), (t 7)], #[109, 9]⟩)]
def r138_1 : L := [o 9 (m (t 2))]
def r138_2 : L := [o 10 (m (t 0)),
  o 11 (.nilCheck (t 10)),
  o 12 (fa 114 (t 11) 0),
  o 13 (.call ⟨.value (f 68), #[(t 12), (s #[37, 99])], #[112, 9]⟩)]
def ir138 : ACode := .seq (.ops r138_0) (.seq (.ops r138_1) (.cond (t 9) (.ops r138_2) (.skip)))
theorem en138 : En ir138 14 [] 138 := acalls_enter_b mixed Tryz.func138 Tryz.ntmps138 (by kernel_rfl) (by kernel_rfl)
theorem ca138 : Ca 138 := cal Tryz.func138
def r176_0 : L := [o 4 (m (t 0)),
  o 5 (.nilCheck (t 4)),
  o 6 (fa 114 (t 5) 0),
  o 7 (m (t 1)),
  o 8 (.call ⟨.value (f 213), #[(t 7), (s #[34]), (s #[34, 34])], #[9, 9, 9]⟩),
  o 9 (.binOp .add 9 (s #[34]) (t 8) 9),
  o 10 (.binOp .add 9 (t 9) (s #[34]) 9),
  o 11 (.call ⟨.value (f 68), #[(t 6), (t 10)], #[112, 9]⟩)]
def ir176 : ACode := .ops r176_0
theorem en176 : En ir176 12 [] 176 := acalls_enter_b mixed Tryz.func176 Tryz.ntmps176 (by kernel_rfl) (by kernel_rfl)
theorem ca176 : Ca 176 := cal Tryz.func176
def r213_0 : L := [o 6 (a (s #[]))]
def r213_1 : L := [o 7 (m (t 0)),
  o 8 (m (t 1)),
  o 9 (m (t 2)),
  o 10 (.call ⟨.value (f 240), #[(t 7), (t 8), (t 9), (k (-1))], #[9, 9, 9, 3]⟩),
  o 6 (a (t 10))]
def ir213 : ACode := .seq (.ops r213_0) (.seq (.ops r213_1) (.ret))
theorem en213 : En ir213 11 [.tmp 6] 213 := acalls_enter_b mixed Tryz.func213 Tryz.ntmps213 (by kernel_rfl) (by kernel_rfl)
theorem ca213 : Ca 213 := cal Tryz.func213
def r240_0 : L := [o 8 (a (s #[]))]
def r240_1 : L := [o 16 (m (t 1)),
  o 17 (m (t 2)),
  o 18 (.binOp .eql 9 (t 16) (t 17) 9),
  o 19 (m (t 18)),
  y 20 (m (t 3)) 19 false,
  y 21 (.binOp .eql 3 (t 20) (k 0) 3) 19 false,
  o 22 (.pick (t 19) (b true) (t 21))]
def r240_2 : L := [o 23 (m (t 0)),
  o 8 (a (t 23))]
def r240_3 : L := [o 24 (m (t 0)),
  o 25 (m (t 1)),
  o 26 (.call ⟨.value (f 261), #[(t 24), (t 25)], #[9, 9]⟩),
  o 9 (a (t 26))]
def r240_4 : L := [o 27 (m (t 9)),
  o 28 (.binOp .eql 3 (t 27) (k 0) 3)]
def r240_5 : L := [o 29 (m (t 0)),
  o 8 (a (t 29))]
def r240_6 : L := [o 30 (m (t 3)),
  o 31 (.binOp .lss 3 (t 30) (k 0) 3),
  o 32 (m (t 31)),
  y 33 (m (t 9)) 32 false,
  y 34 (m (t 3)) 32 false,
  y 35 (.binOp .lss 3 (t 33) (t 34) 3) 32 false,
  o 36 (.pick (t 32) (b true) (t 35))]
def r240_7 : L := [o 37 (m (t 9)),
  o 3 (a (t 37))]
def r240_8 : L := [o 10 (.alloc 112)]
def r240_9 : L := [o 38 (m (t 0)),
  o 39 (ln (t 38) 9),
  o 40 (m (t 3)),
  o 41 (m (t 2)),
  o 42 (ln (t 41) 9),
  o 43 (m (t 1)),
  o 44 (ln (t 43) 9),
  o 45 (.binOp .sub 3 (t 42) (t 44) 3),
  o 46 (.binOp .mul 3 (t 40) (t 45) 3),
  o 47 (.binOp .add 3 (t 39) (t 46) 3),
  o 48 (.call ⟨.value (f 262), #[(t 10), (t 47)], #[112, 3]⟩)]
def r240_10 : L := [o 11 (a (k 0))]
def r240_11 : L := [o 49 (m (t 1)),
  o 50 (ln (t 49) 9),
  o 51 (.binOp .gtr 3 (t 50) (k 0) 3)]
def r240_12 : L := [o 52 (m (t 3)),
  o 53 (m (k 0))]
def r240_13 : L := [o 54 (.binOp .lss 3 (t 53) (t 52) 3)]
def r240_14 : L := [o 55 (m (t 11)),
  o 56 (m (t 0)),
  o 57 (m (t 11)),
  o 58 (.slice 9 (t 56) (some (t 57)) none none),
  o 59 (m (t 1)),
  o 60 (.call ⟨.value (f 218), #[(t 58), (t 59)], #[9, 9]⟩),
  o 61 (.binOp .add 3 (t 55) (t 60) 3),
  o 12 (a (t 61))]
def r240_15 : L := [o 62 (m (t 0)),
  o 63 (m (t 11)),
  o 64 (m (t 12)),
  o 65 (.slice 9 (t 62) (some (t 63)) (some (t 64)) none),
  o 66 (.call ⟨.value (f 68), #[(t 10), (t 65)], #[112, 9]⟩)]
def r240_16 : L := [o 67 (m (t 2)),
  o 68 (.call ⟨.value (f 68), #[(t 10), (t 67)], #[112, 9]⟩)]
def r240_17 : L := [o 69 (m (t 12)),
  o 70 (m (t 1)),
  o 71 (ln (t 70) 9),
  o 72 (.binOp .add 3 (t 69) (t 71) 3),
  o 11 (a (t 72))]
def r240_18 : L := [o 73 (.binOp .add 3 (t 53) (k 1) 3),
  o 53 (m (t 73))]
def r240_19 : L := [o 74 (m (t 2)),
  o 75 (.call ⟨.value (f 68), #[(t 10), (t 74)], #[112, 9]⟩)]
def r240_20 : L := [o 76 (m (t 3)),
  o 77 (.binOp .sub 3 (t 76) (k 1) 3),
  o 78 (m (k 0))]
def r240_21 : L := [o 79 (.binOp .lss 3 (t 78) (t 77) 3)]
def r240_22 : L := [o 81 (m (t 0)),
  o 82 (m (t 11)),
  o 83 (.slice 9 (t 81) (some (t 82)) none none),
  o 84 (.call ⟨.value (f 263), #[(t 83)], #[9]⟩),
  o 80 (m (t 84)),
  o 85 (.extract (t 80) 0),
  o 86 (.extract (t 80) 1),
  o 13 (a (t 85)),
  o 14 (a (t 86))]
def r240_23 : L := [o 87 (m (t 11)),
  o 88 (m (t 14)),
  o 89 (.binOp .add 3 (t 87) (t 88) 3),
  o 15 (a (t 89))]
def r240_24 : L := [o 90 (m (t 0)),
  o 91 (m (t 11)),
  o 92 (m (t 15)),
  o 93 (.slice 9 (t 90) (some (t 91)) (some (t 92)) none),
  o 94 (.call ⟨.value (f 68), #[(t 10), (t 93)], #[112, 9]⟩)]
def r240_25 : L := [o 95 (m (t 2)),
  o 96 (.call ⟨.value (f 68), #[(t 10), (t 95)], #[112, 9]⟩)]
def r240_26 : L := [o 97 (m (t 15)),
  o 11 (a (t 97))]
def r240_27 : L := [o 98 (.binOp .add 3 (t 78) (k 1) 3),
  o 78 (m (t 98))]
def r240_28 : L := [o 99 (m (t 0)),
  o 100 (m (t 11)),
  o 101 (.slice 9 (t 99) (some (t 100)) none none),
  o 102 (.call ⟨.value (f 68), #[(t 10), (t 101)], #[112, 9]⟩)]
def r240_29 : L := [o 103 (.call ⟨.value (f 72), #[(t 10)], #[112]⟩),
  o 8 (a (t 103))]
def ir240 : ACode := .seq (.ops r240_0) (.seq (.seq (.ops r240_1) (.cond (t 22) (.seq (.ops r240_2) (.ret)) (.skip))) (.seq (.seq (.ops r240_3) (.seq (.ops r240_4) (.cond (t 28) (.seq (.ops r240_5) (.ret)) (.seq (.ops r240_6) (.cond (t 36) (.ops r240_7) (.skip)))))) (.seq (.ops r240_8) (.seq (.ops r240_9) (.seq (.ops r240_10) (.seq (.seq (.ops r240_11) (.cond (t 51) (.seq (.ops r240_12) (.block 0 (.loop (.seq (.ops r240_13) (.seq (.cond (t 54) (.skip) (.exit 0)) (.seq (.block 1 (.seq (.ops r240_14) (.seq (.ops r240_15) (.seq (.ops r240_16) (.ops r240_17))))) (.ops r240_18))))))) (.seq (.ops r240_19) (.seq (.ops r240_20) (.block 2 (.loop (.seq (.ops r240_21) (.seq (.cond (t 79) (.skip) (.exit 2)) (.seq (.block 3 (.seq (.ops r240_22) (.seq (.ops r240_23) (.seq (.ops r240_24) (.seq (.ops r240_25) (.ops r240_26)))))) (.ops r240_27)))))))))) (.seq (.ops r240_28) (.seq (.ops r240_29) (.ret)))))))))
theorem en240 : En ir240 104 [.tmp 8] 240 := acalls_enter_b mixed Tryz.func240 Tryz.ntmps240 (by kernel_rfl) (by kernel_rfl)
theorem ca240 : Ca 240 := cal Tryz.func240
end Go.Proofs

/- The codes of Parse and of the function it defers, in parts, tied to the loaded program. No conditions. -/
namespace Go.Proofs
open Go.Abs
noncomputable abbrev bod13 : Code := Tryz.f13.body.getD .skip
noncomputable abbrev bod35 : Code := Tryz.f35.body.getD .skip
def r13a_0 : List (AOp × List AOp) := [(⟨some 2, .alloc 38, none⟩, []),
  (⟨some 3, .alloc 3, none⟩, []),
  (⟨some 4, .alloc 39, none⟩, [])]
def ir13a : ACode := .ops r13a_0
theorem tr13a : trCode 14 (Code.fst bod13) = some ir13a := by kernel_rfl
def r13b_0 : List (AOp × List AOp) := [(⟨some 5, .move (.tmp 0), none⟩, []),
  (⟨some 6, .call ⟨.builtin .len, #[(.tmp 5)], #[9]⟩, none⟩, []),
  (⟨some 7, .binOp .gtr 3 (.tmp 6) (.const (.int .i64 400)) 3, none⟩, [])]
def r13b_1 : List (AOp × List AOp) := [(⟨some 8, .build 38 #[], none⟩, []),
  (⟨none, .store 38 (.tmp 2) (.tmp 8), none⟩, []),
  (⟨none, .store 3 (.tmp 3) (.const (.int .i64 0)), none⟩, []),
  (⟨none, .store 39 (.tmp 4) (.const (.int .i64 2)), none⟩, [])]
def ir13b : ACode := .seq (.ops r13b_0) (.cond (.tmp 7) (.seq (.ops r13b_1) (.ret)) (.skip))
theorem tr13b : trCode 14 (Code.fst (Code.snd bod13)) = some ir13b := by kernel_rfl
def r13c : List (AOp × List AOp) := [(⟨some 10, .move (.tmp 0), none⟩, []),
  (⟨some 11, .build 77 #[(0, (.tmp 10))], none⟩, []),
  (⟨some 12, .box 77 (.tmp 11), none⟩, [])]
theorem tr13c : trOps 14 (Code.oper (Code.fst (Code.snd (Code.snd (Code.snd bod13))))).toArray ((Code.oper (Code.fst (Code.snd (Code.snd (Code.snd bod13))))).take 3) = some r13c := by kernel_rfl
def r13e : List (AOp × List AOp) := [(⟨none, .store 38 (.tmp 2) (.tmp 13), none⟩, []),
  (⟨none, .store 3 (.tmp 3) (.const (.int .i64 0)), none⟩, []),
  (⟨none, .store 39 (.tmp 4) (.const (.int .i64 0)), none⟩, [])]
theorem tr13e : trOps 14 (Code.oper (Code.fst (Code.snd (Code.snd (Code.snd bod13))))).toArray ((Code.oper (Code.fst (Code.snd (Code.snd (Code.snd bod13))))).drop 4) = some r13e := by kernel_rfl
def r13d : List (AOp × List AOp) := [(⟨some 9, .makeFunc (.func 35) #[] #[(.tmp 2), (.tmp 3), (.tmp 4)], none⟩, [])]
theorem tr13d : trOps 14 (Code.oper (Code.fst (Code.snd (Code.snd bod13)))).toArray ((Code.oper (Code.fst (Code.snd (Code.snd bod13)))).take 1) = some r13d := by kernel_rfl
def r35y_0 : List (AOp × List AOp) := [(⟨some 14, .move (.tmp 5), none⟩, []),
  (⟨some 15, .unOp .not 4 (.tmp 14), none⟩, [])]
def r35y_1 : List (AOp × List AOp) := [(⟨some 16, .move (.tmp 3), none⟩, []),
  (⟨none, .panic (.tmp 16), none⟩, [])]
def r35y_2 : List (AOp × List AOp) := [(⟨some 17, .build 38 #[], none⟩, []),
  (⟨some 18, .fieldAddr 71 (.tmp 4) 0, none⟩, []),
  (⟨some 19, .load 3 (.tmp 18), none⟩, []),
  (⟨some 20, .fieldAddr 71 (.tmp 4) 1, none⟩, []),
  (⟨some 21, .load 39 (.tmp 20), none⟩, []),
  (⟨none, .store 38 (.tmp 0) (.tmp 17), none⟩, [⟨some 21, .load 39 (.tmp 20), none⟩, ⟨some 19, .load 3 (.tmp 18), none⟩]),
  (⟨none, .store 3 (.tmp 1) (.tmp 19), none⟩, [⟨some 21, .load 39 (.tmp 20), none⟩]),
  (⟨none, .store 39 (.tmp 2) (.tmp 21), none⟩, [])]
def ir35y : ACode := .seq (.seq (.ops r35y_0) (.cond (.tmp 15) (.ops r35y_1) (.skip))) (.ops r35y_2)
theorem tr35y : trCode 22 (Code.snd (Code.fst (Code.snd (Code.snd bod35)))) = some ir35y := by kernel_rfl
def r35x : List (AOp × List AOp) := [(⟨some 9, .move (.tmp 11), none⟩, []),
  (⟨some 12, .extract (.tmp 9) 0, none⟩, []),
  (⟨some 13, .extract (.tmp 9) 1, none⟩, []),
  (⟨some 4, .alloc 71, none⟩, []),
  (⟨none, .store 71 (.tmp 4) (.tmp 12), none⟩, []),
  (⟨some 5, .assign (.tmp 13), none⟩, [])]
theorem tr35x : trOps 22 (Code.oper (Code.fst (Code.fst (Code.snd (Code.snd bod35))))).toArray ((Code.oper (Code.fst (Code.fst (Code.snd (Code.snd bod35))))).drop 2) = some r35x := by kernel_rfl
noncomputable abbrev op13 (c : Code) (i : Nat) : Oper := (Code.oper c).getD i default
theorem b13 : Tryz.f13.body = some (.seq (Code.fst bod13) (.seq (Code.fst (Code.snd bod13)) (.seq (.region 3 (Code.oper (Code.fst (Code.snd (Code.snd bod13)))).toArray false) (.seq (.region 4 (Code.oper (Code.fst (Code.snd (Code.snd (Code.snd bod13))))).toArray false) .ret)))) := by kernel_rfl
theorem b35 : Tryz.f35.body = some (.seq (.region 0 (Code.oper (Code.fst bod35)).toArray false) (.seq (.region 1 (Code.oper (Code.fst (Code.snd bod35))).toArray false) (.cond (.tmp 8) (.seq (.region 2 (Code.oper (Code.fst (Code.fst (Code.snd (Code.snd bod35))))).toArray false) (Code.snd (Code.fst (Code.snd (Code.snd bod35))))) .skip))) := by kernel_rfl
end Go.Proofs
