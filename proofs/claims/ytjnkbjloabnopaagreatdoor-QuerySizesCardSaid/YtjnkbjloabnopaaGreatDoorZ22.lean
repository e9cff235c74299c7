/- The codes of some functions, tied to the loaded program. No conditions. -/
import Derived.Test.YtjnkbjloabnopaaGreatDoorZ21
namespace Go.Proofs
open Go.Abs Go.Abs.I
def r28_0 : L := [o 1 (.box 32 (t 0)),
  o 2 (a (k 0))]
def r28_1 : L := [o 3 (l 32 (t 1)),
  o 4 (.call ⟨.value (f 73), #[(t 3)], #[32]⟩),
  o 5 (.unOp .not 4 (t 4))]
def r28_2 : L := [o 2 (a (k 0))]
def r28_3 : L := [o 6 (l 32 (t 1)),
  o 7 (.call ⟨.value (f 80), #[(t 6)], #[32]⟩),
  o 2 (a (t 7))]
def ir28 : ACode := .seq (.ops r28_0) (.seq (.seq (.ops r28_1) (.cond (t 5) (.seq (.ops r28_2) (.ret)) (.skip))) (.seq (.ops r28_3) (.ret)))
theorem en28 : En ir28 8 [.tmp 2] 28 := acalls_enter_b mixed Tryz.func28 Tryz.ntmps28 (by kernel_rfl) (by kernel_rfl)
theorem ca28 : Ca 28 := cal Tryz.func28
def r73_0 : L := [o 1 (.box 32 (t 0)),
  o 2 (a (b false))]
def r73_1 : L := [o 3 (l 32 (t 1)),
  o 4 (.call ⟨.value (f 59), #[(t 3)], #[32]⟩),
  o 5 (m (t 4)),
  y 6 (l 32 (t 1)) 5 true,
  y 7 (.call ⟨.value (f 119), #[(t 6), (f 142)], #[32, 105]⟩) 5 true,
  o 8 (.pick (t 5) (t 7) (b false)),
  o 9 (m (t 8)),
  y 10 (l 32 (t 1)) 9 true,
  y 11 (.call ⟨.value (f 119), #[(t 10), (f 143)], #[32, 105]⟩) 9 true,
  o 12 (.pick (t 9) (t 11) (b false)),
  o 2 (a (t 12))]
def ir73 : ACode := .seq (.ops r73_0) (.seq (.ops r73_1) (.ret))
theorem en73 : En ir73 13 [.tmp 2] 73 := acalls_enter_b mixed Tryz.func73 Tryz.ntmps73 (by kernel_rfl) (by kernel_rfl)
theorem ca73 : Ca 73 := cal Tryz.func73
def r59_0 : L := [o 1 (.box 32 (t 0)),
  o 2 (a (b false))]
def r59_1 : L := [o 3 (l 32 (t 1)),
  o 4 (.call ⟨.value (f 118), #[(t 3), (k 1)], #[32, 3]⟩),
  o 5 (m (t 4)),
  y 6 (l 32 (t 1)) 5 true,
  y 7 (.call ⟨.value (f 119), #[(t 6), (f 120)], #[32, 105]⟩) 5 true,
  o 8 (.pick (t 5) (t 7) (b false)),
  o 2 (a (t 8))]
def ir59 : ACode := .seq (.ops r59_0) (.seq (.ops r59_1) (.ret))
theorem en59 : En ir59 9 [.tmp 2] 59 := acalls_enter_b mixed Tryz.func59 Tryz.ntmps59 (by kernel_rfl) (by kernel_rfl)
theorem ca59 : Ca 59 := cal Tryz.func59
def r118_0 : L := [o 2 (.box 32 (t 0)),
  o 3 (.box 3 (t 1)),
  o 4 (a (b false))]
def r118_1 : L := [o 5 (l 3 (t 3)),
  o 6 (.binOp .leq 3 (t 5) (k 100) 3),
  o 7 (m (t 6)),
  y 8 (fa 32 (t 2) 6) 7 true,
  y 9 (l 30 (t 8)) 7 true,
  y 10 (.makeFunc (.func 167) #[] #[(t 3)]) 7 true,
  y 11 (.call ⟨.value (f 63), #[(t 9), (t 10)], #[30, 105]⟩) 7 true,
  y 12 (.unOp .not 4 (t 11)) 7 true,
  o 13 (.pick (t 7) (t 12) (b false)),
  o 4 (a (t 13))]
def ir118 : ACode := .seq (.ops r118_0) (.seq (.ops r118_1) (.ret))
theorem en118 : En ir118 14 [.tmp 4] 118 := acalls_enter_b mixed Tryz.func118 Tryz.ntmps118 (by kernel_rfl) (by kernel_rfl)
theorem ca118 : Ca 118 := cal Tryz.func118
def r167_0 : L := [o 2 (.box 32 (t 0)),
  o 3 (a (b false))]
def r167_1 : L := [o 4 (l 32 (t 2)),
  o 5 (l 3 (t 1)),
  o 6 (.binOp .add 3 (t 5) (k 1) 3),
  o 7 (.call ⟨.value (f 118), #[(t 4), (t 6)], #[32, 3]⟩),
  o 8 (.unOp .not 4 (t 7)),
  o 3 (a (t 8))]
def ir167 : ACode := .seq (.ops r167_0) (.seq (.ops r167_1) (.ret))
theorem en167 : En ir167 9 [.tmp 3] 167 := acalls_enter_b mixed Tryz.func167 Tryz.ntmps167 (by kernel_rfl) (by kernel_rfl)
theorem ca167 : Ca 167 := cal Tryz.func167
def r63_0 : L := [o 4 (a (b false))]
def r63_1 : L := [o 5 (m (t 0)),
  o 6 (m (t 1)),
  o 7 (.call ⟨.value (f 126), #[(t 5), (t 6)], #[30, 105]⟩),
  o 8 (.binOp .geq 3 (t 7) (k 0) 3),
  o 4 (a (t 8))]
def ir63 : ACode := .seq (.ops r63_0) (.seq (.ops r63_1) (.ret))
theorem en63 : En ir63 9 [.tmp 4] 63 := acalls_enter_b mixed Tryz.func63 Tryz.ntmps63 (by kernel_rfl) (by kernel_rfl)
theorem ca63 : Ca 63 := cal Tryz.func63
def r126_0 : L := [o 4 (a (k 0))]
def r126_1 : L := [o 6 (m (t 0)),
  o 7 (ln (t 6) 30),
  o 8 (m (k 0))]
def r126_2 : L := [o 9 (.binOp .lss 3 (t 8) (t 7) 3)]
def r126_3 : L := [o 10 (m (t 8)),
  o 5 (a (t 10))]
def r126_4 : L := [o 11 (m (t 1)),
  o 12 (m (t 0)),
  o 13 (m (t 5)),
  o 14 (.indexAddr 30 (t 12) (t 13)),
  o 15 (l 32 (t 14)),
  o 16 (.call ⟨.value (t 11), #[(t 15)], #[32]⟩)]
def r126_5 : L := [o 17 (m (t 5)),
  o 4 (a (t 17))]
def r126_6 : L := [o 18 (.binOp .add 3 (t 8) (k 1) 3),
  o 8 (m (t 18))]
def r126_7 : L := [o 4 (a (k (-1)))]
def ir126 : ACode := .seq (.ops r126_0) (.seq (.seq (.ops r126_1) (.block 0 (.loop (.seq (.ops r126_2) (.seq (.cond (t 9) (.skip) (.exit 0)) (.seq (.block 1 (.seq (.ops r126_3) (.seq (.ops r126_4) (.cond (t 16) (.seq (.ops r126_5) (.ret)) (.skip))))) (.ops r126_6))))))) (.seq (.ops r126_7) (.ret)))
theorem en126 : En ir126 19 [.tmp 4] 126 := acalls_enter_b mixed Tryz.func126 Tryz.ntmps126 (by kernel_rfl) (by kernel_rfl)
theorem ca126 : Ca 126 := cal Tryz.func126
def r119_0 : L := [o 2 (.box 32 (t 0)),
  o 3 (.box 105 (t 1)),
  o 4 (a (b false))]
def r119_1 : L := [o 5 (l 105 (t 3)),
  o 6 (l 32 (t 2)),
  o 7 (.call ⟨.value (t 5), #[(t 6)], #[32]⟩),
  o 8 (m (t 7)),
  y 9 (fa 32 (t 2) 6) 8 true,
  y 10 (l 30 (t 9)) 8 true,
  y 11 (.makeFunc (.func 168) #[] #[(t 3)]) 8 true,
  y 12 (.call ⟨.value (f 63), #[(t 10), (t 11)], #[30, 105]⟩) 8 true,
  y 13 (.unOp .not 4 (t 12)) 8 true,
  o 14 (.pick (t 8) (t 13) (b false)),
  o 4 (a (t 14))]
def ir119 : ACode := .seq (.ops r119_0) (.seq (.ops r119_1) (.ret))
theorem en119 : En ir119 15 [.tmp 4] 119 := acalls_enter_b mixed Tryz.func119 Tryz.ntmps119 (by kernel_rfl) (by kernel_rfl)
theorem ca119 : Ca 119 := cal Tryz.func119
def r168_0 : L := [o 2 (.box 32 (t 0)),
  o 3 (a (b false))]
def r168_1 : L := [o 4 (l 32 (t 2)),
  o 5 (l 105 (t 1)),
  o 6 (.call ⟨.value (f 119), #[(t 4), (t 5)], #[32, 105]⟩),
  o 7 (.unOp .not 4 (t 6)),
  o 3 (a (t 7))]
def ir168 : ACode := .seq (.ops r168_0) (.seq (.ops r168_1) (.ret))
theorem en168 : En ir168 8 [.tmp 3] 168 := acalls_enter_b mixed Tryz.func168 Tryz.ntmps168 (by kernel_rfl) (by kernel_rfl)
theorem ca168 : Ca 168 := cal Tryz.func168
def r120_0 : L := [o 1 (.box 32 (t 0)),
  o 2 (a (b false))]
def r120_1 : L := [o 3 (a (b false)),
  o 4 (a (b false)),
  o 5 (a (b false))]
def r120_2 : L := [o 6 (a (k 0)),
  o 7 (a (k 0))]
def r120_3 : L := [o 8 (fa 32 (t 1) 0),
  o 9 (l 3 (t 8))]
def r120_4 : L := [o 11 (.binOp .eql 3 (t 9) (k 1) 3),
  o 10 (a (t 11))]
def r120_5 : L := [o 3 (a (b true))]
def r120_6 : L := [o 13 (.binOp .eql 3 (t 9) (k 2) 3),
  o 12 (a (t 13))]
def r120_7 : L := [o 14 (.binOp .eql 3 (t 9) (k 3) 3),
  o 12 (a (t 14))]
def r120_8 : L := [o 4 (a (b true))]
def r120_9 : L := [o 16 (.binOp .eql 3 (t 9) (k 4) 3),
  o 15 (a (t 16))]
def r120_10 : L := [o 17 (.binOp .eql 3 (t 9) (k 5) 3),
  o 15 (a (t 17))]
def r120_11 : L := [o 18 (fa 32 (t 1) 6),
  o 19 (l 30 (t 18)),
  o 20 (ln (t 19) 30),
  o 6 (a (k 2)),
  o 7 (a (t 20))]
def r120_12 : L := [o 22 (.binOp .eql 3 (t 9) (k 6) 3),
  o 21 (a (t 22))]
def r120_13 : L := [o 5 (a (b true))]
def r120_14 : L := [o 6 (a (k 1)),
  o 7 (a (k 1))]
def r120_15 : L := [o 2 (a (b false))]
def r120_16 : L := [o 23 (m (t 3)),
  o 24 (m (t 23)),
  y 25 (fa 32 (t 1) 1) 24 false,
  y 26 (l 29 (t 25)) 24 false,
  y 27 (.call ⟨.value (f 169), #[(t 26)], #[29]⟩) 24 false,
  y 28 (m (t 27)) 24 false,
  y 29 (fa 32 (t 1) 2) 28 true,
  y 30 (l 9 (t 29)) 28 true,
  y 31 (.binOp .eql 9 (t 30) (s #[]) 9) 28 true,
  y 32 (.pick (t 28) (t 31) (b false)) 24 false,
  o 33 (.pick (t 24) (b true) (t 32)),
  o 34 (m (t 33)),
  y 35 (m (t 4)) 34 true,
  y 36 (m (t 35)) 34 true,
  y 37 (fa 32 (t 1) 3) 36 false,
  y 38 (l 9 (t 37)) 36 false,
  y 39 (.binOp .eql 9 (t 38) (s #[]) 9) 36 false,
  y 40 (.pick (t 36) (b true) (t 39)) 34 true,
  o 41 (.pick (t 34) (t 40) (b false)),
  o 42 (m (t 41)),
  y 43 (m (t 5)) 42 true,
  y 44 (m (t 43)) 42 true,
  y 45 (fa 32 (t 1) 4) 44 false,
  y 46 (l 3 (t 45)) 44 false,
  y 47 (.binOp .eql 3 (t 46) (k 0) 3) 44 false,
  y 48 (m (t 47)) 44 false,
  y 49 (fa 32 (t 1) 5) 48 true,
  y 50 (l 3 (t 49)) 48 true,
  y 51 (.binOp .eql 3 (t 50) (k 0) 3) 48 true,
  y 52 (.pick (t 48) (t 51) (b false)) 44 false,
  y 53 (.pick (t 44) (b true) (t 52)) 42 true,
  o 54 (.pick (t 42) (t 53) (b false)),
  o 55 (m (t 54)),
  y 56 (fa 32 (t 1) 6) 55 true,
  y 57 (l 30 (t 56)) 55 true,
  y 58 (ln (t 57) 30) 55 true,
  y 59 (m (t 6)) 55 true,
  y 60 (.binOp .geq 3 (t 58) (t 59) 3) 55 true,
  o 61 (.pick (t 55) (t 60) (b false)),
  o 62 (m (t 61)),
  y 63 (fa 32 (t 1) 6) 62 true,
  y 64 (l 30 (t 63)) 62 true,
  y 65 (ln (t 64) 30) 62 true,
  y 66 (m (t 7)) 62 true,
  y 67 (.binOp .leq 3 (t 65) (t 66) 3) 62 true,
  o 68 (.pick (t 62) (t 67) (b false)),
  o 2 (a (t 68))]
def ir120 : ACode := .seq (.ops r120_0) (.seq (.ops r120_1) (.seq (.ops r120_2) (.seq (.seq (.ops r120_3) (.block 0 (.seq (.ops r120_4) (.cond (t 10) (.ops r120_5) (.seq (.seq (.ops r120_6) (.cond (t 12) (.skip) (.ops r120_7))) (.cond (t 12) (.ops r120_8) (.seq (.seq (.ops r120_9) (.cond (t 15) (.skip) (.ops r120_10))) (.cond (t 15) (.ops r120_11) (.seq (.ops r120_12) (.cond (t 21) (.seq (.ops r120_13) (.ops r120_14)) (.seq (.ops r120_15) (.ret)))))))))))) (.seq (.ops r120_16) (.ret)))))
theorem en120 : En ir120 69 [.tmp 2] 120 := acalls_enter_b mixed Tryz.func120 Tryz.ntmps120 (by kernel_rfl) (by kernel_rfl)
theorem ca120 : Ca 120 := cal Tryz.func120
def r169_0 : L := [o 1 (.box 29 (t 0)),
  o 2 (a (b false))]
def r169_1 : L := [o 3 (fa 29 (t 1) 0),
  o 4 (l 3 (t 3)),
  o 5 (.binOp .eql 3 (t 4) (k 0) 3),
  o 6 (m (t 5)),
  y 7 (fa 29 (t 1) 1) 6 true,
  y 8 (l 9 (t 7)) 6 true,
  y 9 (.binOp .eql 9 (t 8) (s #[]) 9) 6 true,
  o 10 (.pick (t 6) (t 9) (b false)),
  o 11 (m (t 10)),
  y 12 (fa 29 (t 1) 2) 11 true,
  y 13 (l 9 (t 12)) 11 true,
  y 14 (.binOp .eql 9 (t 13) (s #[]) 9) 11 true,
  o 15 (.pick (t 11) (t 14) (b false)),
  o 16 (m (t 15)),
  y 17 (fa 29 (t 1) 3) 16 true,
  y 18 (l 9 (t 17)) 16 true,
  y 19 (.binOp .eql 9 (t 18) (s #[]) 9) 16 true,
  o 20 (.pick (t 16) (t 19) (b false)),
  o 21 (m (t 20)),
  y 22 (fa 29 (t 1) 4) 21 true,
  y 23 (l 9 (t 22)) 21 true,
  y 24 (.binOp .eql 9 (t 23) (s #[]) 9) 21 true,
  o 25 (.pick (t 21) (t 24) (b false)),
  o 26 (m (t 25)),
  y 27 (fa 29 (t 1) 5) 26 true,
  y 28 (l 4 (t 27)) 26 true,
  y 29 (.unOp .not 4 (t 28)) 26 true,
  o 30 (.pick (t 26) (t 29) (b false)),
  o 31 (m (t 30)),
  y 32 (fa 29 (t 1) 6) 31 true,
  y 33 (l 27 (t 32)) 31 true,
  y 34 (ln (t 33) 27) 31 true,
  y 35 (.binOp .eql 3 (t 34) (k 0) 3) 31 true,
  o 36 (.pick (t 31) (t 35) (b false)),
  o 2 (a (t 36))]
def ir169 : ACode := .seq (.ops r169_0) (.seq (.ops r169_1) (.ret))
theorem en169 : En ir169 37 [.tmp 2] 169 := acalls_enter_b mixed Tryz.func169 Tryz.ntmps169 (by kernel_rfl) (by kernel_rfl)
theorem ca169 : Ca 169 := cal Tryz.func169
def r142_0 : L := [o 1 (.box 32 (t 0)),
  o 2 (a (b false))]
def r142_1 : L := [o 4 (fa 32 (t 1) 0),
  o 5 (l 3 (t 4)),
  o 6 (.binOp .eql 3 (t 5) (k 2) 3),
  o 7 (m (t 6)),
  y 8 (fa 32 (t 1) 0) 7 false,
  y 9 (l 3 (t 8)) 7 false,
  y 10 (.binOp .eql 3 (t 9) (k 3) 3) 7 false,
  o 11 (.pick (t 7) (b true) (t 10)),
  o 3 (a (t 11))]
def r142_2 : L := [o 12 (m (t 3)),
  o 13 (.unOp .not 4 (t 12)),
  o 14 (m (t 13)),
  y 15 (fa 32 (t 1) 3) 14 false,
  y 16 (l 9 (t 15)) 14 false,
  y 17 (.call ⟨.value (f 147), #[(t 16)], #[9]⟩) 14 false,
  o 18 (.pick (t 14) (b true) (t 17)),
  o 19 (m (t 18)),
  y 20 (fa 32 (t 1) 2) 19 true,
  y 21 (l 9 (t 20)) 19 true,
  y 22 (.binOp .eql 9 (t 21) (s #[]) 9) 19 true,
  y 23 (m (t 22)) 19 true,
  y 24 (fa 32 (t 1) 2) 23 false,
  y 25 (l 9 (t 24)) 23 false,
  y 26 (.call ⟨.value (f 147), #[(t 25)], #[9]⟩) 23 false,
  y 27 (.pick (t 23) (b true) (t 26)) 19 true,
  o 28 (.pick (t 19) (t 27) (b false)),
  o 2 (a (t 28))]
def ir142 : ACode := .seq (.ops r142_0) (.seq (.ops r142_1) (.seq (.ops r142_2) (.ret)))
theorem en142 : En ir142 29 [.tmp 2] 142 := acalls_enter_b mixed Tryz.func142 Tryz.ntmps142 (by kernel_rfl) (by kernel_rfl)
theorem ca142 : Ca 142 := cal Tryz.func142
def r143_0 : L := [o 1 (.box 32 (t 0)),
  o 2 (a (b false))]
def r143_1 : L := [o 3 (fa 32 (t 1) 0),
  o 4 (l 3 (t 3)),
  o 5 (.binOp .neq 3 (t 4) (k 6) 3),
  o 6 (m (t 5)),
  y 7 (fa 32 (t 1) 4) 6 false,
  y 8 (l 3 (t 7)) 6 false,
  y 9 (.binOp .geq 3 (t 8) (k 0) 3) 6 false,
  y 10 (m (t 9)) 6 false,
  y 11 (fa 32 (t 1) 4) 10 true,
  y 12 (l 3 (t 11)) 10 true,
  y 13 (.binOp .leq 3 (t 12) (k 16) 3) 10 true,
  y 14 (.pick (t 10) (t 13) (b false)) 6 false,
  y 15 (m (t 14)) 6 false,
  y 16 (fa 32 (t 1) 5) 15 true,
  y 17 (l 3 (t 16)) 15 true,
  y 18 (.binOp .eql 3 (t 17) (k (-1)) 3) 15 true,
  y 19 (m (t 18)) 15 true,
  y 20 (fa 32 (t 1) 5) 19 false,
  y 21 (l 3 (t 20)) 19 false,
  y 22 (fa 32 (t 1) 4) 19 false,
  y 23 (l 3 (t 22)) 19 false,
  y 24 (.binOp .geq 3 (t 21) (t 23) 3) 19 false,
  y 25 (m (t 24)) 19 false,
  y 26 (fa 32 (t 1) 5) 25 true,
  y 27 (l 3 (t 26)) 25 true,
  y 28 (.binOp .leq 3 (t 27) (k 16) 3) 25 true,
  y 29 (.pick (t 25) (t 28) (b false)) 19 false,
  y 30 (.pick (t 19) (b true) (t 29)) 15 true,
  y 31 (.pick (t 15) (t 30) (b false)) 6 false,
  o 32 (.pick (t 6) (b true) (t 31)),
  o 2 (a (t 32))]
def ir143 : ACode := .seq (.ops r143_0) (.seq (.ops r143_1) (.ret))
theorem en143 : En ir143 33 [.tmp 2] 143 := acalls_enter_b mixed Tryz.func143 Tryz.ntmps143 (by kernel_rfl) (by kernel_rfl)
theorem ca143 : Ca 143 := cal Tryz.func143
def r147_0 : L := [o 2 (a (b false))]
def r147_1 : L := [o 4 (m (t 0)),
  o 5 (ln (t 4) 9),
  o 6 (.binOp .lss 3 (t 5) (k 1) 3),
  o 7 (m (t 6)),
  y 8 (m (t 0)) 7 false,
  y 9 (ln (t 8) 9) 7 false,
  y 10 (.binOp .gtr 3 (t 9) (k 32) 3) 7 false,
  o 11 (.pick (t 7) (b true) (t 10)),
  o 12 (m (t 11)),
  y 13 (m (t 0)) 12 false,
  y 14 (.index 9 (t 13) (k 0)) 12 false,
  y 15 (.call ⟨.value (f 178), #[(t 14)], #[5]⟩) 12 false,
  y 16 (.unOp .not 4 (t 15)) 12 false,
  o 17 (.pick (t 12) (b true) (t 16))]
def r147_2 : L := [o 2 (a (b false))]
def r147_3 : L := [o 18 (m (t 0)),
  o 19 (ln (t 18) 9),
  o 20 (m (k 0))]
def r147_4 : L := [o 21 (.binOp .lss 3 (t 20) (t 19) 3)]
def r147_5 : L := [o 22 (m (t 20)),
  o 3 (a (t 22))]
def r147_6 : L := [o 23 (m (t 0)),
  o 24 (m (t 3)),
  o 25 (.index 9 (t 23) (t 24)),
  o 26 (.call ⟨.value (f 179), #[(t 25)], #[5]⟩),
  o 27 (.unOp .not 4 (t 26))]
def r147_7 : L := [o 2 (a (b false))]
def r147_8 : L := [o 28 (.binOp .add 3 (t 20) (k 1) 3),
  o 20 (m (t 28))]
def r147_9 : L := [o 2 (a (b true))]
def ir147 : ACode := .seq (.ops r147_0) (.seq (.seq (.ops r147_1) (.cond (t 17) (.seq (.ops r147_2) (.ret)) (.skip))) (.seq (.seq (.ops r147_3) (.block 0 (.loop (.seq (.ops r147_4) (.seq (.cond (t 21) (.skip) (.exit 0)) (.seq (.block 1 (.seq (.ops r147_5) (.seq (.ops r147_6) (.cond (t 27) (.seq (.ops r147_7) (.ret)) (.skip))))) (.ops r147_8))))))) (.seq (.ops r147_9) (.ret))))
theorem en147 : En ir147 29 [.tmp 2] 147 := acalls_enter_b mixed Tryz.func147 Tryz.ntmps147 (by kernel_rfl) (by kernel_rfl)
theorem ca147 : Ca 147 := cal Tryz.func147
def r178_0 : L := [o 2 (a (b false))]
def r178_1 : L := [o 3 (m (t 0)),
  o 4 (.binOp .geq 5 (t 3) (.const (.int .u8 65)) 5),
  o 5 (m (t 4)),
  y 6 (m (t 0)) 5 true,
  y 7 (.binOp .leq 5 (t 6) (.const (.int .u8 90)) 5) 5 true,
  o 8 (.pick (t 5) (t 7) (b false)),
  o 9 (m (t 8)),
  y 10 (m (t 0)) 9 false,
  y 11 (.binOp .geq 5 (t 10) (.const (.int .u8 97)) 5) 9 false,
  y 12 (m (t 11)) 9 false,
  y 13 (m (t 0)) 12 true,
  y 14 (.binOp .leq 5 (t 13) (.const (.int .u8 122)) 5) 12 true,
  y 15 (.pick (t 12) (t 14) (b false)) 9 false,
  o 16 (.pick (t 9) (b true) (t 15)),
  o 17 (m (t 16)),
  y 18 (m (t 0)) 17 false,
  y 19 (.binOp .eql 5 (t 18) (.const (.int .u8 95)) 5) 17 false,
  o 20 (.pick (t 17) (b true) (t 19)),
  o 2 (a (t 20))]
def ir178 : ACode := .seq (.ops r178_0) (.seq (.ops r178_1) (.ret))
theorem en178 : En ir178 21 [.tmp 2] 178 := acalls_enter_b mixed Tryz.func178 Tryz.ntmps178 (by kernel_rfl) (by kernel_rfl)
theorem ca178 : Ca 178 := cal Tryz.func178
def r179_0 : L := [o 2 (a (b false))]
def r179_1 : L := [o 3 (m (t 0)),
  o 4 (.call ⟨.value (f 178), #[(t 3)], #[5]⟩),
  o 5 (m (t 4)),
  y 6 (m (t 0)) 5 false,
  y 7 (.binOp .geq 5 (t 6) (.const (.int .u8 48)) 5) 5 false,
  y 8 (m (t 7)) 5 false,
  y 9 (m (t 0)) 8 true,
  y 10 (.binOp .leq 5 (t 9) (.const (.int .u8 57)) 5) 8 true,
  y 11 (.pick (t 8) (t 10) (b false)) 5 false,
  o 12 (.pick (t 5) (b true) (t 11)),
  o 13 (m (t 12)),
  y 14 (m (t 0)) 13 false,
  y 15 (.binOp .eql 5 (t 14) (.const (.int .u8 45)) 5) 13 false,
  o 16 (.pick (t 13) (b true) (t 15)),
  o 2 (a (t 16))]
def ir179 : ACode := .seq (.ops r179_0) (.seq (.ops r179_1) (.ret))
theorem en179 : En ir179 17 [.tmp 2] 179 := acalls_enter_b mixed Tryz.func179 Tryz.ntmps179 (by kernel_rfl) (by kernel_rfl)
theorem ca179 : Ca 179 := cal Tryz.func179
def r80_0 : L := [o 1 (.box 32 (t 0)),
  o 2 (a (k 0))]
def r80_1 : L := [o 3 (a (k 0))]
def r80_2 : L := [o 6 (fa 32 (t 1) 6),
  o 7 (l 30 (t 6)),
  o 8 (ln (t 7) 30),
  o 9 (m (k 0))]
def r80_3 : L := [o 10 (.binOp .lss 3 (t 9) (t 8) 3)]
def r80_4 : L := [o 11 (.indexAddr 30 (t 7) (t 9)),
  o 12 (l 32 (t 11)),
  o 5 (.alloc 32),
  q (.store 32 (t 5) (t 12))]
def r80_5 : L := [o 13 (m (t 3)),
  o 14 (l 32 (t 5)),
  o 15 (.call ⟨.value (f 80), #[(t 14)], #[32]⟩),
  o 16 (.binOp .add 3 (t 13) (t 15) 3),
  o 17 (.call ⟨.builtin .min, #[(t 16), (k 1000)], #[3, 3]⟩),
  o 3 (a (t 17))]
def r80_6 : L := [o 18 (.binOp .add 3 (t 9) (k 1) 3),
  o 9 (m (t 18))]
def r80_7 : L := [o 20 (fa 32 (t 1) 6),
  o 21 (l 30 (t 20)),
  o 22 (ln (t 21) 30),
  o 23 (.binOp .eql 3 (t 22) (k 0) 3),
  o 19 (a (t 23))]
def r80_8 : L := [o 2 (a (k 1))]
def r80_9 : L := [o 25 (fa 32 (t 1) 0),
  o 26 (l 3 (t 25)),
  o 27 (.binOp .neq 3 (t 26) (k 6) 3),
  o 28 (m (t 27)),
  y 29 (fa 32 (t 1) 5) 28 false,
  y 30 (l 3 (t 29)) 28 false,
  y 31 (.binOp .eql 3 (t 30) (k 0) 3) 28 false,
  o 32 (.pick (t 28) (b true) (t 31)),
  o 24 (a (t 32))]
def r80_10 : L := [o 33 (m (t 3)),
  o 2 (a (t 33))]
def r80_11 : L := [o 35 (fa 32 (t 1) 5),
  o 36 (l 3 (t 35)),
  o 37 (.binOp .lss 3 (t 36) (k 0) 3),
  o 34 (a (t 37))]
def r80_12 : L := [o 38 (m (t 3)),
  o 39 (fa 32 (t 1) 4),
  o 40 (l 3 (t 39)),
  o 41 (.binOp .add 3 (t 40) (k 1) 3),
  o 42 (.binOp .mul 3 (t 38) (t 41) 3),
  o 43 (.call ⟨.builtin .min, #[(t 42), (k 1000)], #[3, 3]⟩),
  o 2 (a (t 43))]
def r80_13 : L := [o 44 (m (t 3)),
  o 45 (fa 32 (t 1) 5),
  o 46 (l 3 (t 45)),
  o 47 (.binOp .mul 3 (t 44) (t 46) 3),
  o 48 (.call ⟨.builtin .min, #[(t 47), (k 1000)], #[3, 3]⟩),
  o 2 (a (t 48))]
def ir80 : ACode := .seq (.ops r80_0) (.seq (.ops r80_1) (.seq (.seq (.ops r80_2) (.block 0 (.loop (.seq (.ops r80_3) (.seq (.cond (t 10) (.skip) (.exit 0)) (.seq (.block 1 (.seq (.ops r80_4) (.ops r80_5))) (.ops r80_6))))))) (.seq (.block 2 (.seq (.ops r80_7) (.cond (t 19) (.seq (.ops r80_8) (.ret)) (.seq (.ops r80_9) (.cond (t 24) (.seq (.ops r80_10) (.ret)) (.seq (.ops r80_11) (.cond (t 34) (.seq (.ops r80_12) (.ret)) (.skip)))))))) (.seq (.ops r80_13) (.ret)))))
theorem en80 : En ir80 49 [.tmp 2] 80 := acalls_enter_b mixed Tryz.func80 Tryz.ntmps80 (by kernel_rfl) (by kernel_rfl)
theorem ca80 : Ca 80 := cal Tryz.func80
def r122_0 : L := [o 1 (.box 35 (t 0)),
  o 2 (a (b false))]
def r122_1 : L := [o 3 (fa 35 (t 1) 0),
  o 4 (l 3 (t 3)),
  o 5 (.binOp .eql 3 (t 4) (k 0) 3),
  o 6 (m (t 5)),
  y 7 (fa 35 (t 1) 1) 6 true,
  y 8 (l 9 (t 7)) 6 true,
  y 9 (.binOp .eql 9 (t 8) (s #[]) 9) 6 true,
  o 10 (.pick (t 6) (t 9) (b false)),
  o 11 (m (t 10)),
  y 12 (fa 35 (t 1) 2) 11 true,
  y 13 (l 9 (t 12)) 11 true,
  y 14 (.binOp .eql 9 (t 13) (s #[]) 9) 11 true,
  o 15 (.pick (t 11) (t 14) (b false)),
  o 16 (m (t 15)),
  y 17 (fa 35 (t 1) 3) 16 true,
  y 18 (l 9 (t 17)) 16 true,
  y 19 (.binOp .eql 9 (t 18) (s #[]) 9) 16 true,
  o 20 (.pick (t 16) (t 19) (b false)),
  o 21 (m (t 20)),
  y 22 (fa 35 (t 1) 4) 21 true,
  y 23 (l 9 (t 22)) 21 true,
  y 24 (.binOp .eql 9 (t 23) (s #[]) 9) 21 true,
  o 25 (.pick (t 21) (t 24) (b false)),
  o 26 (m (t 25)),
  y 27 (fa 35 (t 1) 5) 26 true,
  y 28 (l 9 (t 27)) 26 true,
  y 29 (.binOp .eql 9 (t 28) (s #[]) 9) 26 true,
  o 30 (.pick (t 26) (t 29) (b false)),
  o 31 (m (t 30)),
  y 32 (fa 35 (t 1) 6) 31 true,
  y 33 (l 4 (t 32)) 31 true,
  y 34 (.unOp .not 4 (t 33)) 31 true,
  o 35 (.pick (t 31) (t 34) (b false)),
  o 36 (m (t 35)),
  y 37 (fa 35 (t 1) 7) 36 true,
  y 38 (l 3 (t 37)) 36 true,
  y 39 (.binOp .eql 3 (t 38) (k 0) 3) 36 true,
  o 40 (.pick (t 36) (t 39) (b false)),
  o 41 (m (t 40)),
  y 42 (fa 35 (t 1) 8) 41 true,
  y 43 (l 3 (t 42)) 41 true,
  y 44 (.binOp .eql 3 (t 43) (k 0) 3) 41 true,
  o 45 (.pick (t 41) (t 44) (b false)),
  o 46 (m (t 45)),
  y 47 (fa 35 (t 1) 9) 46 true,
  y 48 (l 23 (t 47)) 46 true,
  y 49 (ln (t 48) 23) 46 true,
  y 50 (.binOp .eql 3 (t 49) (k 0) 3) 46 true,
  o 51 (.pick (t 46) (t 50) (b false)),
  o 52 (m (t 51)),
  y 53 (fa 35 (t 1) 10) 52 true,
  y 54 (l 33 (t 53)) 52 true,
  y 55 (ln (t 54) 33) 52 true,
  y 56 (.binOp .eql 3 (t 55) (k 0) 3) 52 true,
  o 57 (.pick (t 52) (t 56) (b false)),
  o 2 (a (t 57))]
def ir122 : ACode := .seq (.ops r122_0) (.seq (.ops r122_1) (.ret))
theorem en122 : En ir122 58 [.tmp 2] 122 := acalls_enter_b mixed Tryz.func122 Tryz.ntmps122 (by kernel_rfl) (by kernel_rfl)
theorem ca122 : Ca 122 := cal Tryz.func122
def r121_0 : L := [o 4 (a (k 0))]
def r121_1 : L := [o 6 (m (t 0)),
  o 7 (ln (t 6) 36),
  o 8 (m (k 0))]
def r121_2 : L := [o 9 (.binOp .lss 3 (t 8) (t 7) 3)]
def r121_3 : L := [o 10 (m (t 8)),
  o 5 (a (t 10))]
def r121_4 : L := [o 11 (m (t 1)),
  o 12 (m (t 0)),
  o 13 (m (t 5)),
  o 14 (.indexAddr 36 (t 12) (t 13)),
  o 15 (l 62 (t 14)),
  o 16 (.call ⟨.value (t 11), #[(t 15)], #[62]⟩)]
def r121_5 : L := [o 17 (m (t 5)),
  o 4 (a (t 17))]
def r121_6 : L := [o 18 (.binOp .add 3 (t 8) (k 1) 3),
  o 8 (m (t 18))]
def r121_7 : L := [o 4 (a (k (-1)))]
def ir121 : ACode := .seq (.ops r121_0) (.seq (.seq (.ops r121_1) (.block 0 (.loop (.seq (.ops r121_2) (.seq (.cond (t 9) (.skip) (.exit 0)) (.seq (.block 1 (.seq (.ops r121_3) (.seq (.ops r121_4) (.cond (t 16) (.seq (.ops r121_5) (.ret)) (.skip))))) (.ops r121_6))))))) (.seq (.ops r121_7) (.ret)))
theorem en121 : En ir121 19 [.tmp 4] 121 := acalls_enter_b mixed Tryz.func121 Tryz.ntmps121 (by kernel_rfl) (by kernel_rfl)
theorem ca121 : Ca 121 := cal Tryz.func121
def r60_0 : L := [o 4 (a (b false))]
def r60_1 : L := [o 5 (m (t 0)),
  o 6 (m (t 1)),
  o 7 (.call ⟨.value (f 121), #[(t 5), (t 6)], #[36, 107]⟩),
  o 8 (.binOp .geq 3 (t 7) (k 0) 3),
  o 4 (a (t 8))]
def ir60 : ACode := .seq (.ops r60_0) (.seq (.ops r60_1) (.ret))
theorem en60 : En ir60 9 [.tmp 4] 60 := acalls_enter_b mixed Tryz.func60 Tryz.ntmps60 (by kernel_rfl) (by kernel_rfl)
theorem ca60 : Ca 60 := cal Tryz.func60
def r62_0 : L := [o 1 (.box 35 (t 0)),
  o 2 (a (b false))]
def r62_1 : L := [o 5 (l 35 (t 1)),
  o 6 (.call ⟨.value (f 122), #[(t 5)], #[35]⟩)]
def r62_2 : L := [o 2 (a (b true))]
def r62_3 : L := [o 8 (l 35 (t 1)),
  o 9 (.call ⟨.value (f 123), #[(t 8), (k 0), (k 1)], #[35, 3, 3]⟩),
  o 7 (m (t 9)),
  o 10 (.extract (t 7) 0),
  o 11 (.extract (t 7) 1),
  o 3 (a (t 10)),
  o 4 (a (t 11))]
def r62_4 : L := [o 12 (m (t 3)),
  o 13 (.binOp .leq 3 (t 12) (k 60) 3),
  o 14 (m (t 13)),
  y 15 (m (t 4)) 14 true,
  y 16 (.binOp .leq 3 (t 15) (k 20) 3) 14 true,
  o 17 (.pick (t 14) (t 16) (b false)),
  o 18 (m (t 17)),
  y 19 (l 35 (t 1)) 18 true,
  y 20 (.call ⟨.value (f 124), #[(t 19), (f 125)], #[35, 96]⟩) 18 true,
  o 21 (.pick (t 18) (t 20) (b false)),
  o 2 (a (t 21))]
def ir62 : ACode := .seq (.ops r62_0) (.seq (.seq (.ops r62_1) (.cond (t 6) (.seq (.ops r62_2) (.ret)) (.skip))) (.seq (.ops r62_3) (.seq (.ops r62_4) (.ret))))
theorem en62 : En ir62 22 [.tmp 2] 62 := acalls_enter_b mixed Tryz.func62 Tryz.ntmps62 (by kernel_rfl) (by kernel_rfl)
theorem ca62 : Ca 62 := cal Tryz.func62
end Go.Proofs

/- Nodes of patterns: zero conditions, valid names, numbers; a node that has what its kind uses. No conditions. -/
namespace Go.Proofs
open Go.Abs Go.Q
attribute [local irreducible] awp aops Run BodyQ ACalls Back
section
variable {G : Nat → Option Obj} {h : AHeap}

theorem c178 (c : UInt8) : ACalls Tryz.prog G 178 [.int .u8 c.toNat] h (Gives (.bool (beginsB c)) h) := by
  refine en178 (by simp) fun hw => ?_
  refine gt7 ?_ ?_ ?_ ?_ ?_ ?_ ?_ <;> intros
  all_goals refine ⟨?_, rfl⟩
  all_goals simp only [AOut.ret.injEq, AVal.bool.injEq]
  all_goals unfold beginsB
  all_goals rw [Bool.eq_iff_iff]
  all_goals simp
  all_goals omega
theorem c179 (c : UInt8) : ACalls Tryz.prog G 179 [.int .u8 c.toNat] h (Gives (.bool (goesOnB c)) h) := by
  refine en179 (by simp) fun hw => ?_
  refine gt1 ?_
  refine s_call rfl rfl rfl ca178 ?_
  refine (c178 c).mono ?_
  rintro _ _ ⟨rfl, rfl⟩
  refine back trivial ?_
  refine gt4 ?_ ?_ ?_ ?_ <;> intros
  all_goals refine ⟨?_, rfl⟩
  all_goals simp only [AOut.ret.injEq, AVal.bool.injEq]
  all_goals unfold goesOnB
  all_goals rw [Bool.eq_iff_iff]
  all_goals simp_all
  all_goals omega

theorem c169 : ACalls Tryz.prog G 169 [encCa .zero] h (Gives (.bool true) h) := by
  refine ACalls.fin (en169 (by simp) fun hw => ?_)
  refine gt1 ?_
  refine s_box rfl rfl fun b1 hb1 => ⟨trivial, ?_⟩
  try simp only [set_next, new_next] at hb1
  refine gt1 ?_
  exact fin_sub (.new (.refl hw) hb1 _) (.ret _ _ (.refl _)) ⟨rfl, rfl⟩

theorem c122 : ACalls Tryz.prog G 122 [encGa .zero] h (Gives (.bool true) h) := by
  refine ACalls.fin (en122 (by simp) fun hw => ?_)
  refine gt1 ?_
  refine s_box rfl rfl fun b1 hb1 => ⟨trivial, ?_⟩
  try simp only [set_next, new_next] at hb1
  refine gt1 ?_
  exact fin_sub (.new (.refl hw) hb1 _) (.ret _ _ (.refl _)) ⟨rfl, rfl⟩

end
end Go.Proofs

/- Patterns that have their shape, their names and their numbers: what the program's size is. No conditions. -/
namespace Go.Proofs
open Go.Abs Go.Q
attribute [local irreducible] awp aops Run BodyQ ACalls Back
section
variable {G : Nat → Option Obj} {h : AHeap}

theorem encPs_row' {l : List Pat} {k : Nat} {c : Pat} (h : l[k]? = some c) : (encPs l)[(k : Int).toNat]? = some (encP c) := by
  rw [n0, encPs_map, List.getElem?_map, h]; rfl

set_option maxHeartbeats 1000000 in
/-- None of the elements. -/
theorem c126 {l : List Pat} {k : FuncId} {cap : List AVal} (hk : Callable Tryz.prog k) (hl : l.length ≤ 1000000) (K : ∀ y, y ∈ l → ACalls Tryz.prog G k (encPa y :: cap) h (Gives (.bool false) h)) :
    ACalls Tryz.prog G 126 [.sl 13 (encPs l) .frz, .func (.func k) [] cap] h (Gives (.int .i64 (-1)) h) := by
  refine en126 (by simp) fun hw => ?_
  have hlen := encPs_length l
  refine g1 ?_
  refine w_loop (fun e h' n => ∃ i : Nat, i ≤ l.length ∧ n = l.length - i ∧ h' = h ∧ e = [(0, true, .sl 13 (encPs l) .frz), (1, true, .func (.func k) [] cap), (7, true, .int .i64 (encPs l).length), (8, true, .int .i64 i)])
    _ _ (.cons rfl (.cons rfl (.cons rfl (.cons rfl (.nil _))))) ⟨0, by omega, rfl, rfl, rfl⟩ ?_
  rintro _ _ _ ⟨i, hi, rfl, rfl, rfl⟩
  refine g2 ?_ ?_ <;> (repeat intro hb hc)
  · obtain ⟨y, hy⟩ : ∃ y, l[i]? = some y := ⟨_, List.getElem?_eq_getElem (by omega)⟩
    have hrow := encPs_row' hy
    have hmem := List.mem_of_getElem? hy
    have hK := K y hmem
    obtain ⟨a1, ⟨c1, c2, c3, c4, c5, c6, c7⟩, a2, a3, a4, a5, a6⟩ := y
    refine s_ia rfl (tt rfl) (tt rfl) rfl rfl rfl (fun _ => rfl) (by omega) hrow ?_
    refine g1 ?_
    refine s_call rfl rfl rfl hk ?_
    refine hK.mono ?_
    rintro _ _ ⟨rfl, rfl⟩
    refine back trivial ?_
    refine g1 ?_
    exact l_n _ _ (by omega) envv ⟨i + 1, by omega, rfl, rfl, rfl⟩
  · exact ⟨rfl, rfl⟩

theorem c63 {l : List Pat} {k : FuncId} {cap : List AVal} (hk : Callable Tryz.prog k) (hl : l.length ≤ 1000000) (K : ∀ y, y ∈ l → ACalls Tryz.prog G k (encPa y :: cap) h (Gives (.bool false) h)) :
    ACalls Tryz.prog G 63 [.sl 13 (encPs l) .frz, .func (.func k) [] cap] h (Gives (.bool false) h) := by
  refine en63 (by simp) fun hw => ?_
  refine g1 ?_
  refine s_call rfl rfl rfl ca126 ?_
  refine (c126 hk hl K).mono ?_
  rintro _ _ ⟨rfl, rfl⟩
  refine back trivial ?_
  refine g1 ?_
  exact ⟨rfl, rfl⟩

/-! ### nesting -/
theorem c167 {y : Pat} {d : Nat} {b : Nat} (hd : d ≤ 1000) (hb : h.get b = some (.box 3 [.int .i64 d])) (Y : ∀ h, ACalls Tryz.prog G 118 [encPa y, .int .i64 ((d : Int) + 1)] h (Gives (.bool true) h)) :
    ACalls Tryz.prog G 167 [encPa y, .ptr b 0] h (Gives (.bool false) h) := by
  refine ACalls.fin (en167 (by simp) fun hw => ?_)
  obtain ⟨a1, ⟨c1, c2, c3, c4, c5, c6, c7⟩, a2, a3, a4, a5, a6⟩ := y
  have hbn : b < h.next := hw _ _ hb
  refine g1 ?_
  refine s_box rfl rfl fun b1 hb1 => ⟨trivial, ?_⟩
  try simp only [set_next, new_next] at hb1
  refine g1 ?_
  refine s_call rfl rfl rfl ca118 ?_
  refine (Y _).mono ?_
  rintro _ _ ⟨rfl, rfl⟩
  refine back trivial ?_
  refine g1 ?_
  exact fin_sub (.new (.refl hw) hb1 _) (.ret _ _ (.refl _)) ⟨rfl, rfl⟩

set_option maxHeartbeats 1000000 in
theorem c118 {M : Nat} (hM : M ≤ 1000000) {p : Pat} (hp : PatOK M p) : ∀ (d : Nat) (h : AHeap), shallowB p d = true → ACalls Tryz.prog G 118 [encPa p, .int .i64 d] h (Gives (.bool true) h) := by
  induction hp with
  | mk op cond label region lo hi kids hc hl hk ih =>
    intro d h hs
    simp only [shallowB, shallowBs_all, Bool.and_eq_true, decide_eq_true_eq, List.all_eq_true] at hs
    obtain ⟨hd, hs⟩ := hs
    refine ACalls.fin (en118 (by simp) fun hw => ?_)
    obtain ⟨op', nm, ag, vl, lb, fd, kd⟩ := cond
    refine g1 ?_
    refine s_box rfl rfl fun b1 hb1 => ⟨trivial, ?_⟩
    try simp only [set_next, new_next] at hb1
    refine g1 ?_
    refine s_box rfl rfl fun b2 hb2 => ⟨trivial, ?_⟩
    try simp only [set_next, new_next] at hb2
    have hdd : decide ((d : Int) ≤ 100) = true := by simp; omega
    refine g1 ?_
    refine s_call rfl rfl rfl ca63 ?_
    refine (c63 ca167 (by omega) (fun y hy => c167 (d := d) (by omega) hpp fun h => by have := ih y hy (d + 1) h (hs y hy); simpa using this)).mono ?_
    rintro _ _ ⟨rfl, rfl⟩
    refine back trivial ?_
    refine g1 ?_
    exact fin_sub (.new (.new (.refl hw) hb1 _) (by simp only [new_next]; exact hb2) _) (.ret _ _ (.refl _)) ⟨rfl, rfl⟩
end
end Go.Proofs

/- All nodes of a pattern; patterns that have their shape; sizes. No conditions. -/
namespace Go.Proofs
open Go.Abs Go.Q
attribute [local irreducible] awp aops Run BodyQ ACalls Back
section
variable {G : Nat → Option Obj} {h : AHeap}

theorem c168 {y : Pat} {b : Nat} {f : AVal} (hb : h.get b = some (.box 105 [f])) (Y : ∀ h, ACalls Tryz.prog G 119 [encPa y, f] h (Gives (.bool true) h)) :
    ACalls Tryz.prog G 168 [encPa y, .ptr b 0] h (Gives (.bool false) h) := by
  refine ACalls.fin (en168 (by simp) fun hw => ?_)
  obtain ⟨a1, ⟨c1, c2, c3, c4, c5, c6, c7⟩, a2, a3, a4, a5, a6⟩ := y
  have hbn : b < h.next := hw _ _ hb
  refine g1 ?_
  refine s_box rfl rfl fun b1 hb1 => ⟨trivial, ?_⟩
  try simp only [set_next, new_next] at hb1
  refine g1 ?_
  refine s_call rfl rfl rfl ca119 ?_
  refine (Y _).mono ?_
  rintro _ _ ⟨rfl, rfl⟩
  refine back trivial ?_
  refine g1 ?_
  exact fin_sub (.new (.refl hw) hb1 _) (.ret _ _ (.refl _)) ⟨rfl, rfl⟩

set_option maxHeartbeats 1000000 in
/-- All nodes satisfy a function. -/
theorem c119 {M : Nat} (hM : M ≤ 1000000) {F : Pat → Bool} {k : FuncId} (hk : Callable Tryz.prog k) (hF : ∀ y, PatOK M y → F y = true → ∀ h, ACalls Tryz.prog G k [encPa y] h (Gives (.bool true) h)) {p : Pat} (hp : PatOK M p) :
    ∀ h : AHeap, allP F p = true → ACalls Tryz.prog G 119 [encPa p, .func (.func k) [] []] h (Gives (.bool true) h) := by
  induction hp with
  | mk op cond label region lo hi kids hc hl hkid ih =>
    intro h hs
    simp only [allP, allPs_all, Bool.and_eq_true, List.all_eq_true] at hs
    obtain ⟨hd, hs⟩ := hs
    have hF1 := hF _ (.mk op cond label region lo hi kids hc hl hkid) hd
    refine ACalls.fin (en119 (by simp) fun hw => ?_)
    obtain ⟨op', nm, ag, vl, lb, fd, kd⟩ := cond
    refine g1 ?_
    refine s_box rfl rfl fun b1 hb1 => ⟨trivial, ?_⟩
    try simp only [set_next, new_next] at hb1
    refine g1 ?_
    refine s_box rfl rfl fun b2 hb2 => ⟨trivial, ?_⟩
    try simp only [set_next, new_next] at hb2
    refine g1 ?_
    refine s_call rfl rfl rfl hk ?_
    refine (hF1 _).mono ?_
    rintro _ _ ⟨rfl, rfl⟩
    refine back trivial ?_
    refine g1 ?_
    refine s_call rfl rfl rfl ca63 ?_
    refine (c63 ca168 (by omega) (fun y hy => c168 (f := .func (.func k) [] []) hpp fun h => ih y hy h (hs y hy))).mono ?_
    rintro _ _ ⟨rfl, rfl⟩
    refine back trivial ?_
    refine g1 ?_
    exact fin_sub (.new (.new (.refl hw) hb1 _) (by simp only [new_next]; exact hb2) _) (.ret _ _ (.refl _)) ⟨rfl, rfl⟩
end
end Go.Proofs

/- Patterns that have their shape, their names and their numbers, and what their size is. No conditions. -/
namespace Go.Proofs
open Go.Abs Go.Q
attribute [local irreducible] awp aops Run BodyQ ACalls Back
section
variable {G : Nat → Option Obj} {h : AHeap}

set_option maxHeartbeats 1000000 in
theorem c147 {s : Str} (hs : nameB s = true) : ACalls Tryz.prog G 147 [.str s] h (Gives (.bool true) h) := by
  simp only [nameB, Bool.and_eq_true, decide_eq_true_eq, List.all_eq_true] at hs
  obtain ⟨⟨⟨h1, h2⟩, h3⟩, h4⟩ := hs
  refine en147 (by simp) fun hw => ?_
  have e1 : decide ((s.length : Int) < 1) = false := by simp; omega
  have e2 : decide ((s.length : Int) > 32) = false := by simp; omega
  have hb : ACalls Tryz.prog G 178 [.int .u8 (s.getD 0 0).toNat] h (Gives (.bool true) h) := by rw [← h3]; exact c178 _
  refine g1 ?_
  refine s_call rfl rfl rfl ca178 ?_
  refine (hb).mono ?_
  rintro _ _ ⟨rfl, hh⟩
  obtain rfl := hh.symm
  refine back trivial ?_
  refine g1 ?_
  refine w_loop (fun e h' n => ∃ i : Nat, i ≤ s.length ∧ n = s.length - i ∧ h' = h ∧ e = [(0, true, .str s), (19, true, .int .i64 s.length), (20, true, .int .i64 i)])
    _ _ (.cons rfl (.cons rfl (.cons rfl (.nil _)))) ⟨0, by omega, rfl, rfl, rfl⟩ ?_
  rintro _ _ _ ⟨i, hi, rfl, rfl, rfl⟩
  refine g2 ?_ ?_ <;> (repeat intro hb hc)
  · have hg : goesOnB (s.getD i 0) = true := by
      have hlt : i < s.length := by omega
      rw [List.getD_eq_getElem?_getD, List.getElem?_eq_getElem hlt]
      exact h4 _ (List.getElem_mem hlt)
    have hb2 : ∀ h, ACalls Tryz.prog G 179 [.int .u8 (s.getD (i : Int).toNat 0).toNat] h (Gives (.bool true) h) := fun h => by
      rw [n0, ← hg]; exact c179 _
    refine s_call rfl rfl rfl ca179 ?_
    refine (hb2 _).mono ?_
    rintro _ _ ⟨rfl, rfl⟩
    refine back trivial ?_
    refine g1 ?_
    exact l_n _ _ (by omega) envv ⟨i + 1, by omega, rfl, rfl, rfl⟩
  · exact ⟨rfl, rfl⟩

theorem zeroC_eq {c : Cond} (h : zeroC c = true) : c = .zero := by
  obtain ⟨op, nm, ag, vl, lb, fd, kd⟩ := c
  simp only [zeroC, Bool.and_eq_true, beq_iff_eq, Bool.not_eq_true', List.length_eq_zero_iff] at h
  obtain ⟨⟨⟨⟨⟨⟨rfl, rfl⟩, rfl⟩, rfl⟩, rfl⟩, rfl⟩, rfl⟩ := h
  rfl

theorem nodeB_cases {op : Int} {cond : Cond} {label region : Str} {lo hi : Int} {kids : List Pat} (h : nodeB (.mk op cond label region lo hi kids) = true) :
    (op = 1 ∧ region = [] ∧ lo = 0 ∧ hi = 0 ∧ kids = []) ∨ ((op = 2 ∨ op = 3) ∧ cond = .zero ∧ label = [] ∧ lo = 0 ∧ hi = 0 ∧ kids = []) ∨
    ((op = 4 ∨ op = 5) ∧ cond = .zero ∧ label = [] ∧ region = [] ∧ lo = 0 ∧ hi = 0 ∧ 2 ≤ kids.length) ∨ (op = 6 ∧ cond = .zero ∧ label = [] ∧ region = [] ∧ kids.length = 1) := by
  simp only [nodeB] at h
  split at h
  · simp only [Bool.and_eq_true, beq_iff_eq, List.length_eq_zero_iff] at h
    exact .inl ⟨‹_›, h.1.1, h.1.2.1, h.1.2.2, h.2⟩
  · split at h
    · simp only [Bool.and_eq_true, beq_iff_eq, List.length_eq_zero_iff] at h
      exact .inr (.inl ⟨‹_›, zeroC_eq h.1.1.1, h.1.1.2, h.1.2.1, h.1.2.2, h.2⟩)
    · split at h
      · simp only [Bool.and_eq_true, beq_iff_eq, decide_eq_true_eq] at h
        exact .inr (.inr (.inl ⟨‹_›, zeroC_eq h.1.1.1.1, h.1.1.1.2, h.1.1.2, h.1.2.1, h.1.2.2, h.2⟩))
      · split at h
        · simp only [Bool.and_eq_true, beq_iff_eq] at h
          exact .inr (.inr (.inr ⟨‹_›, zeroC_eq h.1.1.1, h.1.1.2, h.1.2, h.2⟩))
        · cases h

set_option maxHeartbeats 2000000 in
theorem c120 {M : Nat} (hM : M ≤ 1000000) {p : Pat} (hp : PatOK M p) (hs : nodeB p = true) : ACalls Tryz.prog G 120 [encPa p] h (Gives (.bool true) h) := by
  obtain ⟨op, cond, label, region, lo, hi, kids⟩ := p
  cases hp with
  | mk _ _ _ _ _ _ _ hc hl hkid =>
  have hlen := encPs_length kids
  refine ACalls.fin (en120 (by simp) fun hw => ?_)
  rcases nodeB_cases hs with ⟨rfl, rfl, rfl, rfl, rfl⟩ | ⟨ho, rfl, rfl, rfl, rfl, rfl⟩ | ⟨ho, rfl, rfl, rfl, rfl, rfl, hk⟩ | ⟨rfl, rfl, rfl, rfl, hk⟩
  · obtain ⟨op', nm, ag, vl, lb, fd, kd⟩ := cond
    refine g1 ?_
    refine s_box rfl rfl fun b1 hb1 => ⟨trivial, ?_⟩
    try simp only [set_next, new_next] at hb1
    refine g1 ?_
    refine fin_sub (.new (.refl hw) hb1 _) (.ret _ _ (.refl _)) ⟨?_, rfl⟩
    first | rfl | rw [e2] | simp
  · rcases ho with rfl | rfl
    · refine g1 ?_
      refine s_box rfl rfl fun b1 hb1 => ⟨trivial, ?_⟩
      try simp only [set_next, new_next] at hb1
      refine g1 ?_
      refine s_call rfl rfl rfl ca169 ?_
      refine (c169).mono ?_
      rintro _ _ ⟨rfl, rfl⟩
      refine back trivial ?_
      refine g1 ?_
      refine fin_sub (.new (.refl hw) hb1 _) (.ret _ _ (.refl _)) ⟨?_, rfl⟩
      first | rfl | rw [e2] | simp
    · refine g1 ?_
      refine s_box rfl rfl fun b1 hb1 => ⟨trivial, ?_⟩
      try simp only [set_next, new_next] at hb1
      refine g1 ?_
      refine s_call rfl rfl rfl ca169 ?_
      refine (c169).mono ?_
      rintro _ _ ⟨rfl, rfl⟩
      refine back trivial ?_
      refine g1 ?_
      refine fin_sub (.new (.refl hw) hb1 _) (.ret _ _ (.refl _)) ⟨?_, rfl⟩
      first | rfl | rw [e2] | simp
  · have e1 : decide (((encPs kids).length : Int) ≥ 2) = true := by simp; omega
    rcases ho with rfl | rfl
    · refine g1 ?_
      refine s_box rfl rfl fun b1 hb1 => ⟨trivial, ?_⟩
      try simp only [set_next, new_next] at hb1
      refine g1 ?_
      refine s_call rfl rfl rfl ca169 ?_
      refine (c169).mono ?_
      rintro _ _ ⟨rfl, rfl⟩
      refine back trivial ?_
      refine g1 ?_
      refine fin_sub (.new (.refl hw) hb1 _) (.ret _ _ (.refl _)) ⟨?_, rfl⟩
      first | rfl | rw [e2] | simp
    · refine g1 ?_
      refine s_box rfl rfl fun b1 hb1 => ⟨trivial, ?_⟩
      try simp only [set_next, new_next] at hb1
      refine g1 ?_
      refine s_call rfl rfl rfl ca169 ?_
      refine (c169).mono ?_
      rintro _ _ ⟨rfl, rfl⟩
      refine back trivial ?_
      refine g1 ?_
      refine fin_sub (.new (.refl hw) hb1 _) (.ret _ _ (.refl _)) ⟨?_, rfl⟩
      first | rfl | rw [e2] | simp
  · have e1 : decide (((encPs kids).length : Int) ≥ 1) = true := by simp; omega
    have e2 : decide (((encPs kids).length : Int) ≤ 1) = true := by simp; omega
    refine g1 ?_
    refine s_box rfl rfl fun b1 hb1 => ⟨trivial, ?_⟩
    try simp only [set_next, new_next] at hb1
    refine g1 ?_
    refine s_call rfl rfl rfl ca169 ?_
    refine (c169).mono ?_
    rintro _ _ ⟨rfl, rfl⟩
    refine back trivial ?_
    refine g1 ?_
    refine fin_sub (.new (.refl hw) hb1 _) (.ret _ _ (.refl _)) ⟨?_, rfl⟩
    first | rfl | rw [e2] | simp


set_option maxHeartbeats 1000000 in
theorem c142 {p : Pat} (hs : namedB p = true) : ACalls Tryz.prog G 142 [encPa p] h (Gives (.bool true) h) := by
  obtain ⟨op, ⟨op', nm, ag, vl, lb, fd, kd⟩, label, region, lo, hi, kids⟩ := p
  simp only [namedB, Bool.and_eq_true, Bool.or_eq_true, Bool.not_eq_true', Bool.or_eq_false_iff, beq_eq_false_iff_ne, beq_iff_eq] at hs
  obtain ⟨h1, h2⟩ := hs
  refine ACalls.fin (en142 (by simp) fun hw => ?_)
  by_cases hl : label = []
  · subst hl
    by_cases ho : op = 2 ∨ op = 3
    · have hr : nameB region = true := by
        rcases h1 with h1 | h1
        · exact absurd ho (by simp [h1.1, h1.2])
        · exact h1
      rcases ho with rfl | rfl
      · refine g1 ?_
        refine s_box rfl rfl fun b1 hb1 => ⟨trivial, ?_⟩
        try simp only [set_next, new_next] at hb1
        refine g1 ?_
        refine s_call rfl rfl rfl ca147 ?_
        refine (c147 hr).mono ?_
        rintro _ _ ⟨rfl, hh⟩
        obtain rfl := hh.symm
        refine back trivial ?_
        refine g1 ?_
        exact fin_sub (.new (.refl hw) hb1 _) (.ret _ _ (.refl _)) ⟨rfl, rfl⟩
      · refine g1 ?_
        refine s_box rfl rfl fun b1 hb1 => ⟨trivial, ?_⟩
        try simp only [set_next, new_next] at hb1
        refine g1 ?_
        refine s_call rfl rfl rfl ca147 ?_
        refine (c147 hr).mono ?_
        rintro _ _ ⟨rfl, hh⟩
        obtain rfl := hh.symm
        refine back trivial ?_
        refine g1 ?_
        exact fin_sub (.new (.refl hw) hb1 _) (.ret _ _ (.refl _)) ⟨rfl, rfl⟩
    · have e1 : (op == 2) = false := by simp; omega
      have e2 : (op == 3) = false := by simp; omega
      have e4 : (!(op == 3)) = true := by rw [e2]; rfl
      refine g1 ?_
      refine s_box rfl rfl fun b1 hb1 => ⟨trivial, ?_⟩
      try simp only [set_next, new_next] at hb1
      refine g1 ?_
      exact fin_sub (.new (.refl hw) hb1 _) (.ret _ _ (.refl _)) ⟨rfl, rfl⟩
  · have e3 : (label == []) = false := by simp [hl]
    have h3 : nameB label = true := h2.resolve_left hl
    by_cases ho : op = 2 ∨ op = 3
    · have hr : nameB region = true := by
        rcases h1 with h1 | h1
        · exact absurd ho (by simp [h1.1, h1.2])
        · exact h1
      rcases ho with rfl | rfl
      · refine g1 ?_
        refine s_box rfl rfl fun b1 hb1 => ⟨trivial, ?_⟩
        try simp only [set_next, new_next] at hb1
        refine g1 ?_
        refine s_call rfl rfl rfl ca147 ?_
        refine (c147 hr).mono ?_
        rintro _ _ ⟨rfl, hh⟩
        obtain rfl := hh.symm
        refine back trivial ?_
        refine g1 ?_
        refine s_call rfl rfl rfl ca147 ?_
        refine (c147 h3).mono ?_
        rintro _ _ ⟨rfl, hh⟩
        obtain rfl := hh.symm
        refine back trivial ?_
        refine g1 ?_
        exact fin_sub (.new (.refl hw) hb1 _) (.ret _ _ (.refl _)) ⟨rfl, rfl⟩
      · refine g1 ?_
        refine s_box rfl rfl fun b1 hb1 => ⟨trivial, ?_⟩
        try simp only [set_next, new_next] at hb1
        refine g1 ?_
        refine s_call rfl rfl rfl ca147 ?_
        refine (c147 hr).mono ?_
        rintro _ _ ⟨rfl, hh⟩
        obtain rfl := hh.symm
        refine back trivial ?_
        refine g1 ?_
        refine s_call rfl rfl rfl ca147 ?_
        refine (c147 h3).mono ?_
        rintro _ _ ⟨rfl, hh⟩
        obtain rfl := hh.symm
        refine back trivial ?_
        refine g1 ?_
        exact fin_sub (.new (.refl hw) hb1 _) (.ret _ _ (.refl _)) ⟨rfl, rfl⟩
    · have e1 : (op == 2) = false := by simp; omega
      have e2 : (op == 3) = false := by simp; omega
      have e4 : (!(op == 3)) = true := by rw [e2]; rfl
      refine g1 ?_
      refine s_box rfl rfl fun b1 hb1 => ⟨trivial, ?_⟩
      try simp only [set_next, new_next] at hb1
      refine g1 ?_
      refine s_call rfl rfl rfl ca147 ?_
      refine (c147 h3).mono ?_
      rintro _ _ ⟨rfl, hh⟩
      obtain rfl := hh.symm
      refine back trivial ?_
      refine g1 ?_
      exact fin_sub (.new (.refl hw) hb1 _) (.ret _ _ (.refl _)) ⟨rfl, rfl⟩

set_option maxHeartbeats 1000000 in
theorem c143 {p : Pat} (hs : rangedB p = true) : ACalls Tryz.prog G 143 [encPa p] h (Gives (.bool true) h) := by
  obtain ⟨op, ⟨op', nm, ag, vl, lb, fd, kd⟩, label, region, lo, hi, kids⟩ := p
  simp only [rangedB, Bool.and_eq_true, Bool.or_eq_true, bne_iff_ne, decide_eq_true_eq, beq_iff_eq] at hs
  refine ACalls.fin (en143 (by simp) fun hw => ?_)
  by_cases ho : op = 6
  · subst ho
    rcases hs with hs | ⟨⟨h1, h2⟩, h3⟩
    · exact absurd rfl hs
    · have e1 : decide (lo ≥ 0) = true := by simp; omega
      have e2 : decide (lo ≤ 16) = true := by simp; omega
      by_cases hh : hi = -1
      · subst hh
        refine g1 ?_
        refine s_box rfl rfl fun b1 hb1 => ⟨trivial, ?_⟩
        try simp only [set_next, new_next] at hb1
        refine g1 ?_
        exact fin_sub (.new (.refl hw) hb1 _) (.ret _ _ (.refl _)) ⟨rfl, rfl⟩
      · have e3 : (hi == -1) = false := by simp [hh]
        have h4 := h3.resolve_left hh
        have e4 : decide (hi ≥ lo) = true := by simp; omega
        have e5 : decide (hi ≤ 16) = true := by simp; omega
        refine g1 ?_
        refine s_box rfl rfl fun b1 hb1 => ⟨trivial, ?_⟩
        try simp only [set_next, new_next] at hb1
        refine g1 ?_
        refine fin_sub (.new (.refl hw) hb1 _) (.ret _ _ (.refl _)) ⟨?_, rfl⟩
        rw [e5]
  · have e1 : (op != 6) = true := by simp [ho]
    refine g1 ?_
    refine s_box rfl rfl fun b1 hb1 => ⟨trivial, ?_⟩
    try simp only [set_next, new_next] at hb1
    refine g1 ?_
    exact fin_sub (.new (.refl hw) hb1 _) (.ret _ _ (.refl _)) ⟨rfl, rfl⟩

set_option maxHeartbeats 1000000 in
theorem c59 {M : Nat} (hM : M ≤ 1000000) {p : Pat} (hp : PatOK M p) (hs : shapeP p = true) : ACalls Tryz.prog G 59 [encPa p] h (Gives (.bool true) h) := by
  simp only [shapeP, Bool.and_eq_true] at hs
  have h1 := fun h => c118 (G := G) hM hp 1 h hs.1
  have h2 := fun h => c119 (G := G) hM ca120 (fun y hy hn h => c120 hM hy hn) hp h hs.2
  obtain ⟨op, ⟨op', nm, ag, vl, lb, fd, kd⟩, label, region, lo, hi, kids⟩ := p
  refine ACalls.fin (en59 (by simp) fun hw => ?_)
  refine g1 ?_
  refine s_box rfl rfl fun b1 hb1 => ⟨trivial, ?_⟩
  try simp only [set_next, new_next] at hb1
  refine g1 ?_
  refine s_call rfl rfl rfl ca118 ?_
  refine (h1 _).mono ?_
  rintro _ _ ⟨rfl, hh⟩
  obtain rfl := hh.symm
  refine back trivial ?_
  refine g1 ?_
  refine s_call rfl rfl rfl ca119 ?_
  refine (h2 _).mono ?_
  rintro _ _ ⟨rfl, hh⟩
  obtain rfl := hh.symm
  refine back trivial ?_
  refine g1 ?_
  exact fin_sub (.new (.refl hw) hb1 _) (.ret _ _ (.refl _)) ⟨rfl, rfl⟩

set_option maxHeartbeats 1000000 in
theorem c73 {M : Nat} (hM : M ≤ 1000000) {p : Pat} (hp : PatOK M p) (hs : rightP p = true) : ACalls Tryz.prog G 73 [encPa p] h (Gives (.bool true) h) := by
  simp only [rightP, Bool.and_eq_true] at hs
  have h1 := fun h => c59 (G := G) (h := h) hM hp hs.1.1
  have h2 := fun h => c119 (G := G) hM ca142 (fun y hy hn h => c142 hn) hp h hs.1.2
  have h3 := fun h => c119 (G := G) hM ca143 (fun y hy hn h => c143 hn) hp h hs.2
  obtain ⟨op, ⟨op', nm, ag, vl, lb, fd, kd⟩, label, region, lo, hi, kids⟩ := p
  refine ACalls.fin (en73 (by simp) fun hw => ?_)
  refine g1 ?_
  refine s_box rfl rfl fun b1 hb1 => ⟨trivial, ?_⟩
  try simp only [set_next, new_next] at hb1
  refine g1 ?_
  refine s_call rfl rfl rfl ca59 ?_
  refine (h1 _).mono ?_
  rintro _ _ ⟨rfl, hh⟩
  obtain rfl := hh.symm
  refine back trivial ?_
  refine g1 ?_
  refine s_call rfl rfl rfl ca119 ?_
  refine (h2 _).mono ?_
  rintro _ _ ⟨rfl, hh⟩
  obtain rfl := hh.symm
  refine back trivial ?_
  refine g1 ?_
  refine s_call rfl rfl rfl ca119 ?_
  refine (h3 _).mono ?_
  rintro _ _ ⟨rfl, hh⟩
  obtain rfl := hh.symm
  refine back trivial ?_
  refine g1 ?_
  exact fin_sub (.new (.refl hw) hb1 _) (.ret _ _ (.refl _)) ⟨rfl, rfl⟩
end
end Go.Proofs

/- What the program's size of a pattern is. No conditions. -/
namespace Go.Proofs
open Go.Abs Go.Q
attribute [local irreducible] awp aops Run BodyQ ACalls Back
section
variable {G : Nat → Option Obj} {h : AHeap}

theorem sizePs_append : ∀ (l : List Pat) (m : List Pat) (n : Int), sizePs (l ++ m) n = sizePs m (sizePs l n)
  | [], _, _ => rfl
  | p :: r, m, n => by rw [List.cons_append, sizePs, sizePs_append r m, sizePs]
theorem sizePs_take {l : List Pat} {i : Nat} {y : Pat} (h : l[i]? = some y) : sizePs (l.take (i + 1)) 0 = min (sizePs (l.take i) 0 + sizeP y) 1000 := by
  rw [List.take_add_one, h, sizePs_append]; rfl
theorem sizePs_bound : ∀ (l : List Pat) (n : Int), 0 ≤ n ∧ n ≤ 1000 → (∀ y, y ∈ l → 0 ≤ sizeP y) → 0 ≤ sizePs l n ∧ sizePs l n ≤ 1000
  | [], n, hn, _ => hn
  | p :: r, n, hn, hl => by
    rw [sizePs]
    have := hl p List.mem_cons_self
    exact sizePs_bound r _ ⟨by omega, by omega⟩ fun y hy => hl y (List.mem_cons_of_mem _ hy)

theorem sizeP_bound {M : Nat} {p : Pat} (hp : PatOK M p) : allP rangedB p = true → 0 ≤ sizeP p ∧ sizeP p ≤ 1000 := by
  induction hp with
  | mk op cond label region lo hi kids hc hl hk ih =>
    intro hs
    simp only [allP, allPs_all, Bool.and_eq_true, List.all_eq_true, rangedB, Bool.or_eq_true, bne_iff_ne, decide_eq_true_eq, beq_iff_eq] at hs
    obtain ⟨h1, h2⟩ := hs
    have hb := sizePs_bound kids 0 ⟨by omega, by omega⟩ fun y hy => (ih y hy (h2 y hy)).1
    rw [sizeP]
    split
    · omega
    · split
      · exact hb
      · rename_i h4 h5
        simp only [not_or, Decidable.not_not] at h5
        rcases h1 with h1 | ⟨⟨h6, h7⟩, h8⟩
        · exact absurd h5.1 h1
        · split
          · have : 0 ≤ sizePs kids 0 * (lo + 1) := Int.mul_nonneg hb.1 (by omega)
            omega
          · have : 0 ≤ sizePs kids 0 * hi := Int.mul_nonneg hb.1 (by omega)
            omega

set_option maxHeartbeats 2000000 in
theorem c80 {M : Nat} (hM : M ≤ 1000000) {p : Pat} (hp : PatOK M p) : ∀ h : AHeap, allP rangedB p = true → ACalls Tryz.prog G 80 [encPa p] h (Gives (.int .i64 (sizeP p)) h) := by
  induction hp with
  | mk op cond label region lo hi' kids hc hl hk ih =>
    intro h hs
    simp only [allP, allPs_all, Bool.and_eq_true, List.all_eq_true] at hs
    obtain ⟨h1, h2⟩ := hs
    obtain ⟨op', nm, ag, vl, lb, fd, kd⟩ := cond
    refine ACalls.fin (en80 (by simp) fun hw => ?_)
    have hlen := encPs_length kids
    refine g1 ?_
    refine s_box rfl rfl fun b1 hb1 => ⟨trivial, ?_⟩
    try simp only [set_next, new_next] at hb1
    refine g1 ?_
    refine w_loop (fun e h' n => ∃ i : Nat, i ≤ kids.length ∧ n = kids.length - i ∧ Sub h h' ∧ b1 < h'.next ∧ h'.get b1 = some (.box 32 (encPa (.mk op (.mk op' nm ag vl lb fd kd) label region lo hi' kids)).cells) ∧
        e = [(1, true, .ptr b1 0), (3, true, .int .i64 (sizePs (kids.take i) 0)), (7, true, .sl 13 (encPs kids) .frz), (8, true, .int .i64 (encPs kids).length), (9, true, .int .i64 i)])
      _ _ (.cons rfl (.cons rfl (.cons rfl (.cons rfl (.cons rfl (.nil _)))))) ⟨0, by omega, rfl, .new (.refl hw) hb1 _, by simp only [new_next]; omega, by exact hpp, rfl⟩ ?_
    rintro _ h3 _ ⟨i, hi, rfl, hsub, hbn, hbox, rfl⟩
    refine g6 ?_ ?_ ?_ ?_ ?_ ?_ <;> (repeat intro hb hc)
    · obtain ⟨y, hy⟩ : ∃ y, kids[i]? = some y := ⟨_, List.getElem?_eq_getElem (by omega)⟩
      have hrow := encPs_row' hy
      have hmem := List.mem_of_getElem? hy
      have hY := fun h => ih y hmem h (h2 y hmem)
      have hby := sizeP_bound (hk y hmem) (h2 y hmem)
      have hbt := sizePs_bound (kids.take i) 0 ⟨by omega, by omega⟩ fun z hz => (sizeP_bound (hk z (List.mem_of_mem_take hz)) (h2 z (List.mem_of_mem_take hz))).1
      have hst := sizePs_take hy
      generalize sizeP y = sy at *
      generalize sizePs (kids.take i) 0 = st at *
      obtain ⟨a1, ⟨c1, c2, c3, c4, c5, c6, c7⟩, a2, a3, a4, a5, a6⟩ := y
      refine s_ia rfl (tt rfl) (tt rfl) rfl rfl rfl (fun _ => rfl) (by omega) hrow ?_
      refine g1 ?_
      refine s_alloc (tt rfl) fun b2 hb2 => ⟨trivial, ?_⟩
      try simp only [set_next, new_next] at hb2
      refine g1 ?_
      refine s_call rfl rfl rfl ca80 ?_
      refine (hY _).mono ?_
      rintro _ _ ⟨rfl, hh⟩
      obtain rfl := hh.symm
      refine back trivial ?_
      refine g1 ?_
      rw [← hst]
      have hnx := hsub.next
      refine l_n _ _ ?_ ?_ ⟨i + 1, by omega, rfl, ?_, by simp only [set_next, new_next]; omega, ?_, rfl⟩
      · omega
      · exact envv
      · exact .setl (.new hsub hb2 _) (by omega) _
      · exact hpp
    all_goals
      have hik : kids.take i = kids := List.take_of_length_le (by omega)
      have hkb := sizePs_bound kids 0 ⟨by omega, by omega⟩ fun y hy => (sizeP_bound (hk y hy) (h2 y hy)).1
      simp only [rangedB, Bool.or_eq_true, bne_iff_ne, Bool.and_eq_true, decide_eq_true_eq, beq_iff_eq] at h1
      refine fin_sub hsub (.ret _ _ (.refl _)) ⟨?_, rfl⟩
      simp only [AOut.ret.injEq, AVal.int.injEq, true_and, sizeP]
      try rw [hik]
      generalize sizePs kids 0 = st at *
      have hone : op = 6 → hi' ≠ 0 → 0 ≤ lo ∧ lo ≤ 16 ∧ (hi' < 0 ∨ 0 ≤ hi' ∧ hi' ≤ 16) := fun h6 h0 => by
        rcases h1 with h1 | ⟨⟨h7, h8⟩, h9⟩
        · exact absurd h6 h1
        · omega
      first
      | (rw [if_pos (by omega)]; done)
      | (rw [if_neg (by omega), if_pos (by omega)]; done)
      | (have h3 := hone (by omega) (by omega)
         have h5 : 0 ≤ st * (lo + 1) := Int.mul_nonneg hkb.1 (by omega)
         have h6 : st * (lo + 1) ≤ 1000 * 17 := Int.mul_le_mul hkb.2 (by omega) (by omega) (by omega)
         rw [if_neg (by omega), if_neg (by omega), if_pos (by omega), wrap64 (n := lo + 1) (by omega), wrap64 (by omega)]; done)
      | (have h3 := hone (by omega) (by omega)
         have h5 : 0 ≤ st * hi' := Int.mul_nonneg hkb.1 (by omega)
         have h6 : st * hi' ≤ 1000 * 16 := Int.mul_le_mul hkb.2 (by omega) (by omega) (by omega)
         rw [if_neg (by omega), if_neg (by omega), if_neg (by omega), wrap64 (by omega)]; done)

set_option maxHeartbeats 1000000 in
theorem c28 {M : Nat} (hM : M ≤ 1000000) {p : Pat} (hp : PatOK M p) (hs : rightP p = true) : ACalls Tryz.prog G 28 [encPa p] h (Gives (.int .i64 (sizeP p)) h) := by
  have h1 := fun h => c73 (G := G) (h := h) hM hp hs
  simp only [rightP, Bool.and_eq_true] at hs
  have h2 := fun h => c80 (G := G) hM hp h hs.2
  generalize sizeP p = sz at *
  obtain ⟨op, ⟨op', nm, ag, vl, lb, fd, kd⟩, label, region, lo, hi, kids⟩ := p
  refine ACalls.fin (en28 (by simp) fun hw => ?_)
  refine g1 ?_
  refine s_box rfl rfl fun b1 hb1 => ⟨trivial, ?_⟩
  try simp only [set_next, new_next] at hb1
  refine g1 ?_
  refine s_call rfl rfl rfl ca73 ?_
  refine (h1 _).mono ?_
  rintro _ _ ⟨rfl, hh⟩
  obtain rfl := hh.symm
  refine back trivial ?_
  refine g1 ?_
  refine s_call rfl rfl rfl ca80 ?_
  refine (h2 _).mono ?_
  rintro _ _ ⟨rfl, hh⟩
  obtain rfl := hh.symm
  refine back trivial ?_
  refine g1 ?_
  exact fin_sub (.new (.refl hw) hb1 _) (.ret _ _ (.refl _)) ⟨rfl, rfl⟩
end
end Go.Proofs
