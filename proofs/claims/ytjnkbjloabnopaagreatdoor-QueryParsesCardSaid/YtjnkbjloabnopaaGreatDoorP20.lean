/- The codes of some functions, tied to the loaded program. No conditions. -/
import Derived.Test.YtjnkbjloabnopaaGreatDoorP19
namespace Go.Proofs
open Go.Abs Go.Abs.I
def r100_0 : L := [o 2 (a (b false))]
def r100_1 : L := [o 3 (m (t 0)),
  o 4 (.binOp .geq 5 (t 3) (.const (.int .u8 65)) 5),
  o 5 (m (t 4)),
  y 6 (m (t 0)) 5 true,
  y 7 (.binOp .leq 5 (t 6) (.const (.int .u8 90)) 5) 5 true,
  o 8 (.pick (t 5) (t 7) (b false)),
  o 9 (m (t 8)),
  y 10 (m (t 0)) 9 false,
  y 11 (.binOp .geq 5 (t 10) (.const (.int .u8 97)) 5) 9 false,
  y 12 (m (t 11)) 9 false,
  y 13 (m (t 0)) 12 true,
  y 14 (.binOp .leq 5 (t 13) (.const (.int .u8 122)) 5) 12 true,
  y 15 (.pick (t 12) (t 14) (b false)) 9 false,
  o 16 (.pick (t 9) (b true) (t 15)),
  o 17 (m (t 16)),
  y 18 (m (t 0)) 17 false,
  y 19 (.binOp .eql 5 (t 18) (.const (.int .u8 95)) 5) 17 false,
  o 20 (.pick (t 17) (b true) (t 19)),
  o 2 (a (t 20))]
def ir100 : ACode := .seq (.ops r100_0) (.seq (.ops r100_1) (.ret))
theorem en100 : En ir100 21 [.tmp 2] 100 := acalls_enter_b mixed Tryz.func100 Tryz.ntmps100 (by kernel_rfl) (by kernel_rfl)
theorem ca100 : Ca 100 := cal Tryz.func100
def r101_0 : L := [o 2 (a (b false))]
def r101_1 : L := [o 3 (m (t 0)),
  o 4 (.binOp .geq 5 (t 3) (.const (.int .u8 48)) 5),
  o 5 (m (t 4)),
  y 6 (m (t 0)) 5 true,
  y 7 (.binOp .leq 5 (t 6) (.const (.int .u8 57)) 5) 5 true,
  o 8 (.pick (t 5) (t 7) (b false)),
  o 2 (a (t 8))]
def ir101 : ACode := .seq (.ops r101_0) (.seq (.ops r101_1) (.ret))
theorem en101 : En ir101 9 [.tmp 2] 101 := acalls_enter_b mixed Tryz.func101 Tryz.ntmps101 (by kernel_rfl) (by kernel_rfl)
theorem ca101 : Ca 101 := cal Tryz.func101
def r102_0 : L := [o 0 (a (.const (.slice none 0 0)))]
def r102_1 : L := [o 1 (.buildSlice 23 23 #[(0, (s #[60, 47])), (1, (s #[33, 61])), (2, (s #[58, 58])), (3, (s #[37, 99])), (4, (s #[91])), (5, (s #[93])), (6, (s #[40])), (7, (s #[41])), (8, (s #[123])), (9, (s #[125])), (10, (s #[60])), (11, (s #[62])), (12, (s #[124])), (13, (s #[38])), (14, (s #[33])), (15, (s #[61])), (16, (s #[58])), (17, (s #[46])), (18, (s #[44])), (19, (s #[63])), (20, (s #[42])), (21, (s #[43])), (22, (s #[45]))]),
  o 0 (a (t 1))]
def ir102 : ACode := .seq (.ops r102_0) (.seq (.ops r102_1) (.ret))
theorem en102 : En ir102 2 [.tmp 0] 102 := acalls_enter_b mixed Tryz.func102 Tryz.ntmps102 (by kernel_rfl) (by kernel_rfl)
theorem ca102 : Ca 102 := cal Tryz.func102
def r47_0 : L := [o 2 (.alloc 92)]
def r47_1 : L := [o 3 (m (t 0)),
  o 4 (.nilCheck (t 3)),
  o 5 (fa 83 (t 4) 0),
  o 6 (l 80 (t 5)),
  o 7 (m (t 0)),
  o 8 (.nilCheck (t 7)),
  o 9 (fa 83 (t 8) 1),
  o 10 (l 3 (t 9)),
  o 11 (.indexAddr 80 (t 6) (t 10)),
  o 12 (l 92 (t 11)),
  q (.store 92 (t 2) (t 12))]
def ir47 : ACode := .seq (.ops r47_0) (.seq (.ops r47_1) (.ret))
theorem en47 : En ir47 13 [.cell 2 92] 47 := acalls_enter_b mixed Tryz.func47 Tryz.ntmps47 (by kernel_rfl) (by kernel_rfl)
theorem ca47 : Ca 47 := cal Tryz.func47
def r43_0 : L := [o 2 (m (t 0)),
  o 3 (m (t 0)),
  o 4 (.call ⟨.value (f 47), #[(t 3)], #[79]⟩),
  o 5 (.field 92 (t 4) 2),
  o 6 (.call ⟨.value (f 105), #[(t 2), (k 3), (t 5)], #[79, 39, 3]⟩)]
def ir43 : ACode := .ops r43_0
theorem en43 : En ir43 7 [] 43 := acalls_enter_b mixed Tryz.func43 Tryz.ntmps43 (by kernel_rfl) (by kernel_rfl)
theorem ca43 : Ca 43 := cal Tryz.func43
def r45_0 : L := [o 6 (a (b false))]
def r45_1 : L := [o 7 (m (t 0)),
  o 8 (.nilCheck (t 7)),
  o 9 (fa 83 (t 8) 3),
  o 10 (l 39 (t 9)),
  o 11 (.binOp .eql 39 (t 10) (k 0) 39),
  o 12 (m (t 11)),
  y 13 (m (t 0)) 12 true,
  y 14 (.call ⟨.value (f 47), #[(t 13)], #[79]⟩) 12 true,
  y 15 (.field 92 (t 14) 0) 12 true,
  y 16 (m (t 1)) 12 true,
  y 17 (.binOp .eql 5 (t 15) (t 16) 5) 12 true,
  o 18 (.pick (t 12) (t 17) (b false)),
  o 19 (m (t 18)),
  y 20 (m (t 0)) 19 true,
  y 21 (.call ⟨.value (f 47), #[(t 20)], #[79]⟩) 19 true,
  y 22 (.field 92 (t 21) 1) 19 true,
  y 23 (m (t 2)) 19 true,
  y 24 (.binOp .eql 9 (t 22) (t 23) 9) 19 true,
  o 25 (.pick (t 19) (t 24) (b false)),
  o 6 (a (t 25))]
def ir45 : ACode := .seq (.ops r45_0) (.seq (.ops r45_1) (.ret))
theorem en45 : En ir45 26 [.tmp 6] 45 := acalls_enter_b mixed Tryz.func45 Tryz.ntmps45 (by kernel_rfl) (by kernel_rfl)
theorem ca45 : Ca 45 := cal Tryz.func45
def r39_0 : L := [o 4 (a (b false))]
def r39_1 : L := [o 5 (m (t 0)),
  o 6 (m (t 1)),
  o 7 (.call ⟨.value (f 45), #[(t 5), (.const (.int .u8 111)), (t 6)], #[79, 5, 9]⟩)]
def r39_2 : L := [o 8 (m (t 0)),
  o 9 (.nilCheck (t 8)),
  o 10 (fa 83 (t 9) 1),
  o 11 (l 3 (t 10)),
  o 12 (.binOp .add 3 (t 11) (k 1) 3),
  o 13 (.nilCheck (t 8)),
  o 14 (fa 83 (t 13) 1),
  q (.store 3 (t 14) (t 12))]
def r39_3 : L := [o 4 (a (b true))]
def r39_4 : L := [o 4 (a (b false))]
def ir39 : ACode := .seq (.ops r39_0) (.seq (.seq (.ops r39_1) (.cond (t 7) (.seq (.ops r39_2) (.seq (.ops r39_3) (.ret))) (.skip))) (.seq (.ops r39_4) (.ret)))
theorem en39 : En ir39 15 [.tmp 4] 39 := acalls_enter_b mixed Tryz.func39 Tryz.ntmps39 (by kernel_rfl) (by kernel_rfl)
theorem ca39 : Ca 39 := cal Tryz.func39
def r44_0 : L := [o 6 (a (s #[]))]
def r44_1 : L := [o 8 (m (t 0)),
  o 9 (.call ⟨.value (f 47), #[(t 8)], #[79]⟩),
  o 7 (.alloc 92),
  q (.store 92 (t 7) (t 9))]
def r44_2 : L := [o 10 (m (t 0)),
  o 11 (.nilCheck (t 10)),
  o 12 (fa 83 (t 11) 3),
  o 13 (l 39 (t 12)),
  o 14 (.binOp .neq 39 (t 13) (k 0) 39)]
def r44_3 : L := [o 6 (a (s #[]))]
def r44_4 : L := [o 15 (fa 92 (t 7) 0),
  o 16 (l 5 (t 15)),
  o 17 (m (t 1)),
  o 18 (.binOp .neq 5 (t 16) (t 17) 5),
  o 19 (m (t 18)),
  y 20 (m (t 1)) 19 false,
  y 21 (.binOp .eql 5 (t 20) (.const (.int .u8 111)) 5) 19 false,
  y 22 (m (t 21)) 19 false,
  y 23 (fa 92 (t 7) 1) 22 true,
  y 24 (l 9 (t 23)) 22 true,
  y 25 (m (t 2)) 22 true,
  y 26 (.binOp .neq 9 (t 24) (t 25) 9) 22 true,
  y 27 (.pick (t 22) (t 26) (b false)) 19 false,
  o 28 (.pick (t 19) (b true) (t 27))]
def r44_5 : L := [o 29 (m (t 0)),
  o 30 (.call ⟨.value (f 43), #[(t 29)], #[79]⟩)]
def r44_6 : L := [o 6 (a (s #[]))]
def r44_7 : L := [o 31 (m (t 0)),
  o 32 (.nilCheck (t 31)),
  o 33 (fa 83 (t 32) 1),
  o 34 (l 3 (t 33)),
  o 35 (.binOp .add 3 (t 34) (k 1) 3),
  o 36 (.nilCheck (t 31)),
  o 37 (fa 83 (t 36) 1),
  q (.store 3 (t 37) (t 35))]
def r44_8 : L := [o 38 (fa 92 (t 7) 1),
  o 39 (l 9 (t 38)),
  o 6 (a (t 39))]
def ir44 : ACode := .seq (.ops r44_0) (.seq (.ops r44_1) (.seq (.seq (.ops r44_2) (.cond (t 14) (.seq (.ops r44_3) (.ret)) (.skip))) (.seq (.seq (.ops r44_4) (.cond (t 28) (.seq (.ops r44_5) (.seq (.ops r44_6) (.ret))) (.skip))) (.seq (.ops r44_7) (.seq (.ops r44_8) (.ret))))))
theorem en44 : En ir44 40 [.tmp 6] 44 := acalls_enter_b mixed Tryz.func44 Tryz.ntmps44 (by kernel_rfl) (by kernel_rfl)
theorem ca44 : Ca 44 := cal Tryz.func44
def r205_0 : L := [o 2 (.alloc 92)]
def r205_1 : L := [o 3 (m (t 0)),
  o 4 (.nilCheck (t 3)),
  o 5 (fa 83 (t 4) 0),
  o 6 (l 80 (t 5)),
  o 7 (m (t 0)),
  o 8 (.nilCheck (t 7)),
  o 9 (fa 83 (t 8) 1),
  o 10 (l 3 (t 9)),
  o 11 (.binOp .add 3 (t 10) (k 1) 3),
  o 12 (m (t 0)),
  o 13 (.nilCheck (t 12)),
  o 14 (fa 83 (t 13) 0),
  o 15 (l 80 (t 14)),
  o 16 (ln (t 15) 80),
  o 17 (.binOp .sub 3 (t 16) (k 1) 3),
  o 18 (.call ⟨.builtin .min, #[(t 11), (t 17)], #[3, 3]⟩),
  o 19 (.indexAddr 80 (t 6) (t 18)),
  o 20 (l 92 (t 19)),
  q (.store 92 (t 2) (t 20))]
def ir205 : ACode := .seq (.ops r205_0) (.seq (.ops r205_1) (.ret))
theorem en205 : En ir205 21 [.cell 2 92] 205 := acalls_enter_b mixed Tryz.func205 Tryz.ntmps205 (by kernel_rfl) (by kernel_rfl)
theorem ca205 : Ca 205 := cal Tryz.func205
def r105_0 : L := [o 6 (m (t 0)),
  o 7 (.nilCheck (t 6)),
  o 8 (fa 83 (t 7) 3),
  o 9 (l 39 (t 8)),
  o 10 (.binOp .eql 39 (t 9) (k 0) 39)]
def r105_1 : L := [o 11 (m (t 0)),
  o 12 (m (t 0)),
  o 13 (m (t 1)),
  o 14 (m (t 2)),
  o 15 (.nilCheck (t 11)),
  o 16 (fa 83 (t 15) 3),
  q (.store 39 (t 16) (t 13)),
  o 17 (.nilCheck (t 12)),
  o 18 (fa 83 (t 17) 4),
  q (.store 3 (t 18) (t 14))]
def ir105 : ACode := .seq (.ops r105_0) (.cond (t 10) (.ops r105_1) (.skip))
theorem en105 : En ir105 19 [] 105 := acalls_enter_b mixed Tryz.func105 Tryz.ntmps105 (by kernel_rfl) (by kernel_rfl)
theorem ca105 : Ca 105 := cal Tryz.func105
def r204_0 : L := [o 6 (a (k 0))]
def r204_1 : L := [o 10 (m (t 0)),
  o 11 (.call ⟨.value (f 44), #[(t 10), (.const (.int .u8 100)), (s #[])], #[79, 5, 9]⟩),
  o 7 (a (t 11))]
def r204_2 : L := [o 8 (a (k 0))]
def r204_3 : L := [o 9 (a (k 0))]
def r204_4 : L := [o 12 (m (t 9)),
  o 13 (m (t 7)),
  o 14 (ln (t 13) 9),
  o 15 (.binOp .lss 3 (t 12) (t 14) 3)]
def r204_5 : L := [o 18 (m (t 8)),
  o 19 (.binOp .mul 3 (k 10) (t 18) 3),
  o 20 (m (t 7)),
  o 21 (m (t 9)),
  o 22 (.index 9 (t 20) (t 21)),
  o 23 (.binOp .sub 5 (t 22) (.const (.int .u8 48)) 5),
  o 24 (.convert 5 3 (t 23)),
  o 25 (.binOp .add 3 (t 19) (t 24) 3),
  o 26 (.call ⟨.builtin .min, #[(t 25), (k 1000000)], #[3, 3]⟩),
  o 8 (a (t 26))]
def r204_6 : L := [o 16 (m (t 9)),
  o 17 (.binOp .add 3 (t 16) (k 1) 3),
  o 9 (a (t 17))]
def r204_7 : L := [o 27 (m (t 8)),
  o 28 (m (t 1)),
  o 29 (.binOp .gtr 3 (t 27) (t 28) 3)]
def r204_8 : L := [o 30 (m (t 0)),
  o 31 (m (t 2)),
  o 32 (.call ⟨.value (f 105), #[(t 30), (k 8), (t 31)], #[79, 39, 3]⟩)]
def r204_9 : L := [o 33 (m (t 8)),
  o 6 (a (t 33))]
def ir204 : ACode := .seq (.ops r204_0) (.seq (.ops r204_1) (.seq (.ops r204_2) (.seq (.seq (.ops r204_3) (.block 0 (.loop (.seq (.seq (.ops r204_4) (.cond (t 15) (.skip) (.exit 0))) (.seq (.block 1 (.ops r204_5)) (.ops r204_6)))))) (.seq (.seq (.ops r204_7) (.cond (t 29) (.ops r204_8) (.skip))) (.seq (.ops r204_9) (.ret))))))
theorem en204 : En ir204 34 [.tmp 6] 204 := acalls_enter_b mixed Tryz.func204 Tryz.ntmps204 (by kernel_rfl) (by kernel_rfl)
theorem ca204 : Ca 204 := cal Tryz.func204
def r208_0 : L := [o 2 (a (b false))]
def r208_1 : L := [o 3 (m (t 0)),
  o 4 (.call ⟨.value (f 39), #[(t 3), (s #[37, 99])], #[79, 9]⟩),
  o 2 (a (t 4))]
def ir208 : ACode := .seq (.ops r208_0) (.seq (.ops r208_1) (.ret))
theorem en208 : En ir208 5 [.tmp 2] 208 := acalls_enter_b mixed Tryz.func208 Tryz.ntmps208 (by kernel_rfl) (by kernel_rfl)
theorem ca208 : Ca 208 := cal Tryz.func208
def r238_0 : L := [o 2 (a (k 0))]
def r238_1 : L := [o 3 (m (t 0)),
  o 4 (.call ⟨.value (f 39), #[(t 3), (s #[45])], #[79, 9]⟩)]
def r238_2 : L := [o 5 (m (t 0)),
  o 6 (m (t 0)),
  o 7 (.call ⟨.value (f 47), #[(t 6)], #[79]⟩),
  o 8 (.field 92 (t 7) 2),
  o 9 (.call ⟨.value (f 204), #[(t 5), (k 100000), (t 8)], #[79, 3, 3]⟩),
  o 10 (.unOp .neg 3 (t 9)),
  o 2 (a (t 10))]
def r238_3 : L := [o 11 (m (t 0)),
  o 12 (m (t 0)),
  o 13 (.call ⟨.value (f 47), #[(t 12)], #[79]⟩),
  o 14 (.field 92 (t 13) 2),
  o 15 (.call ⟨.value (f 204), #[(t 11), (k 100000), (t 14)], #[79, 3, 3]⟩),
  o 2 (a (t 15))]
def ir238 : ACode := .seq (.ops r238_0) (.seq (.seq (.ops r238_1) (.cond (t 4) (.seq (.ops r238_2) (.ret)) (.skip))) (.seq (.ops r238_3) (.ret)))
theorem en238 : En ir238 16 [.tmp 2] 238 := acalls_enter_b mixed Tryz.func238 Tryz.ntmps238 (by kernel_rfl) (by kernel_rfl)
theorem ca238 : Ca 238 := cal Tryz.func238
def r206_0 : L := [o 2 (a (b false))]
def r206_1 : L := [o 4 (m (t 0)),
  o 5 (.call ⟨.value (f 47), #[(t 4)], #[79]⟩),
  o 6 (.field 92 (t 5) 1),
  o 3 (a (t 6))]
def r206_2 : L := [o 7 (m (t 3)),
  o 8 (.binOp .eql 9 (t 7) (s #[115, 116, 114, 97, 116, 101, 103, 121]) 9),
  o 9 (m (t 8)),
  y 10 (m (t 3)) 9 false,
  y 11 (.binOp .eql 9 (t 10) (s #[119, 105, 116, 104, 105, 110]) 9) 9 false,
  o 12 (.pick (t 9) (b true) (t 11)),
  o 13 (m (t 12)),
  y 14 (m (t 3)) 13 false,
  y 15 (.binOp .eql 9 (t 14) (s #[99, 111, 110, 116, 97, 105, 110, 105, 110, 103]) 9) 13 false,
  o 16 (.pick (t 13) (b true) (t 15)),
  o 17 (m (t 16)),
  y 18 (m (t 3)) 17 false,
  y 19 (.binOp .eql 9 (t 18) (s #[111, 118, 101, 114, 108, 97, 112, 112, 105, 110, 103]) 9) 17 false,
  o 20 (.pick (t 17) (b true) (t 19)),
  o 2 (a (t 20))]
def ir206 : ACode := .seq (.ops r206_0) (.seq (.ops r206_1) (.seq (.ops r206_2) (.ret)))
theorem en206 : En ir206 21 [.tmp 2] 206 := acalls_enter_b mixed Tryz.func206 Tryz.ntmps206 (by kernel_rfl) (by kernel_rfl)
theorem ca206 : Ca 206 := cal Tryz.func206
def r164_0 : L := [o 2 (a (b false))]
def r164_1 : L := [o 5 (m (t 0)),
  o 6 (.call ⟨.value (f 47), #[(t 5)], #[79]⟩),
  o 3 (.alloc 92),
  q (.store 92 (t 3) (t 6))]
def r164_2 : L := [o 7 (m (t 0)),
  o 8 (.nilCheck (t 7)),
  o 9 (fa 83 (t 8) 3),
  o 10 (l 39 (t 9)),
  o 11 (.binOp .neq 39 (t 10) (k 0) 39)]
def r164_3 : L := [o 2 (a (b false))]
def r164_4 : L := [o 12 (fa 92 (t 3) 0),
  o 13 (l 5 (t 12)),
  o 14 (.binOp .eql 5 (t 13) (.const (.int .u8 110)) 5)]
def r164_5 : L := [o 15 (m (t 0)),
  o 16 (.call ⟨.value (f 205), #[(t 15)], #[79]⟩),
  o 4 (.alloc 92),
  q (.store 92 (t 4) (t 16))]
def r164_6 : L := [o 17 (fa 92 (t 4) 0),
  o 18 (l 5 (t 17)),
  o 19 (.binOp .eql 5 (t 18) (.const (.int .u8 111)) 5),
  o 20 (m (t 19)),
  y 21 (fa 92 (t 4) 1) 20 true,
  y 22 (l 9 (t 21)) 20 true,
  y 23 (.binOp .eql 9 (t 22) (s #[58]) 9) 20 true,
  o 24 (.pick (t 20) (t 23) (b false))]
def r164_7 : L := [o 2 (a (b true))]
def r164_8 : L := [o 25 (m (t 0)),
  o 26 (.nilCheck (t 25)),
  o 27 (fa 83 (t 26) 2),
  o 28 (l 3 (t 27)),
  o 29 (.binOp .gtr 3 (t 28) (k 0) 3),
  o 30 (m (t 29)),
  y 31 (m (t 0)) 30 false,
  y 32 (.call ⟨.value (f 206), #[(t 31)], #[79]⟩) 30 false,
  y 33 (.unOp .not 4 (t 32)) 30 false,
  o 34 (.pick (t 30) (b true) (t 33)),
  o 2 (a (t 34))]
def r164_9 : L := [o 35 (fa 92 (t 3) 0),
  o 36 (l 5 (t 35)),
  o 37 (.binOp .eql 5 (t 36) (.const (.int .u8 115)) 5),
  o 38 (m (t 37)),
  y 39 (fa 92 (t 3) 0) 38 false,
  y 40 (l 5 (t 39)) 38 false,
  y 41 (.binOp .eql 5 (t 40) (.const (.int .u8 111)) 5) 38 false,
  y 42 (m (t 41)) 38 false,
  y 43 (fa 92 (t 3) 1) 42 true,
  y 44 (l 9 (t 43)) 42 true,
  y 45 (.binOp .eql 9 (t 44) (s #[91]) 9) 42 true,
  y 46 (m (t 45)) 42 true,
  y 47 (fa 92 (t 3) 1) 46 false,
  y 48 (l 9 (t 47)) 46 false,
  y 49 (.binOp .eql 9 (t 48) (s #[60]) 9) 46 false,
  y 50 (.pick (t 46) (b true) (t 49)) 42 true,
  y 51 (m (t 50)) 42 true,
  y 52 (fa 92 (t 3) 1) 51 false,
  y 53 (l 9 (t 52)) 51 false,
  y 54 (.binOp .eql 9 (t 53) (s #[60, 47]) 9) 51 false,
  y 55 (.pick (t 51) (b true) (t 54)) 42 true,
  y 56 (m (t 55)) 42 true,
  y 57 (fa 92 (t 3) 1) 56 false,
  y 58 (l 9 (t 57)) 56 false,
  y 59 (.binOp .eql 9 (t 58) (s #[40]) 9) 56 false,
  y 60 (.pick (t 56) (b true) (t 59)) 42 true,
  y 61 (.pick (t 42) (t 60) (b false)) 38 false,
  o 62 (.pick (t 38) (b true) (t 61)),
  o 2 (a (t 62))]
def ir164 : ACode := .seq (.ops r164_0) (.seq (.ops r164_1) (.seq (.seq (.ops r164_2) (.cond (t 11) (.seq (.ops r164_3) (.ret)) (.skip))) (.seq (.seq (.ops r164_4) (.cond (t 14) (.seq (.ops r164_5) (.seq (.seq (.ops r164_6) (.cond (t 24) (.seq (.ops r164_7) (.ret)) (.skip))) (.seq (.ops r164_8) (.ret)))) (.skip))) (.seq (.ops r164_9) (.ret)))))
theorem en164 : En ir164 63 [.tmp 2] 164 := acalls_enter_b mixed Tryz.func164 Tryz.ntmps164 (by kernel_rfl) (by kernel_rfl)
theorem ca164 : Ca 164 := cal Tryz.func164
def r41_0 : L := [o 6 (a (k 0))]
def r41_1 : L := [o 8 (m (t 2)),
  o 7 (a (t 8))]
def r41_2 : L := [o 9 (m (t 7)),
  o 10 (m (t 1)),
  o 11 (ln (t 10) 23),
  o 12 (.binOp .lss 3 (t 9) (t 11) 3)]
def r41_3 : L := [o 15 (m (t 0)),
  o 16 (m (t 1)),
  o 17 (m (t 7)),
  o 18 (.indexAddr 23 (t 16) (t 17)),
  o 19 (l 9 (t 18)),
  o 20 (.call ⟨.value (f 45), #[(t 15), (.const (.int .u8 110)), (t 19)], #[79, 5, 9]⟩)]
def r41_4 : L := [o 21 (m (t 7)),
  o 6 (a (t 21))]
def r41_5 : L := [o 13 (m (t 7)),
  o 14 (.binOp .add 3 (t 13) (k 1) 3),
  o 7 (a (t 14))]
def r41_6 : L := [o 6 (a (k (-1)))]
def ir41 : ACode := .seq (.ops r41_0) (.seq (.seq (.ops r41_1) (.block 0 (.loop (.seq (.seq (.ops r41_2) (.cond (t 12) (.skip) (.exit 0))) (.seq (.block 1 (.seq (.ops r41_3) (.cond (t 20) (.seq (.ops r41_4) (.ret)) (.skip)))) (.ops r41_5)))))) (.seq (.ops r41_6) (.ret)))
theorem en41 : En ir41 22 [.tmp 6] 41 := acalls_enter_b mixed Tryz.func41 Tryz.ntmps41 (by kernel_rfl) (by kernel_rfl)
theorem ca41 : Ca 41 := cal Tryz.func41
def r42_0 : L := [o 0 (a (.const (.slice none 0 0)))]
def r42_1 : L := [o 1 (.buildSlice 23 4 #[(0, (s #[])), (1, (s #[119, 105, 116, 104, 105, 110])), (2, (s #[99, 111, 110, 116, 97, 105, 110, 105, 110, 103])), (3, (s #[111, 118, 101, 114, 108, 97, 112, 112, 105, 110, 103]))]),
  o 0 (a (t 1))]
def ir42 : ACode := .seq (.ops r42_0) (.seq (.ops r42_1) (.ret))
theorem en42 : En ir42 2 [.tmp 0] 42 := acalls_enter_b mixed Tryz.func42 Tryz.ntmps42 (by kernel_rfl) (by kernel_rfl)
theorem ca42 : Ca 42 := cal Tryz.func42
def r46_0 : L := [o 0 (a (.const (.slice none 0 0)))]
def r46_1 : L := [o 1 (.buildSlice 23 4 #[(0, (s #[101, 97, 99, 104])), (1, (s #[115, 104, 111, 114, 116, 101, 115, 116])), (2, (s #[108, 111, 110, 103, 101, 115, 116])), (3, (s #[116, 114, 97, 100, 105, 116, 105, 111, 110, 97, 108]))]),
  o 0 (a (t 1))]
def ir46 : ACode := .seq (.ops r46_0) (.seq (.ops r46_1) (.ret))
theorem en46 : En ir46 2 [.tmp 0] 46 := acalls_enter_b mixed Tryz.func46 Tryz.ntmps46 (by kernel_rfl) (by kernel_rfl)
theorem ca46 : Ca 46 := cal Tryz.func46
end Go.Proofs

/- The small functions of the reference's reader, walked. No conditions. -/
namespace Go.Proofs
open Go.Abs Go.Q
attribute [local irreducible] awp aops Run BodyQ ACalls Back
section
variable {G : Nat → Option Obj} {h : AHeap} {L : List Tok} {σ : PS L} {g : Nat} {d : Int}

theorem c47 (hL : LOk L) (hg : h.get g = some (par d σ)) : ACalls Tryz.prog G 47 [.ptr g 0] h (Gives (.agg (encT (now σ))) h) := by
  refine ACalls.fin (en47 (by simp) fun hw => ?_)
  have hgl := hw g _ hg
  refine g1 ?_
  refine s_alloc (tt rfl) fun b1 hb1 => ⟨trivial, ?_⟩
  try simp only [set_next, new_next] at hb1
  refine g1 ?_
  refine s_ia rfl (tt rfl) (tt rfl) rfl rfl rfl (fun _ => rfl) (by omega) (row := encT (now σ)) (encTs_get (now_get hL σ)) ?_
  refine g1 ?_
  exact fin_sub (.setl (.new (.refl hw) hb1 _) hb1 _) (.ret _ _ (.refl _)) ⟨rfl, rfl⟩

theorem c205 (hL : LOk L) (hg : h.get g = some (par d σ)) : ACalls Tryz.prog G 205 [.ptr g 0] h (Gives (.agg (encT (next σ))) h) := by
  refine ACalls.fin (en205 (by simp) fun hw => ?_)
  have hgl := hw g _ hg
  have hk := σ.hk
  have hlen := hL.len
  have hel := encTs_length L
  refine g1 ?_
  refine s_alloc (tt rfl) fun b1 hb1 => ⟨trivial, ?_⟩
  try simp only [set_next, new_next] at hb1
  refine g1 ?_
  refine s_ia rfl (tt rfl) (tt rfl) rfl rfl rfl (fun _ => rfl) (by omega) (row := encT (next σ)) ?_ ?_
  · have : (min ((σ.k : Int) + 1) (((encTs L).length : Int) - 1)).toNat = min (σ.k + 1) (L.length - 1) := by omega
    rw [this]
    exact encTs_get (List.getElem?_eq_getElem (by omega))
  refine g1 ?_
  exact fin_sub (.setl (.new (.refl hw) hb1 _) hb1 _) (.ret _ _ (.refl _)) ⟨rfl, rfl⟩

theorem c105 (x p : Int) (hg : h.get g = some (par d σ)) : ACalls Tryz.prog G 105 [.ptr g 0, .int .i64 x, .int .i64 p] h (fun out h' => out = .ret (.tuple []) ∧ h' = h.set g (par d (err x p σ))) := by
  refine en105 (by simp) fun hw => ?_
  refine g2 ?_ ?_ <;> (repeat intro hb hc)
  · refine ⟨rfl, ?_⟩
    rw [set_set]
    unfold err
    rw [if_pos hc]
    rfl
  · refine ⟨rfl, ?_⟩
    unfold err
    rw [if_neg hc]
    exact (set_same hg).symm

theorem c45 (hL : LOk L) (k : Nat) (x : Str) (hg : h.get g = some (par d σ)) : ACalls Tryz.prog G 45 [.ptr g 0, .int .u8 k, .str x] h (Gives (.bool (is k x σ)) h) := by
  refine en45 (by simp) fun hw => ?_
  refine g2 ?_ ?_ <;> (repeat intro hb hc)
  · have he := hc
    refine s_call rfl rfl rfl ca47 ?_
    refine (c47 hL hg).mono ?_
    rintro _ _ ⟨rfl, rfl⟩
    refine back trivial ?_
    refine g2 ?_ ?_ <;> (repeat intro hb hc)
    · have h1 : (now σ).kind = k := by omega
      refine s_call rfl rfl rfl ca47 ?_
      refine (c47 hL hg).mono ?_
      rintro _ _ ⟨rfl, rfl⟩
      refine back trivial ?_
      refine g1 ?_
      exact ⟨by simp [is, he, h1], rfl⟩
    · have h1 : (now σ).kind ≠ k := by omega
      exact ⟨by simp [is, h1], rfl⟩
  · exact ⟨by simp [is, hc], rfl⟩

/-- Where the present token is taken, there is a next one. -/
theorem is_last (hL : LOk L) {k : Nat} (hk : k = 110 ∨ k = 111) {x : Str} (hx : is k x σ = true) : σ.k + 1 < L.length := by
  refine hL.last σ.k (now σ) (now_get hL σ) ?_
  simp only [is, Bool.and_eq_true, beq_iff_eq] at hx
  omega

theorem c39 (hL : LOk L) (x : Str) (hg : h.get g = some (par d σ)) : ACalls Tryz.prog G 39 [.ptr g 0, .str x] h (PP g d h .bool (is 111 x σ, eat x σ)) := by
  refine en39 (by simp) fun hw => ?_
  have hk := σ.hk
  have hlen := hL.len
  refine g1 ?_
  refine s_call rfl rfl rfl ca45 ?_
  refine (c45 hL 111 x hg).mono ?_
  rintro _ _ ⟨rfl, rfl⟩
  refine back trivial ?_
  refine g2 ?_ ?_ <;> (repeat intro hb hc)
  · have hl := is_last hL (.inr rfl) hc
    refine ⟨by rw [hc], ?_⟩
    unfold eat
    simp only [if_pos hc, adv_k hl]
    rfl
  · refine ⟨by rw [hc], ?_⟩
    unfold eat
    rw [if_neg (by rw [hc]; simp)]
    exact (set_same hg).symm
theorem c39_t (hL : LOk L) (x : Str) (hx : is 111 x σ = true) (hg : h.get g = some (par d σ)) : ACalls Tryz.prog G 39 [.ptr g 0, .str x] h (fun out h' => out = .ret (.bool true) ∧ h' = h.set g (par d (adv σ))) := by
  have := c39 (G := G) hL x hg
  unfold PP eat at this
  rw [hx] at this
  exact this
theorem c39_f (hL : LOk L) (x : Str) (hx : is 111 x σ = false) (hg : h.get g = some (par d σ)) : ACalls Tryz.prog G 39 [.ptr g 0, .str x] h (Gives (.bool false) h) := by
  have := c39 (G := G) hL x hg
  unfold PP eat at this
  rw [hx] at this
  refine this.mono fun out h' hq => ⟨hq.1, hq.2.trans (set_same hg)⟩

theorem c43 (hL : LOk L) (hg : h.get g = some (par d σ)) : ACalls Tryz.prog G 43 [.ptr g 0] h (fun out h' => out = .ret (.tuple []) ∧ h' = h.set g (par d (wrong σ))) := by
  refine en43 (by simp) fun hw => ?_
  refine g1 ?_
  refine s_call rfl rfl rfl ca47 ?_
  refine (c47 hL hg).mono ?_
  rintro _ _ ⟨rfl, rfl⟩
  refine back trivial ?_
  refine g1 ?_
  refine s_call rfl rfl rfl ca105 ?_
  refine (c105 3 (now σ).pos hg).mono ?_
  rintro _ _ ⟨rfl, rfl⟩
  refine back trivial ?_
  refine g1 ?_
  exact ⟨rfl, rfl⟩

theorem c44 (hL : LOk L) (k : Nat) (hk : k = 110 ∨ k = 100 ∨ k = 115 ∨ k = 111) (x : Str) (hg : h.get g = some (par d σ)) : ACalls Tryz.prog G 44 [.ptr g 0, .int .u8 k, .str x] h (PP g d h .str (want k x σ)) := by
  refine ACalls.fin (en44 (by simp) fun hw => ?_)
  have hgl := hw g _ hg
  have hkk := σ.hk
  have hlen := hL.len
  refine g1 ?_
  refine s_call rfl rfl rfl ca47 ?_
  refine (c47 hL hg).mono ?_
  rintro _ _ ⟨rfl, rfl⟩
  refine back trivial ?_
  refine g1 ?_
  refine s_alloc (tt rfl) fun b1 hb1 => ⟨trivial, ?_⟩
  try simp only [set_next, new_next] at hb1
  refine g5 ?_ ?_ ?_ ?_ ?_ <;> (repeat intro hb hc)
  · have hw2 : want k x σ = ([], σ) := by simp [want, hc]
    rw [hw2]
    exact fin_q atss (.refl _)
  all_goals (have he : σ.e = 0 := by assumption)
  · have hw2 : want k x σ = ([], wrong σ) := by
      unfold want
      rw [if_neg (by simp [he]), if_pos (.inr ⟨by omega, by assumption⟩)]
    rw [hw2]
    refine s_call rfl rfl rfl ca43 ?_
    refine (c43 (σ := σ) hL hpp).mono ?_
    rintro _ _ ⟨rfl, rfl⟩
    refine back trivial ?_
    refine g1 ?_
    exact fin_q atss (.refl _)
  · have hk1 : (now σ).kind = k := by omega
    have hl : σ.k + 1 < L.length := hL.last σ.k (now σ) (now_get hL σ) (by omega)
    have hw2 : want k x σ = ((now σ).text, adv σ) := by
      unfold want
      rw [if_neg (by simp [he]), if_neg (by simp_all)]
    rw [hw2, adv_k hl]
    exact fin_q atss (.refl _)
  · have hk1 : (now σ).kind = k := by omega
    have hl : σ.k + 1 < L.length := hL.last σ.k (now σ) (now_get hL σ) (by omega)
    have hw2 : want k x σ = ((now σ).text, adv σ) := by
      unfold want
      rw [if_neg (by simp [he]), if_neg (by rintro (q | q); exact q hk1; have := q.1; omega)]
    rw [hw2, adv_k hl]
    exact fin_q atss (.refl _)
  · have hw2 : want k x σ = ([], wrong σ) := by
      unfold want
      rw [if_neg (by simp [he]), if_pos (.inl (by omega))]
    rw [hw2]
    refine s_call rfl rfl rfl ca43 ?_
    refine (c43 (σ := σ) hL hpp).mono ?_
    rintro _ _ ⟨rfl, rfl⟩
    refine back trivial ?_
    refine g1 ?_
    exact fin_q atss (.refl _)

theorem want_text (hL : LOk L) {k : Nat} {x : Str} {σ : PS L} : (want k x σ).1.length ≤ 1000 ∧ (k = 100 → ∀ c, c ∈ (want k x σ).1 → digit c = true) := by
  unfold want
  split
  · exact ⟨by simp, fun _ c hc => by simp at hc⟩
  split
  · exact ⟨by simp, fun _ c hc => by simp at hc⟩
  · rename_i h1
    exact ⟨(hL.text σ.k (now σ) (now_get hL σ)).1, fun hk => hL.digits σ.k (now σ) (now_get hL σ) (by simp only [not_or, ne_eq, Decidable.not_not] at h1; omega)⟩

set_option maxHeartbeats 1000000 in
theorem c204 (hL : LOk L) (lim p : Int) (hl : 0 ≤ lim ∧ lim ≤ 100000) (hg : h.get g = some (par d σ)) : ACalls Tryz.prog G 204 [.ptr g 0, .int .i64 lim, .int .i64 p] h (PP g d h (.int .i64) (number lim p σ)) := by
  refine ACalls.fin (en204 (by simp) fun hw => ?_)
  have hgl := hw g _ hg
  refine g1 ?_
  refine s_call rfl rfl rfl ca44 ?_
  refine call_q (c44 (σ := σ) hL 100 (by omega) [] hpp) fun a σ1 hr => back trivial ?_
  have htx := want_text hL (k := 100) (x := []) (σ := σ)
  rw [hr] at htx
  obtain ⟨hta, htd⟩ := htx
  simp only at hta htd
  have hnum : number lim p σ = (capV a, if capV a > lim then err 8 p σ1 else σ1) := by unfold number; rw [hr, pb_mk]
  rw [hnum]
  refine g1 ?_
  refine w_loop (fun e h' n => ∃ i : Nat, i ≤ a.length ∧ n = a.length - i ∧ (0 ≤ capV (a.take i) ∧ capV (a.take i) ≤ 1000000) ∧ h' = h.set g (par d σ1) ∧ e = [(0, true, .ptr g 0), (1, true, .int .i64 lim), (2, true, .int .i64 p), (7, true, .str a), (8, true, .int .i64 (capV (a.take i))), (9, true, .int .i64 i)])
    _ _ (.cons rfl (.cons rfl (.cons rfl (.cons rfl (.cons rfl (.cons rfl (.nil _))))))) ⟨0, by omega, rfl, by simp [capV], rfl, rfl⟩ ?_
  rintro _ _ _ ⟨i, hi, rfl, hn, rfl, rfl⟩
  by_cases hil : i < a.length
  · have hc := htd trivial (a.getD i 0) (by rw [getD_of hil]; exact List.getElem_mem hil)
    have hc2 : 48 ≤ (a.getD (i : Int).toNat 0).toNat ∧ (a.getD (i : Int).toNat 0).toNat ≤ 57 := by
      simpa [digit] using hc
    have hsn : capV (a.take (i + 1)) = min (10 * capV (a.take i) + (((a.getD i 0).toNat : Int) - 48)) 1000000 := by
      rw [take_snoc hil]
      unfold capV
      rw [List.foldl_append]
      rfl
    have e0 : (a.getD (i : Int).toNat 0).toNat = (a.getD i 0).toNat := rfl
    refine g3 ?_ ?_ ?_ <;> (repeat intro hb hc)
    · refine l_n _ _ ?_ ?_ ⟨i + 1, by omega, rfl, by omega, rfl, rfl⟩
      · omega
      · refine .cons rfl (.cons rfl (.cons rfl (.cons rfl (.cons ?_ (.cons rfl (.nil _))))))
        simp only [Env.get, hsn]
        simp only [reduceIte, Option.some.injEq, Prod.mk.injEq, AVal.int.injEq, true_and, Nat.reduceEqDiff, Nat.succ_ne_self, if_false]
        omega
    all_goals omega
  · obtain rfl : i = a.length := by omega
    rw [List.take_length]
    refine g3 ?_ ?_ ?_ <;> (repeat intro hb hc)
    · exfalso; omega
    · rw [if_pos hc]
      refine s_call rfl rfl rfl ca105 ?_
      refine (c105 8 p (σ := σ1) hpp).mono ?_
      rintro _ _ ⟨rfl, rfl⟩
      refine back trivial ?_
      refine g1 ?_
      exact fin_q atss (.refl _)
    · rw [if_neg hc]
      exact fin_q atss (.refl _)
end
end Go.Proofs

/- More small functions of the reference's reader, walked. No conditions. -/
namespace Go.Proofs
open Go.Abs Go.Q
attribute [local irreducible] awp aops Run BodyQ ACalls Back
section
variable {G : Nat → Option Obj} {h : AHeap} {L : List Tok} {σ : PS L} {g : Nat} {d : Int}

theorem c208 (hL : LOk L) (hg : h.get g = some (par d σ)) : ACalls Tryz.prog G 208 [.ptr g 0] h (PP g d h .bool (foldR σ)) := by
  refine ACalls.fin (en208 (by simp) fun hw => ?_)
  have hgl := hw g _ hg
  refine g1 ?_
  refine s_call rfl rfl rfl ca39 ?_
  refine call_q (c39 (σ := σ) hL [37, 99] hpp) fun b s1 hr => back trivial ?_
  refine g1 ?_
  have hf : foldR σ = (b, s1) := hr
  rw [hf]
  refine fin_q atss wkk

theorem capV_rng {t : Str} (ht : ∀ c, c ∈ t → digit c = true) : 0 ≤ capV t ∧ capV t ≤ 1000000 := by
  have key : ∀ (t : Str), (∀ c, c ∈ t → digit c = true) → ∀ a : Int, 0 ≤ a ∧ a ≤ 1000000 → 0 ≤ t.foldl (fun n c => min (10 * n + ((c.toNat : Int) - 48)) 1000000) a ∧ t.foldl (fun n c => min (10 * n + ((c.toNat : Int) - 48)) 1000000) a ≤ 1000000 := by
    intro t
    induction t with
    | nil => exact fun _ a h => h
    | cons c t ih =>
      intro hd a h
      rw [List.foldl_cons]
      have := hd c List.mem_cons_self
      simp only [digit, Bool.and_eq_true, decide_eq_true_eq] at this
      exact ih (fun c hc => hd c (List.mem_cons_of_mem _ hc)) _ (by omega)
  exact key t ht 0 (by decide)
theorem number_rng (hL : LOk L) {lim p : Int} : 0 ≤ (number lim p σ).1 ∧ (number lim p σ).1 ≤ 1000000 := capV_rng ((want_text hL).2 rfl)

theorem c238 (hL : LOk L) (hg : h.get g = some (par d σ)) : ACalls Tryz.prog G 238 [.ptr g 0] h (PP g d h (.int .i64) (signed σ)) := by
  refine ACalls.fin (en238 (by simp) fun hw => ?_)
  have hgl := hw g _ hg
  refine g1 ?_
  unfold signed
  rcases Bool.eq_false_or_eq_true (is 111 [45] σ) with hx | hx <;> simp only [hx, sbb]
  · refine s_call rfl rfl rfl ca39 ?_
    refine (c39_t (σ := σ) hL [45] hx hpp).mono ?_
    rintro _ _ ⟨rfl, rfl⟩
    refine back trivial ?_
    refine g1 ?_
    refine s_call rfl rfl rfl ca47 ?_
    refine (c47 (σ := adv σ) hL hpp).mono ?_
    rintro _ _ ⟨rfl, rfl⟩
    refine back trivial ?_
    refine g1 ?_
    refine s_call rfl rfl rfl ca204 ?_
    refine call_q (c204 (σ := adv σ) hL 100000 (now (adv σ)).pos (by omega) hpp) fun a s1 hr => back trivial ?_
    simp only [hr, pb_mk]
    have hrng := number_rng (σ := adv σ) hL (lim := 100000) (p := (now (adv σ)).pos)
    rw [hr] at hrng
    simp only at hrng
    refine g1 ?_
    refine fin_q atss wkk
  · refine s_call rfl rfl rfl ca39 ?_
    refine (c39_f (σ := σ) hL [45] hx hpp).mono ?_
    rintro _ _ ⟨rfl, rfl⟩
    refine back trivial ?_
    refine g1 ?_
    refine s_call rfl rfl rfl ca47 ?_
    refine (c47 (σ := σ) hL hpp).mono ?_
    rintro _ _ ⟨rfl, rfl⟩
    refine back trivial ?_
    refine g1 ?_
    refine s_call rfl rfl rfl ca204 ?_
    refine call_q (c204 (σ := σ) hL 100000 (now σ).pos (by omega) hpp) fun a s1 hr => back trivial ?_
    simp only [hr, pb_mk]
    refine g1 ?_
    refine fin_q atss wkk

theorem c206 (hL : LOk L) (hg : h.get g = some (par d σ)) : ACalls Tryz.prog G 206 [.ptr g 0] h (Gives (.bool (tail σ)) h) := by
  refine en206 (by simp) fun hw => ?_
  refine g1 ?_
  refine s_call rfl rfl rfl ca47 ?_
  refine (c47 (σ := σ) hL hg).mono ?_
  rintro _ _ ⟨rfl, rfl⟩
  refine back trivial ?_
  unfold tail
  refine g4 ?_ ?_ ?_ ?_ <;> (repeat intro hb hc)
  all_goals exact ⟨by simp_all, rfl⟩


set_option maxHeartbeats 2000000 in
theorem c164 (hL : LOk L) (hg : h.get g = some (par d σ)) : ACalls Tryz.prog G 164 [.ptr g 0] h (Gives (.bool (rBegins d σ)) h) := by
  refine ACalls.fin (en164 (by simp) fun hw => ?_)
  have hgl := hw g _ hg
  refine g1 ?_
  refine s_call rfl rfl rfl ca47 ?_
  refine (c47 (σ := σ) hL hg).mono ?_
  rintro _ _ ⟨rfl, rfl⟩
  refine back trivial ?_
  refine g1 ?_
  refine s_alloc (tt rfl) fun b1 hb1 => ⟨trivial, ?_⟩
  try simp only [set_next, new_next] at hb1
  refine g8 ?_ ?_ ?_ ?_ ?_ ?_ ?_ ?_ <;> (repeat intro hb hc)
  rotate_left
  · refine s_call rfl rfl rfl ca205 ?_
    refine (c205 (σ := σ) hL hpp).mono ?_
    rintro _ _ ⟨rfl, rfl⟩
    refine back trivial ?_
    refine g1 ?_
    refine s_alloc (tt rfl) fun b2 hb2 => ⟨trivial, ?_⟩
    try simp only [set_next, new_next] at hb2
    refine g5 ?_ ?_ ?_ ?_ ?_ <;> (repeat intro hb hc)
    · refine fin_sub (.setl (.new (.setl (.new (.refl hw) hb1 _) hb1 _) hb2 _) (by omega) _) (.ret _ _ (.refl _)) ⟨?_, rfl⟩
      clear hw hgl hb1 hb2 hg
      congr 1
      try have q1 : (now σ).kind = 110 := by omega
      try have q2 : (now σ).kind = 115 := by omega
      try have q3 : (now σ).kind = 111 := by omega
      try have q4 : ¬ (now σ).kind = 110 := by omega
      try have q5 : ¬ (now σ).kind = 115 := by omega
      try have q6 : ¬ (now σ).kind = 111 := by omega
      try have q7 : (next σ).kind = 111 := by omega
      try have q8 : ¬ (next σ).kind = 111 := by omega
      simp_all [rBegins]
      all_goals (try (intro hd; omega))
    · refine s_call rfl rfl rfl ca206 ?_
      refine (c206 (σ := σ) hL hpp).mono ?_
      rintro _ _ ⟨rfl, rfl⟩
      refine back trivial ?_
      refine g1 ?_
      refine fin_sub (.setl (.new (.setl (.new (.refl hw) hb1 _) hb1 _) hb2 _) (by omega) _) (.ret _ _ (.refl _)) ⟨?_, rfl⟩
      clear hw hgl hb1 hb2 hg
      congr 1
      try have q1 : (now σ).kind = 110 := by omega
      try have q2 : (now σ).kind = 115 := by omega
      try have q3 : (now σ).kind = 111 := by omega
      try have q4 : ¬ (now σ).kind = 110 := by omega
      try have q5 : ¬ (now σ).kind = 115 := by omega
      try have q6 : ¬ (now σ).kind = 111 := by omega
      try have q7 : (next σ).kind = 111 := by omega
      try have q8 : ¬ (next σ).kind = 111 := by omega
      simp_all [rBegins]
      all_goals (try (intro hd; omega))
    · refine fin_sub (.setl (.new (.setl (.new (.refl hw) hb1 _) hb1 _) hb2 _) (by omega) _) (.ret _ _ (.refl _)) ⟨?_, rfl⟩
      clear hw hgl hb1 hb2 hg
      congr 1
      try have q1 : (now σ).kind = 110 := by omega
      try have q2 : (now σ).kind = 115 := by omega
      try have q3 : (now σ).kind = 111 := by omega
      try have q4 : ¬ (now σ).kind = 110 := by omega
      try have q5 : ¬ (now σ).kind = 115 := by omega
      try have q6 : ¬ (now σ).kind = 111 := by omega
      try have q7 : (next σ).kind = 111 := by omega
      try have q8 : ¬ (next σ).kind = 111 := by omega
      simp_all [rBegins]
      all_goals (try (intro hd; omega))
    · refine s_call rfl rfl rfl ca206 ?_
      refine (c206 (σ := σ) hL hpp).mono ?_
      rintro _ _ ⟨rfl, rfl⟩
      refine back trivial ?_
      refine g1 ?_
      refine fin_sub (.setl (.new (.setl (.new (.refl hw) hb1 _) hb1 _) hb2 _) (by omega) _) (.ret _ _ (.refl _)) ⟨?_, rfl⟩
      clear hw hgl hb1 hb2 hg
      congr 1
      try have q1 : (now σ).kind = 110 := by omega
      try have q2 : (now σ).kind = 115 := by omega
      try have q3 : (now σ).kind = 111 := by omega
      try have q4 : ¬ (now σ).kind = 110 := by omega
      try have q5 : ¬ (now σ).kind = 115 := by omega
      try have q6 : ¬ (now σ).kind = 111 := by omega
      try have q7 : (next σ).kind = 111 := by omega
      try have q8 : ¬ (next σ).kind = 111 := by omega
      simp_all [rBegins]
      all_goals (try (intro hd; omega))
    · refine fin_sub (.setl (.new (.setl (.new (.refl hw) hb1 _) hb1 _) hb2 _) (by omega) _) (.ret _ _ (.refl _)) ⟨?_, rfl⟩
      clear hw hgl hb1 hb2 hg
      congr 1
      try have q1 : (now σ).kind = 110 := by omega
      try have q2 : (now σ).kind = 115 := by omega
      try have q3 : (now σ).kind = 111 := by omega
      try have q4 : ¬ (now σ).kind = 110 := by omega
      try have q5 : ¬ (now σ).kind = 115 := by omega
      try have q6 : ¬ (now σ).kind = 111 := by omega
      try have q7 : (next σ).kind = 111 := by omega
      try have q8 : ¬ (next σ).kind = 111 := by omega
      simp_all [rBegins]
      all_goals (try (intro hd; omega))
  · refine fin_sub (.setl (.new (.refl hw) hb1 _) hb1 _) (.ret _ _ (.refl _)) ⟨?_, rfl⟩
    clear hw hgl hb1 hg
    congr 1
    try have q1 : (now σ).kind = 110 := by omega
    try have q2 : (now σ).kind = 115 := by omega
    try have q3 : (now σ).kind = 111 := by omega
    try have q4 : ¬ (now σ).kind = 110 := by omega
    try have q5 : ¬ (now σ).kind = 115 := by omega
    try have q6 : ¬ (now σ).kind = 111 := by omega
    try have q7 : (next σ).kind = 111 := by omega
    try have q8 : ¬ (next σ).kind = 111 := by omega
    simp_all [rBegins]
  · refine fin_sub (.setl (.new (.refl hw) hb1 _) hb1 _) (.ret _ _ (.refl _)) ⟨?_, rfl⟩
    clear hw hgl hb1 hg
    congr 1
    try have q1 : (now σ).kind = 110 := by omega
    try have q2 : (now σ).kind = 115 := by omega
    try have q3 : (now σ).kind = 111 := by omega
    try have q4 : ¬ (now σ).kind = 110 := by omega
    try have q5 : ¬ (now σ).kind = 115 := by omega
    try have q6 : ¬ (now σ).kind = 111 := by omega
    try have q7 : (next σ).kind = 111 := by omega
    try have q8 : ¬ (next σ).kind = 111 := by omega
    simp_all [rBegins]
  · refine fin_sub (.setl (.new (.refl hw) hb1 _) hb1 _) (.ret _ _ (.refl _)) ⟨?_, rfl⟩
    clear hw hgl hb1 hg
    congr 1
    try have q1 : (now σ).kind = 110 := by omega
    try have q2 : (now σ).kind = 115 := by omega
    try have q3 : (now σ).kind = 111 := by omega
    try have q4 : ¬ (now σ).kind = 110 := by omega
    try have q5 : ¬ (now σ).kind = 115 := by omega
    try have q6 : ¬ (now σ).kind = 111 := by omega
    try have q7 : (next σ).kind = 111 := by omega
    try have q8 : ¬ (next σ).kind = 111 := by omega
    simp_all [rBegins]
  · refine fin_sub (.setl (.new (.refl hw) hb1 _) hb1 _) (.ret _ _ (.refl _)) ⟨?_, rfl⟩
    clear hw hgl hb1 hg
    congr 1
    try have q1 : (now σ).kind = 110 := by omega
    try have q2 : (now σ).kind = 115 := by omega
    try have q3 : (now σ).kind = 111 := by omega
    try have q4 : ¬ (now σ).kind = 110 := by omega
    try have q5 : ¬ (now σ).kind = 115 := by omega
    try have q6 : ¬ (now σ).kind = 111 := by omega
    try have q7 : (next σ).kind = 111 := by omega
    try have q8 : ¬ (next σ).kind = 111 := by omega
    simp_all [rBegins]
  · refine fin_sub (.setl (.new (.refl hw) hb1 _) hb1 _) (.ret _ _ (.refl _)) ⟨?_, rfl⟩
    clear hw hgl hb1 hg
    congr 1
    try have q1 : (now σ).kind = 110 := by omega
    try have q2 : (now σ).kind = 115 := by omega
    try have q3 : (now σ).kind = 111 := by omega
    try have q4 : ¬ (now σ).kind = 110 := by omega
    try have q5 : ¬ (now σ).kind = 115 := by omega
    try have q6 : ¬ (now σ).kind = 111 := by omega
    try have q7 : (next σ).kind = 111 := by omega
    try have q8 : ¬ (next σ).kind = 111 := by omega
    simp_all [rBegins]
  · refine fin_sub (.setl (.new (.refl hw) hb1 _) hb1 _) (.ret _ _ (.refl _)) ⟨?_, rfl⟩
    clear hw hgl hb1 hg
    congr 1
    try have q1 : (now σ).kind = 110 := by omega
    try have q2 : (now σ).kind = 115 := by omega
    try have q3 : (now σ).kind = 111 := by omega
    try have q4 : ¬ (now σ).kind = 110 := by omega
    try have q5 : ¬ (now σ).kind = 115 := by omega
    try have q6 : ¬ (now σ).kind = 111 := by omega
    try have q7 : (next σ).kind = 111 := by omega
    try have q8 : ¬ (next σ).kind = 111 := by omega
    simp_all [rBegins]
  · refine fin_sub (.setl (.new (.refl hw) hb1 _) hb1 _) (.ret _ _ (.refl _)) ⟨?_, rfl⟩
    clear hw hgl hb1 hg
    congr 1
    try have q1 : (now σ).kind = 110 := by omega
    try have q2 : (now σ).kind = 115 := by omega
    try have q3 : (now σ).kind = 111 := by omega
    try have q4 : ¬ (now σ).kind = 110 := by omega
    try have q5 : ¬ (now σ).kind = 115 := by omega
    try have q6 : ¬ (now σ).kind = 111 := by omega
    try have q7 : (next σ).kind = 111 := by omega
    try have q8 : ¬ (next σ).kind = 111 := by omega
    simp_all [rBegins]



theorem c42 : ACalls Tryz.prog G 42 [] h (Gives (.sl 1 (encSs filterWords) .frz) h) := by
  refine ACalls.fin (en42 (by simp) fun hw => ?_)
  refine g1 ?_
  exact fin_sub (.refl hw) (.ret _ _ weak_frz) ⟨rfl, rfl⟩
theorem c46 : ACalls Tryz.prog G 46 [] h (Gives (.sl 1 (encSs strategyWords) .frz) h) := by
  refine ACalls.fin (en46 (by simp) fun hw => ?_)
  refine g1 ?_
  exact fin_sub (.refl hw) (.ret _ _ weak_frz) ⟨rfl, rfl⟩

theorem wordFrom_step {l : List Str} {σ : PS L} {i m : Nat} (hm : 0 < m) : wordFrom l σ i m = if is 110 (l.getD i []) σ then (i : Int) else wordFrom l σ (i + 1) (m - 1) := by
  cases m with
  | zero => omega
  | succ m => rfl

theorem c41 (hL : LOk L) (l : List Str) (hl : l.length ≤ 1000) (f : Nat) (hf : f ≤ l.length) (hg : h.get g = some (par d σ)) : ACalls Tryz.prog G 41 [.ptr g 0, .sl 1 (encSs l) .frz, .int .i64 f] h (Gives (.int .i64 (wordR l f σ)) h) := by
  refine en41 (by simp) fun hw => ?_
  refine g1 ?_
  have hlen : (encSs l).length = l.length := List.length_map ..
  refine w_loop (fun e h' n => ∃ k : Nat, k ≤ l.length ∧ n = l.length - k ∧ wordFrom l σ k (l.length - k) = wordR l f σ ∧ h' = h ∧ e = [(0, true, .ptr g 0), (1, true, .sl 1 (encSs l) .frz), (7, true, .int .i64 k)])
    _ _ (.cons rfl (.cons rfl (.cons rfl (.nil _)))) ⟨f, hf, rfl, rfl, rfl, rfl⟩ ?_
  rintro _ _ _ ⟨k, hk, rfl, hpre, rfl, rfl⟩
  refine g2 ?_ ?_ <;> (repeat intro hb hc)
  · obtain ⟨y, hy⟩ : ∃ y, l[k]? = some y := ⟨_, List.getElem?_eq_getElem (by omega)⟩
    refine s_ia rfl (tt rfl) (tt rfl) rfl rfl rfl (fun _ => rfl) (by omega) (row := [.str y]) (by show (l.map _)[k]? = _; rw [List.getElem?_map, hy]; rfl) ?_
    have hyd : l.getD k [] = y := by rw [List.getD_eq_getElem?_getD, hy]; rfl
    rw [wordFrom_step (by omega), hyd] at hpre
    refine g1 ?_
    refine s_call rfl rfl rfl ca45 ?_
    refine (c45 (σ := σ) hL 110 y hg).mono ?_
    rintro _ _ ⟨rfl, rfl⟩
    refine back trivial ?_
    refine g2 ?_ ?_ <;> (repeat intro hb hc)
    · rw [if_pos hc] at hpre
      exact ⟨by rw [← hpre], rfl⟩
    · rw [if_neg (by simp [hc])] at hpre
      refine l_n _ _ ?_ ?_ ⟨k + 1, by omega, rfl, by rw [← hpre]; congr 1, rfl, rfl⟩
      · omega
      · exact envv
  · have : l.length - k = 0 := by omega
    rw [this] at hpre
    exact ⟨by rw [← hpre]; rfl, rfl⟩
end
end Go.Proofs

/- The codes of some functions, tied to the loaded program. No conditions. -/
namespace Go.Proofs
open Go.Abs Go.Abs.I
def r284_0 : L := [o 2 (.alloc 29)]
def r284_1 : L := [o 10 (m (t 0)),
  o 11 (.call ⟨.value (f 39), #[(t 10), (s #[33])], #[79, 9]⟩),
  o 9 (a (t 11))]
def r284_2 : L := [o 12 (m (t 0)),
  o 13 (.call ⟨.value (f 284), #[(t 12)], #[79]⟩),
  o 14 (.buildSlice 27 1 #[(0, (t 13))]),
  o 15 (.build 29 #[(0, (k 6)), (6, (t 14))]),
  q (.store 29 (t 2) (t 15))]
def r284_3 : L := [o 17 (m (t 0)),
  o 18 (.call ⟨.value (f 39), #[(t 17), (s #[40])], #[79, 9]⟩),
  o 16 (a (t 18))]
def r284_4 : L := [o 19 (m (t 0)),
  o 20 (.call ⟨.value (f 237), #[(t 19)], #[79]⟩),
  o 3 (.alloc 29),
  q (.store 29 (t 3) (t 20))]
def r284_5 : L := [o 21 (m (t 0)),
  o 22 (.call ⟨.value (f 44), #[(t 21), (.const (.int .u8 111)), (s #[41])], #[79, 5, 9]⟩)]
def r284_6 : L := [o 23 (l 29 (t 3)),
  q (.store 29 (t 2) (t 23))]
def r284_7 : L := [o 24 (m (t 0)),
  o 25 (.call ⟨.value (f 44), #[(t 24), (.const (.int .u8 110)), (s #[])], #[79, 5, 9]⟩),
  o 4 (a (t 25))]
def r284_8 : L := [o 27 (m (t 4)),
  o 28 (.binOp .eql 9 (t 27) (s #[105, 110]) 9),
  o 29 (m (t 28)),
  y 30 (m (t 0)) 29 true,
  y 31 (.call ⟨.value (f 39), #[(t 30), (s #[40])], #[79, 9]⟩) 29 true,
  o 32 (.pick (t 29) (t 31) (b false)),
  o 26 (a (t 32))]
def r284_9 : L := [o 33 (m (t 0)),
  o 34 (.call ⟨.value (f 44), #[(t 33), (.const (.int .u8 110)), (s #[])], #[79, 5, 9]⟩),
  o 35 (.build 29 #[(0, (k 5)), (1, (t 34))]),
  o 5 (.alloc 29),
  q (.store 29 (t 5) (t 35))]
def r284_10 : L := [o 36 (m (t 0)),
  o 37 (.call ⟨.value (f 39), #[(t 36), (s #[44])], #[79, 9]⟩)]
def r284_11 : L := [o 38 (m (t 0)),
  o 39 (.call ⟨.value (f 44), #[(t 38), (.const (.int .u8 110)), (s #[])], #[79, 5, 9]⟩),
  o 40 (fa 29 (t 5) 2),
  q (.store 9 (t 40) (t 39))]
def r284_12 : L := [o 41 (m (t 0)),
  o 42 (.call ⟨.value (f 44), #[(t 41), (.const (.int .u8 111)), (s #[61])], #[79, 5, 9]⟩)]
def r284_13 : L := [o 43 (m (t 0)),
  o 44 (.call ⟨.value (f 44), #[(t 43), (.const (.int .u8 115)), (s #[])], #[79, 5, 9]⟩),
  o 45 (fa 29 (t 5) 3),
  q (.store 9 (t 45) (t 44))]
def r284_14 : L := [o 46 (m (t 0)),
  o 47 (.call ⟨.value (f 44), #[(t 46), (.const (.int .u8 111)), (s #[41])], #[79, 5, 9]⟩)]
def r284_15 : L := [o 48 (l 29 (t 5)),
  q (.store 29 (t 2) (t 48))]
def r284_16 : L := [o 50 (m (t 0)),
  o 51 (.call ⟨.value (f 39), #[(t 50), (s #[33, 61])], #[79, 9]⟩),
  o 49 (a (t 51))]
def r284_17 : L := [o 52 (m (t 4)),
  o 53 (m (t 0)),
  o 54 (.call ⟨.value (f 44), #[(t 53), (.const (.int .u8 115)), (s #[])], #[79, 5, 9]⟩),
  o 55 (.build 29 #[(0, (k 2)), (1, (t 52)), (3, (t 54))]),
  o 6 (.alloc 29),
  q (.store 29 (t 6) (t 55))]
def r284_18 : L := [o 56 (m (t 0)),
  o 57 (.call ⟨.value (f 208), #[(t 56)], #[79]⟩),
  o 58 (fa 29 (t 6) 5),
  q (.store 4 (t 58) (t 57))]
def r284_19 : L := [o 59 (l 29 (t 6)),
  o 60 (.buildSlice 27 1 #[(0, (t 59))]),
  o 61 (.build 29 #[(0, (k 6)), (6, (t 60))]),
  q (.store 29 (t 2) (t 61))]
def r284_20 : L := [o 63 (m (t 0)),
  o 64 (.call ⟨.value (f 45), #[(t 63), (.const (.int .u8 110)), (s #[99, 111, 110, 116, 97, 105, 110, 115])], #[79, 5, 9]⟩),
  o 62 (a (t 64))]
def r284_21 : L := [o 65 (m (t 0)),
  o 66 (.nilCheck (t 65)),
  o 67 (fa 83 (t 66) 1),
  o 68 (l 3 (t 67)),
  o 69 (.binOp .add 3 (t 68) (k 1) 3),
  o 70 (.nilCheck (t 65)),
  o 71 (fa 83 (t 70) 1),
  q (.store 3 (t 71) (t 69))]
def r284_22 : L := [o 72 (m (t 4)),
  o 73 (m (t 0)),
  o 74 (.call ⟨.value (f 44), #[(t 73), (.const (.int .u8 115)), (s #[])], #[79, 5, 9]⟩),
  o 75 (.build 29 #[(0, (k 3)), (1, (t 72)), (3, (t 74))]),
  q (.store 29 (t 2) (t 75))]
def r284_23 : L := [o 76 (m (t 0)),
  o 77 (.call ⟨.value (f 44), #[(t 76), (.const (.int .u8 111)), (s #[61])], #[79, 5, 9]⟩)]
def r284_24 : L := [o 78 (m (t 0)),
  o 79 (.nilCheck (t 78)),
  o 80 (fa 83 (t 79) 3),
  o 81 (l 39 (t 80)),
  o 82 (.binOp .eql 39 (t 81) (k 0) 39),
  o 83 (m (t 82)),
  y 84 (m (t 0)) 83 true,
  y 85 (.call ⟨.value (f 47), #[(t 84)], #[79]⟩) 83 true,
  y 86 (.field 92 (t 85) 0) 83 true,
  y 87 (.binOp .eql 5 (t 86) (.const (.int .u8 110)) 5) 83 true,
  o 88 (.pick (t 83) (t 87) (b false))]
def r284_25 : L := [o 89 (m (t 4)),
  o 90 (m (t 0)),
  o 91 (.call ⟨.value (f 44), #[(t 90), (.const (.int .u8 110)), (s #[])], #[79, 5, 9]⟩),
  o 92 (.build 29 #[(0, (k 4)), (1, (t 89)), (4, (t 91))]),
  o 7 (.alloc 29),
  q (.store 29 (t 7) (t 92))]
def r284_26 : L := [o 93 (m (t 0)),
  o 94 (.call ⟨.value (f 44), #[(t 93), (.const (.int .u8 111)), (s #[46])], #[79, 5, 9]⟩)]
def r284_27 : L := [o 95 (m (t 0)),
  o 96 (.call ⟨.value (f 44), #[(t 95), (.const (.int .u8 110)), (s #[])], #[79, 5, 9]⟩),
  o 97 (fa 29 (t 7) 2),
  q (.store 9 (t 97) (t 96))]
def r284_28 : L := [o 98 (l 29 (t 7)),
  q (.store 29 (t 2) (t 98))]
def r284_29 : L := [o 99 (m (t 4)),
  o 100 (m (t 0)),
  o 101 (.call ⟨.value (f 44), #[(t 100), (.const (.int .u8 115)), (s #[])], #[79, 5, 9]⟩),
  o 102 (.build 29 #[(0, (k 2)), (1, (t 99)), (3, (t 101))]),
  o 8 (.alloc 29),
  q (.store 29 (t 8) (t 102))]
def r284_30 : L := [o 103 (m (t 0)),
  o 104 (.call ⟨.value (f 208), #[(t 103)], #[79]⟩),
  o 105 (fa 29 (t 8) 5),
  q (.store 4 (t 105) (t 104))]
def r284_31 : L := [o 106 (l 29 (t 8)),
  q (.store 29 (t 2) (t 106))]
def ir284 : ACode := .seq (.ops r284_0) (.seq (.block 0 (.seq (.ops r284_1) (.cond (t 9) (.seq (.ops r284_2) (.ret)) (.seq (.ops r284_3) (.cond (t 16) (.seq (.ops r284_4) (.seq (.ops r284_5) (.seq (.ops r284_6) (.ret)))) (.skip)))))) (.seq (.ops r284_7) (.seq (.block 1 (.seq (.ops r284_8) (.cond (t 26) (.seq (.ops r284_9) (.seq (.seq (.ops r284_10) (.cond (t 37) (.seq (.ops r284_11) (.seq (.ops r284_12) (.ops r284_13))) (.skip))) (.seq (.ops r284_14) (.seq (.ops r284_15) (.ret))))) (.seq (.ops r284_16) (.cond (t 49) (.seq (.ops r284_17) (.seq (.ops r284_18) (.seq (.ops r284_19) (.ret)))) (.seq (.ops r284_20) (.cond (t 62) (.seq (.ops r284_21) (.seq (.ops r284_22) (.ret))) (.skip)))))))) (.seq (.ops r284_23) (.seq (.seq (.ops r284_24) (.cond (t 88) (.seq (.ops r284_25) (.seq (.ops r284_26) (.seq (.ops r284_27) (.seq (.ops r284_28) (.ret))))) (.skip))) (.seq (.ops r284_29) (.seq (.ops r284_30) (.seq (.ops r284_31) (.ret)))))))))
theorem en284 : En ir284 107 [.cell 2 29] 284 := acalls_enter_b mixed Tryz.func284 Tryz.ntmps284 (by kernel_rfl) (by kernel_rfl)
theorem ca284 : Ca 284 := cal Tryz.func284
def r256_0 : L := [o 2 (.alloc 29)]
def r256_1 : L := [o 4 (m (t 0)),
  o 5 (.call ⟨.value (f 284), #[(t 4)], #[79]⟩),
  o 6 (.buildSlice 27 1 #[(0, (t 5))]),
  o 3 (a (t 6))]
def r256_2 : L := [o 7 (m (t 0)),
  o 8 (.call ⟨.value (f 39), #[(t 7), (s #[38])], #[79, 9]⟩)]
def r256_3 : L := [o 9 (m (t 3)),
  o 10 (m (t 0)),
  o 11 (.call ⟨.value (f 284), #[(t 10)], #[79]⟩),
  o 12 (.buildSlice 27 1 #[(0, (t 11))]),
  o 13 (.call ⟨.builtin .append, #[(t 9), (t 12)], #[27, 27]⟩),
  o 3 (a (t 13))]
def r256_4 : L := [o 14 (m (t 3)),
  o 15 (ln (t 14) 27),
  o 16 (.binOp .eql 3 (t 15) (k 1) 3)]
def r256_5 : L := [o 17 (m (t 3)),
  o 18 (.indexAddr 27 (t 17) (k 0)),
  o 19 (l 29 (t 18)),
  q (.store 29 (t 2) (t 19))]
def r256_6 : L := [o 20 (m (t 3)),
  o 21 (.build 29 #[(0, (k 7)), (6, (t 20))]),
  q (.store 29 (t 2) (t 21))]
def ir256 : ACode := .seq (.ops r256_0) (.seq (.ops r256_1) (.seq (.block 0 (.loop (.seq (.seq (.ops r256_2) (.cond (t 8) (.skip) (.exit 0))) (.block 1 (.ops r256_3))))) (.seq (.seq (.ops r256_4) (.cond (t 16) (.seq (.ops r256_5) (.ret)) (.skip))) (.seq (.ops r256_6) (.ret)))))
theorem en256 : En ir256 22 [.cell 2 29] 256 := acalls_enter_b mixed Tryz.func256 Tryz.ntmps256 (by kernel_rfl) (by kernel_rfl)
theorem ca256 : Ca 256 := cal Tryz.func256
def r237_0 : L := [o 2 (.alloc 29)]
def r237_1 : L := [o 4 (m (t 0)),
  o 5 (.call ⟨.value (f 256), #[(t 4)], #[79]⟩),
  o 6 (.buildSlice 27 1 #[(0, (t 5))]),
  o 3 (a (t 6))]
def r237_2 : L := [o 7 (m (t 0)),
  o 8 (.call ⟨.value (f 39), #[(t 7), (s #[124])], #[79, 9]⟩)]
def r237_3 : L := [o 9 (m (t 3)),
  o 10 (m (t 0)),
  o 11 (.call ⟨.value (f 256), #[(t 10)], #[79]⟩),
  o 12 (.buildSlice 27 1 #[(0, (t 11))]),
  o 13 (.call ⟨.builtin .append, #[(t 9), (t 12)], #[27, 27]⟩),
  o 3 (a (t 13))]
def r237_4 : L := [o 14 (m (t 3)),
  o 15 (ln (t 14) 27),
  o 16 (.binOp .eql 3 (t 15) (k 1) 3)]
def r237_5 : L := [o 17 (m (t 3)),
  o 18 (.indexAddr 27 (t 17) (k 0)),
  o 19 (l 29 (t 18)),
  q (.store 29 (t 2) (t 19))]
def r237_6 : L := [o 20 (m (t 3)),
  o 21 (.build 29 #[(0, (k 8)), (6, (t 20))]),
  q (.store 29 (t 2) (t 21))]
def ir237 : ACode := .seq (.ops r237_0) (.seq (.ops r237_1) (.seq (.block 0 (.loop (.seq (.seq (.ops r237_2) (.cond (t 8) (.skip) (.exit 0))) (.block 1 (.ops r237_3))))) (.seq (.seq (.ops r237_4) (.cond (t 16) (.seq (.ops r237_5) (.ret)) (.skip))) (.seq (.ops r237_6) (.ret)))))
theorem en237 : En ir237 22 [.cell 2 29] 237 := acalls_enter_b mixed Tryz.func237 Tryz.ntmps237 (by kernel_rfl) (by kernel_rfl)
theorem ca237 : Ca 237 := cal Tryz.func237
end Go.Proofs
