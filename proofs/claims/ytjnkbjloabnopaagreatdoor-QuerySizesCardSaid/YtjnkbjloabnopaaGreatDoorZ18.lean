/- The codes of some functions, tied to the loaded program. No conditions. -/
import Derived.Test.YtjnkbjloabnopaaGreatDoorZ17
namespace Go.Proofs
open Go.Abs Go.Abs.I
def r159_0 : L := [o 4 (.alloc 32)]
def r159_1 : L := [o 5 (m (t 1)),
  o 6 (ln (t 5) 30),
  o 7 (.binOp .eql 3 (t 6) (k 1) 3)]
def r159_2 : L := [o 8 (m (t 1)),
  o 9 (.indexAddr 30 (t 8) (k 0)),
  o 10 (l 32 (t 9)),
  q (.store 32 (t 4) (t 10))]
def r159_3 : L := [o 11 (m (t 0)),
  o 12 (m (t 1)),
  o 13 (.build 32 #[(0, (t 11)), (6, (t 12))]),
  q (.store 32 (t 4) (t 13))]
def ir159 : ACode := .seq (.ops r159_0) (.seq (.seq (.ops r159_1) (.cond (t 7) (.seq (.ops r159_2) (.ret)) (.skip))) (.seq (.ops r159_3) (.ret)))
theorem en159 : En ir159 14 [.cell 4 32] 159 := acalls_enter_b mixed Tryz.func159 Tryz.ntmps159 (by kernel_rfl) (by kernel_rfl)
theorem ca159 : Ca 159 := cal Tryz.func159
def r252_0 : L := [o 4 (.alloc 32)]
def r252_1 : L := [o 6 (m (t 1)),
  o 7 (.build 32 #[(0, (k 1)), (2, (t 6))]),
  o 5 (.alloc 32),
  q (.store 32 (t 5) (t 7))]
def r252_2 : L := [o 8 (m (t 0)),
  o 9 (.call ⟨.value (f 93), #[(t 8), (s #[91])], #[73, 9]⟩)]
def r252_3 : L := [o 10 (fa 32 (t 5) 1),
  o 11 (fa 29 (t 10) 0),
  q (.store 3 (t 11) (k 1))]
def r252_4 : L := [o 12 (m (t 0)),
  o 13 (.call ⟨.value (f 95), #[(t 12), (s #[93])], #[73, 9]⟩),
  o 14 (.unOp .not 4 (t 13))]
def r252_5 : L := [o 15 (m (t 0)),
  o 16 (.call ⟨.value (f 276), #[(t 15)], #[73]⟩),
  o 17 (fa 32 (t 5) 1),
  q (.store 29 (t 17) (t 16))]
def r252_6 : L := [o 18 (m (t 0)),
  o 19 (.buildSlice 23 1 #[(0, (s #[93]))]),
  o 20 (.call ⟨.value (f 234), #[(t 18), (t 19)], #[73, 23]⟩)]
def r252_7 : L := [o 21 (l 32 (t 5)),
  q (.store 32 (t 4) (t 21))]
def r252_8 : L := [o 22 (m (t 0)),
  o 23 (.call ⟨.value (f 162), #[(t 22), (k 4)], #[73, 3]⟩),
  o 24 (.build 29 #[(0, (k 2)), (3, (t 23))]),
  o 25 (fa 32 (t 5) 1),
  q (.store 29 (t 25) (t 24))]
def r252_9 : L := [o 26 (m (t 0)),
  o 27 (.call ⟨.value (f 255), #[(t 26)], #[73]⟩),
  o 28 (fa 32 (t 5) 1),
  o 29 (fa 29 (t 28) 5),
  q (.store 4 (t 29) (t 27))]
def r252_10 : L := [o 30 (l 32 (t 5)),
  q (.store 32 (t 4) (t 30))]
def ir252 : ACode := .seq (.ops r252_0) (.seq (.ops r252_1) (.seq (.seq (.ops r252_2) (.cond (t 9) (.seq (.ops r252_3) (.seq (.seq (.ops r252_4) (.cond (t 14) (.ops r252_5) (.skip))) (.seq (.ops r252_6) (.seq (.ops r252_7) (.ret))))) (.skip))) (.seq (.ops r252_8) (.seq (.ops r252_9) (.seq (.ops r252_10) (.ret))))))
theorem en252 : En ir252 31 [.cell 4 32] 252 := acalls_enter_b mixed Tryz.func252 Tryz.ntmps252 (by kernel_rfl) (by kernel_rfl)
theorem ca252 : Ca 252 := cal Tryz.func252
def r232_0 : L := [o 2 (.alloc 32)]
def r232_1 : L := [o 8 (m (t 0)),
  o 9 (.call ⟨.value (f 93), #[(t 8), (s #[60])], #[73, 9]⟩),
  o 7 (a (t 9))]
def r232_2 : L := [o 10 (m (t 0)),
  o 11 (.call ⟨.value (f 99), #[(t 10)], #[73]⟩),
  o 12 (.build 32 #[(0, (k 2)), (3, (t 11))]),
  o 3 (.alloc 32),
  q (.store 32 (t 3) (t 12))]
def r232_3 : L := [o 13 (m (t 0)),
  o 14 (.buildSlice 23 1 #[(0, (s #[62]))]),
  o 15 (.call ⟨.value (f 234), #[(t 13), (t 14)], #[73, 23]⟩)]
def r232_4 : L := [o 16 (l 32 (t 3)),
  q (.store 32 (t 2) (t 16))]
def r232_5 : L := [o 18 (m (t 0)),
  o 19 (.call ⟨.value (f 93), #[(t 18), (s #[60, 47])], #[73, 9]⟩),
  o 17 (a (t 19))]
def r232_6 : L := [o 20 (m (t 0)),
  o 21 (.call ⟨.value (f 99), #[(t 20)], #[73]⟩),
  o 22 (.build 32 #[(0, (k 3)), (3, (t 21))]),
  o 4 (.alloc 32),
  q (.store 32 (t 4) (t 22))]
def r232_7 : L := [o 23 (m (t 0)),
  o 24 (.buildSlice 23 1 #[(0, (s #[62]))]),
  o 25 (.call ⟨.value (f 234), #[(t 23), (t 24)], #[73, 23]⟩)]
def r232_8 : L := [o 26 (l 32 (t 4)),
  q (.store 32 (t 2) (t 26))]
def r232_9 : L := [o 28 (m (t 0)),
  o 29 (.call ⟨.value (f 93), #[(t 28), (s #[40])], #[73, 9]⟩),
  o 27 (a (t 29))]
def r232_10 : L := [o 30 (m (t 0)),
  o 31 (.call ⟨.value (f 92), #[(t 30), (b true)], #[73, 4]⟩),
  o 5 (.alloc 32),
  q (.store 32 (t 5) (t 31))]
def r232_11 : L := [o 32 (m (t 0)),
  o 33 (.buildSlice 23 1 #[(0, (s #[41]))]),
  o 34 (.call ⟨.value (f 234), #[(t 32), (t 33)], #[73, 23]⟩)]
def r232_12 : L := [o 35 (l 32 (t 5)),
  q (.store 32 (t 2) (t 35))]
def r232_13 : L := [o 37 (m (t 0)),
  o 38 (.nilCheck (t 37)),
  o 39 (fa 77 (t 38) 2),
  o 40 (fa 75 (t 39) 0),
  o 41 (l 3 (t 40)),
  o 42 (.binOp .eql 3 (t 41) (k 2) 3),
  o 36 (a (t 42))]
def r232_14 : L := [o 43 (m (t 0)),
  o 44 (.call ⟨.value (f 99), #[(t 43)], #[73]⟩),
  o 6 (a (t 44))]
def r232_15 : L := [o 45 (m (t 0)),
  o 46 (.buildSlice 23 1 #[(0, (s #[58]))]),
  o 47 (.call ⟨.value (f 234), #[(t 45), (t 46)], #[73, 23]⟩)]
def r232_16 : L := [o 48 (m (t 0)),
  o 49 (m (t 6)),
  o 50 (.call ⟨.value (f 252), #[(t 48), (t 49)], #[73, 9]⟩),
  q (.store 32 (t 2) (t 50))]
def r232_17 : L := [o 51 (m (t 0)),
  o 52 (.call ⟨.value (f 252), #[(t 51), (s #[])], #[73, 9]⟩),
  q (.store 32 (t 2) (t 52))]
def ir232 : ACode := .seq (.ops r232_0) (.seq (.block 0 (.seq (.ops r232_1) (.cond (t 7) (.seq (.ops r232_2) (.seq (.ops r232_3) (.seq (.ops r232_4) (.ret)))) (.seq (.ops r232_5) (.cond (t 17) (.seq (.ops r232_6) (.seq (.ops r232_7) (.seq (.ops r232_8) (.ret)))) (.seq (.ops r232_9) (.cond (t 27) (.seq (.ops r232_10) (.seq (.ops r232_11) (.seq (.ops r232_12) (.ret)))) (.seq (.ops r232_13) (.cond (t 36) (.seq (.ops r232_14) (.seq (.ops r232_15) (.seq (.ops r232_16) (.ret)))) (.skip)))))))))) (.seq (.ops r232_17) (.ret)))
theorem en232 : En ir232 53 [.cell 2 32] 232 := acalls_enter_b mixed Tryz.func232 Tryz.ntmps232 (by kernel_rfl) (by kernel_rfl)
theorem ca232 : Ca 232 := cal Tryz.func232
def r200_0 : L := [o 2 (.alloc 32)]
def r200_1 : L := [o 7 (m (t 0)),
  o 8 (.call ⟨.value (f 232), #[(t 7)], #[73]⟩),
  o 3 (.alloc 32),
  q (.store 32 (t 3) (t 8))]
def r200_2 : L := [o 4 (a (k 0)),
  o 5 (a (k (-1)))]
def r200_3 : L := [o 9 (m (t 0)),
  o 10 (.nilCheck (t 9)),
  o 11 (fa 77 (t 10) 2),
  o 12 (fa 75 (t 11) 2),
  o 13 (l 3 (t 12)),
  o 6 (a (t 13))]
def r200_4 : L := [o 16 (m (t 0)),
  o 17 (.call ⟨.value (f 93), #[(t 16), (s #[63])], #[73, 9]⟩),
  o 15 (a (t 17))]
def r200_5 : L := [o 5 (a (k 1))]
def r200_6 : L := [o 19 (m (t 0)),
  o 20 (.call ⟨.value (f 93), #[(t 19), (s #[42])], #[73, 9]⟩),
  o 18 (a (t 20))]
def r200_7 : L := [o 22 (m (t 0)),
  o 23 (.call ⟨.value (f 93), #[(t 22), (s #[43])], #[73, 9]⟩),
  o 21 (a (t 23))]
def r200_8 : L := [o 4 (a (k 1))]
def r200_9 : L := [o 25 (m (t 0)),
  o 26 (.call ⟨.value (f 93), #[(t 25), (s #[123])], #[73, 9]⟩),
  o 24 (a (t 26))]
def r200_10 : L := [o 27 (m (t 0)),
  o 28 (m (t 6)),
  o 29 (.call ⟨.value (f 233), #[(t 27), (k 16), (t 28)], #[73, 3, 3]⟩),
  o 4 (a (t 29))]
def r200_11 : L := [o 30 (m (t 4)),
  o 5 (a (t 30))]
def r200_12 : L := [o 31 (m (t 0)),
  o 32 (.call ⟨.value (f 93), #[(t 31), (s #[44])], #[73, 9]⟩)]
def r200_13 : L := [o 5 (a (k (-1)))]
def r200_14 : L := [o 33 (m (t 0)),
  o 34 (.call ⟨.value (f 95), #[(t 33), (s #[125])], #[73, 9]⟩),
  o 35 (.unOp .not 4 (t 34))]
def r200_15 : L := [o 36 (m (t 0)),
  o 37 (m (t 6)),
  o 38 (.call ⟨.value (f 233), #[(t 36), (k 16), (t 37)], #[73, 3, 3]⟩),
  o 5 (a (t 38))]
def r200_16 : L := [o 39 (m (t 5)),
  o 40 (m (t 4)),
  o 41 (.binOp .lss 3 (t 39) (t 40) 3)]
def r200_17 : L := [o 42 (m (t 6)),
  o 43 (.build 71 #[(0, (t 42)), (1, (k 8))]),
  o 44 (.makeInterface 71 (t 43)),
  q (.panic (t 44))]
def r200_18 : L := [o 45 (m (t 0)),
  o 46 (.buildSlice 23 1 #[(0, (s #[125]))]),
  o 47 (.call ⟨.value (f 234), #[(t 45), (t 46)], #[73, 23]⟩)]
def r200_19 : L := [o 14 (l 32 (t 3)),
  q (.store 32 (t 2) (t 14))]
def r200_20 : L := [o 48 (m (t 4)),
  o 49 (m (t 5)),
  o 50 (l 32 (t 3)),
  o 51 (.buildSlice 30 1 #[(0, (t 50))]),
  o 52 (.build 32 #[(0, (k 6)), (4, (t 48)), (5, (t 49)), (6, (t 51))]),
  q (.store 32 (t 3) (t 52))]
def ir200 : ACode := .seq (.ops r200_0) (.seq (.ops r200_1) (.block 0 (.loop (.block 1 (.seq (.ops r200_2) (.seq (.seq (.ops r200_3) (.block 2 (.seq (.ops r200_4) (.cond (t 15) (.ops r200_5) (.seq (.ops r200_6) (.cond (t 18) (.skip) (.seq (.ops r200_7) (.cond (t 21) (.ops r200_8) (.seq (.ops r200_9) (.cond (t 24) (.seq (.ops r200_10) (.seq (.ops r200_11) (.seq (.seq (.ops r200_12) (.cond (t 32) (.seq (.ops r200_13) (.seq (.ops r200_14) (.cond (t 35) (.seq (.ops r200_15) (.seq (.ops r200_16) (.cond (t 41) (.ops r200_17) (.skip)))) (.skip)))) (.skip))) (.ops r200_18)))) (.seq (.ops r200_19) (.ret)))))))))))) (.ops r200_20)))))))
theorem en200 : En ir200 53 [.cell 2 32] 200 := acalls_enter_b mixed Tryz.func200 Tryz.ntmps200 (by kernel_rfl) (by kernel_rfl)
theorem ca200 : Ca 200 := cal Tryz.func200
def r201_0 : L := [o 4 (a (b false))]
def r201_1 : L := [o 6 (m (t 0)),
  o 7 (.nilCheck (t 6)),
  o 8 (fa 77 (t 7) 2),
  o 9 (fa 75 (t 8) 0),
  o 10 (l 3 (t 9))]
def r201_2 : L := [o 12 (.binOp .eql 3 (t 10) (k 4) 3),
  o 11 (a (t 12))]
def r201_3 : L := [o 4 (a (b true))]
def r201_4 : L := [o 14 (.binOp .eql 3 (t 10) (k 2) 3),
  o 13 (a (t 14))]
def r201_5 : L := [o 15 (m (t 0)),
  o 16 (.call ⟨.value (f 235), #[(t 15)], #[73]⟩),
  o 5 (.alloc 75),
  q (.store 75 (t 5) (t 16))]
def r201_6 : L := [o 17 (m (t 1)),
  o 18 (m (t 17)),
  y 19 (m (t 0)) 18 false,
  y 20 (.buildSlice 23 4 #[(0, (s #[119, 105, 116, 104, 105, 110])), (1, (s #[99, 111, 110, 116, 97, 105, 110, 105, 110, 103])), (2, (s #[111, 118, 101, 114, 108, 97, 112, 112, 105, 110, 103])), (3, (s #[115, 116, 114, 97, 116, 101, 103, 121]))]) 18 false,
  y 21 (.call ⟨.value (f 96), #[(t 19), (t 20)], #[73, 23]⟩) 18 false,
  y 22 (.unOp .not 4 (t 21)) 18 false,
  o 23 (.pick (t 18) (b true) (t 22)),
  o 24 (m (t 23)),
  y 25 (fa 75 (t 5) 0) 24 false,
  y 26 (l 3 (t 25)) 24 false,
  y 27 (.binOp .eql 3 (t 26) (k 5) 3) 24 false,
  y 28 (m (t 27)) 24 false,
  y 29 (fa 75 (t 5) 1) 28 true,
  y 30 (l 9 (t 29)) 28 true,
  y 31 (.binOp .eql 9 (t 30) (s #[58]) 9) 28 true,
  y 32 (.pick (t 28) (t 31) (b false)) 24 false,
  o 33 (.pick (t 24) (b true) (t 32)),
  o 4 (a (t 33))]
def r201_7 : L := [o 34 (m (t 0)),
  o 35 (.call ⟨.value (f 95), #[(t 34), (s #[91])], #[73, 9]⟩),
  o 36 (m (t 35)),
  y 37 (m (t 0)) 36 false,
  y 38 (.call ⟨.value (f 95), #[(t 37), (s #[60])], #[73, 9]⟩) 36 false,
  o 39 (.pick (t 36) (b true) (t 38)),
  o 40 (m (t 39)),
  y 41 (m (t 0)) 40 false,
  y 42 (.call ⟨.value (f 95), #[(t 41), (s #[60, 47])], #[73, 9]⟩) 40 false,
  o 43 (.pick (t 40) (b true) (t 42)),
  o 44 (m (t 43)),
  y 45 (m (t 0)) 44 false,
  y 46 (.call ⟨.value (f 95), #[(t 45), (s #[40])], #[73, 9]⟩) 44 false,
  o 47 (.pick (t 44) (b true) (t 46)),
  o 4 (a (t 47))]
def ir201 : ACode := .seq (.ops r201_0) (.seq (.seq (.ops r201_1) (.block 0 (.seq (.ops r201_2) (.cond (t 11) (.seq (.ops r201_3) (.ret)) (.seq (.ops r201_4) (.cond (t 13) (.seq (.ops r201_5) (.seq (.ops r201_6) (.ret))) (.skip))))))) (.seq (.ops r201_7) (.ret)))
theorem en201 : En ir201 48 [.tmp 4] 201 := acalls_enter_b mixed Tryz.func201 Tryz.ntmps201 (by kernel_rfl) (by kernel_rfl)
theorem ca201 : Ca 201 := cal Tryz.func201
def r158_0 : L := [o 4 (.alloc 32)]
def r158_1 : L := [o 6 (m (t 0)),
  o 7 (.call ⟨.value (f 200), #[(t 6)], #[73]⟩),
  o 8 (.buildSlice 30 1 #[(0, (t 7))]),
  o 5 (a (t 8))]
def r158_2 : L := [o 9 (m (t 0)),
  o 10 (m (t 1)),
  o 11 (.call ⟨.value (f 201), #[(t 9), (t 10)], #[73, 4]⟩)]
def r158_3 : L := [o 12 (m (t 5)),
  o 13 (m (t 0)),
  o 14 (.call ⟨.value (f 200), #[(t 13)], #[73]⟩),
  o 15 (.buildSlice 30 1 #[(0, (t 14))]),
  o 16 (.call ⟨.builtin .append, #[(t 12), (t 15)], #[30, 30]⟩),
  o 5 (a (t 16))]
def r158_4 : L := [o 17 (m (t 5)),
  o 18 (.call ⟨.value (f 159), #[(k 4), (t 17)], #[3, 30]⟩),
  q (.store 32 (t 4) (t 18))]
def ir158 : ACode := .seq (.ops r158_0) (.seq (.ops r158_1) (.seq (.block 0 (.loop (.seq (.seq (.ops r158_2) (.cond (t 11) (.skip) (.exit 0))) (.block 1 (.ops r158_3))))) (.seq (.ops r158_4) (.ret))))
theorem en158 : En ir158 19 [.cell 4 32] 158 := acalls_enter_b mixed Tryz.func158 Tryz.ntmps158 (by kernel_rfl) (by kernel_rfl)
theorem ca158 : Ca 158 := cal Tryz.func158
def r92_0 : L := [o 4 (.alloc 32)]
def r92_1 : L := [o 6 (m (t 0)),
  o 7 (m (t 1)),
  o 8 (.call ⟨.value (f 158), #[(t 6), (t 7)], #[73, 4]⟩),
  o 9 (.buildSlice 30 1 #[(0, (t 8))]),
  o 5 (a (t 9))]
def r92_2 : L := [o 10 (m (t 0)),
  o 11 (.call ⟨.value (f 93), #[(t 10), (s #[124])], #[73, 9]⟩)]
def r92_3 : L := [o 12 (m (t 5)),
  o 13 (m (t 0)),
  o 14 (m (t 1)),
  o 15 (.call ⟨.value (f 158), #[(t 13), (t 14)], #[73, 4]⟩),
  o 16 (.buildSlice 30 1 #[(0, (t 15))]),
  o 17 (.call ⟨.builtin .append, #[(t 12), (t 16)], #[30, 30]⟩),
  o 5 (a (t 17))]
def r92_4 : L := [o 18 (m (t 5)),
  o 19 (.call ⟨.value (f 159), #[(k 5), (t 18)], #[3, 30]⟩),
  q (.store 32 (t 4) (t 19))]
def ir92 : ACode := .seq (.ops r92_0) (.seq (.ops r92_1) (.seq (.block 0 (.loop (.seq (.seq (.ops r92_2) (.cond (t 11) (.skip) (.exit 0))) (.block 1 (.ops r92_3))))) (.seq (.ops r92_4) (.ret))))
theorem en92 : En ir92 20 [.cell 4 32] 92 := acalls_enter_b mixed Tryz.func92 Tryz.ntmps92 (by kernel_rfl) (by kernel_rfl)
theorem ca92 : Ca 92 := cal Tryz.func92
end Go.Proofs

/- Patterns read by the reader. No conditions. -/
namespace Go.Proofs
open Go.Abs Go.Q
attribute [local irreducible] awp aops Run BodyQ ACalls Back
section
variable {G : Nat → Option Obj} {h : AHeap} {s : Str} {st : S} {g : Nat}

abbrev encPa (c : Pat) : AVal := .agg (encP c)
abbrev zP : List AVal := [.int .i64 0, .int .i64 0, .str [], .str [], .str [], .str [], .bool false, .sl 0 [] .nl, .str [], .str [], .int .i64 0, .int .i64 0, .sl 0 [] .nl]

set_option maxHeartbeats 1000000 in
theorem c159 (op : Int) (l : List Pat) (hl : l.length ≤ 1000000) : ACalls Tryz.prog G 159 [.int .i64 op, .sl 13 (encPs l) .frz] h (Gives (encPa (manyP op l)) h) := by
  refine ACalls.fin (en159 (by simp) fun hw => ?_)
  refine g1 ?_
  refine s_alloc (tt rfl) fun b1 hb1 => ⟨trivial, ?_⟩
  try simp only [set_next, new_next] at hb1
  have hlen := encPs_length l
  refine g2 ?_ ?_ <;> (repeat intro hb hc)
  · obtain ⟨c, rfl⟩ : ∃ c, l = [c] := List.length_eq_one_iff.1 (by omega)
    obtain ⟨op', ⟨o2, nm, ag, vl, lb, fd, kd2⟩, lab, reg, lo, hi, kd⟩ := c
    refine s_ia rfl (tt rfl) (tt rfl) rfl rfl rfl (fun _ => rfl) (by omega) rfl ?_
    refine g1 ?_
    refine fin_sub (out' := .ret (encPa (.mk op' (.mk o2 nm ag vl lb fd kd2) lab reg lo hi kd))) (.setl (.new (.refl hw) hb1 _) hb1 _) (.ret _ _ ?_) ⟨rfl, rfl⟩
    exact wkk
  · have : manyP op l = .mk op .zero [] [] 0 0 l := by
      rcases l with _ | ⟨c, _ | ⟨d, r⟩⟩
      · rfl
      · exact absurd rfl hc
      · rfl
    rw [this]
    refine fin_sub (out' := .ret (encPa (.mk op .zero [] [] 0 0 l))) (.setl (.new (.refl hw) hb1 _) hb1 _) (.ret _ _ ?_) ⟨rfl, rfl⟩
    exact wkk


set_option maxHeartbeats 4000000 in
set_option maxRecDepth 10000 in
theorem c252 (hs : s.length ≤ 1000) (n : Nat) (hn : n ≤ 100000) (lab : Str) {r : R Pat} (hg : h.get g = some (rdr s st)) (hst : V s st) (H : tokenP s n lab st = some r) : ACalls Tryz.prog G 252 [.ptr g 0, .str lab] h (RP s g h encPa r) := by
  refine ACalls.fin (en252 (by simp) fun hw => ?_)
  have hgl := hw g _ hg
  unfold tokenP at H
  refine g1 ?_
  refine s_alloc (tt rfl) fun b1 hb1 => ⟨trivial, ?_⟩
  try simp only [set_next, new_next] at hb1
  refine g1 ?_
  refine s_alloc (tt rfl) fun b2 hb2 => ⟨trivial, ?_⟩
  try simp only [set_next, new_next] at hb2
  refine g1 ?_
  rcases Bool.eq_false_or_eq_true (isSign [91] st) with hx | hx <;> simp only [hx, sbb] at H
  · refine s_call rfl rfl rfl ca93 ?_
    refine (c93_t [91] (st := st) hpp vvv hs hx).mono ?_
    rintro _ _ ⟨rfl, rfl⟩
    refine back trivial ?_
    refine g1 ?_
    rcases Bool.eq_false_or_eq_true (isSign [93] (nxt s st)) with hy | hy <;> simp only [hy, sbb] at H
    · refine s_call rfl rfl rfl ca95 ?_
      refine (c95 [93] (st := nxt s st) hpp).mono ?_
      rintro _ _ ⟨rfl, rfl⟩
      refine back trivial ?_
      simp only [Option.some.injEq] at H
      subst H
      rw [hy]
      refine g1 ?_
      refine s_call rfl rfl rfl ca234 ?_
      refine call_r ((c234 [93] (st := nxt s st) hpp vvv hs).args (must_args g [93])) (fun u s1 hr hl => back trivial ?_) (fun p x st1 hr => ?_)
      rotate_left
      · apply z_p
        simp only [hr, sbb]
        exact fin_bad atss
      simp only [hr, sbb]
      refine g1 ?_
      refine fin_ok atss vvv wkk
    · refine s_call rfl rfl rfl ca95 ?_
      refine (c95 [93] (st := nxt s st) hpp).mono ?_
      rintro _ _ ⟨rfl, rfl⟩
      refine back trivial ?_
      rw [hy]
      refine g1 ?_
      refine s_call rfl rfl rfl ca276 ?_
      refine call_o (bindO_ne H) (fun r1 hr => c276 hs hn (st := nxt s st) hpp vvv hr) (fun c s1 hr hl => back trivial ?_) (fun p x st1 hr => ?_)
      rotate_left
      · apply z_p
        rw [hr] at H; simp only [sbb1, Option.some.injEq] at H; subst H
        exact fin_bad atss
      rw [hr] at H; simp only [sbb] at H
      simp only [Option.some.injEq] at H
      subst H
      obtain ⟨o2, nm, ag, vl, lb, fd, kd2⟩ := c
      refine g1 ?_
      refine s_call rfl rfl rfl ca234 ?_
      refine call_r ((c234 [93] (st := s1) hpp vvv hs).args (must_args g [93])) (fun u s2 hr hl => back trivial ?_) (fun p x st1 hr => ?_)
      rotate_left
      · apply z_p
        simp only [hr, sbb]
        exact fin_bad atss
      simp only [hr, sbb]
      refine g1 ?_
      refine fin_ok atss vvv wkk
  · refine s_call rfl rfl rfl ca93 ?_
    refine (c93_f [91] (st := st) hpp vvv hs hx).mono ?_
    rintro _ _ ⟨rfl, rfl⟩
    refine back trivial ?_
    refine g1 ?_
    simp only [Option.some.injEq] at H
    subst H
    refine s_call rfl rfl rfl ca162 ?_
    refine call_r (c162 4 (by omega) (st := st) hpp vvv hs) (fun v s1 hr hl => back trivial ?_) (fun p x st1 hr => ?_)
    rotate_left
    · apply z_p
      simp only [hr, sbb]
      exact fin_bad atss
    simp only [hr, sbb]
    refine g1 ?_
    refine s_call rfl rfl rfl ca255 ?_
    refine call_r (c255 (st := s1) hpp vvv hs) (fun f s2 hr hl => back trivial ?_) (fun p x st1 hr => ?_)
    rotate_left
    · apply z_p
      simp only [hr, sbb]
      exact fin_bad atss
    simp only [hr, sbb]
    refine g1 ?_
    refine fin_ok atss vvv wkk
end
end Go.Proofs

/- Where an item begins. No conditions but that of the token after the present one. -/
namespace Go.Proofs
open Go.Abs Go.Q
attribute [local irreducible] awp aops Run BodyQ ACalls Back
section
variable {G : Nat → Option Obj} {h : AHeap} {s : Str} {st : S} {g : Nat}

theorem ca235 : Callable Tryz.prog 235 := ⟨_, Tryz.func235, by kernel_rfl, by kernel_rfl⟩

/-- What 'peek' does. -/
def PeekOK (G : Nat → Option Obj) (s : Str) : Prop := ∀ (h : AHeap) (st : S) (g : Nat), h.get g = some (rdr s st) → V s st → ACalls Tryz.prog G 235 [.ptr g 0] h (Gives (encTok (nxt s st).1) h)

set_option maxHeartbeats 4000000 in
set_option maxRecDepth 10000 in
theorem c201 (hp : PeekOK G s) (inner : Bool) (hg : h.get g = some (rdr s st)) (hst : V s st) : ACalls Tryz.prog G 201 [.ptr g 0, .bool inner] h (Gives (.bool (beginsP s inner st)) h) := by
  refine ACalls.fin (en201 (by simp) fun hw => ?_)
  have hgl := hw g _ hg
  unfold beginsP
  refine g3 ?_ ?_ ?_ <;> intros
  · have hk : st.1.kind = 4 := by omega
    refine fin_sub (.refl hw) (.ret _ _ (.refl _)) ⟨?_, rfl⟩
    simp [hk]
  · have hk : st.1.kind = 2 := by omega
    simp only [hk, sbb]
    refine s_call rfl rfl rfl ca235 ?_
    refine (hp h st g hg hst).mono ?_
    rintro _ _ ⟨rfl, rfl⟩
    refine back trivial ?_
    refine g1 ?_
    refine s_alloc (tt rfl) fun b1 hb1 => ⟨trivial, ?_⟩
    try simp only [set_next, new_next] at hb1
    refine g2 ?_ ?_ <;> intros
    · refine s_call rfl rfl rfl ca96 ?_
      refine ((c96 (st := st) tails (by decide) hpp).args (.cons (.refl _) (.cons weak_frz .nil))).mono ?_
      rintro _ _ ⟨rfl, rfl⟩
      refine back trivial ?_
      refine g3 ?_ ?_ ?_ <;> intros
      all_goals refine fin_sub (.setl (.new (.refl hw) hb1 _) hb1 _) (.ret _ _ (.refl _)) ⟨?_, rfl⟩
      all_goals simp_all [isSign]
      all_goals intro _
      all_goals omega
    · refine fin_sub (.setl (.new (.refl hw) hb1 _) hb1 _) (.ret _ _ (.refl _)) ⟨?_, rfl⟩
      simp_all
  · have hk : ¬ st.1.kind = 4 ∧ ¬ st.1.kind = 2 := by omega
    simp only [hk.1, hk.2, sbb]
    refine s_call rfl rfl rfl ca95 ?_
    refine (c95 [91] (st := st) hpp).mono ?_
    rintro _ _ ⟨rfl, rfl⟩
    refine back trivial ?_
    refine g2 ?_ ?_ <;> intros
    · refine s_call rfl rfl rfl ca95 ?_
      refine (c95 [60] (st := st) hpp).mono ?_
      rintro _ _ ⟨rfl, rfl⟩
      refine back trivial ?_
      refine g2 ?_ ?_ <;> intros
      · refine s_call rfl rfl rfl ca95 ?_
        refine (c95 [60, 47] (st := st) hpp).mono ?_
        rintro _ _ ⟨rfl, rfl⟩
        refine back trivial ?_
        refine g2 ?_ ?_ <;> intros
        · refine s_call rfl rfl rfl ca95 ?_
          refine (c95 [40] (st := st) hpp).mono ?_
          rintro _ _ ⟨rfl, rfl⟩
          refine back trivial ?_
          refine g1 ?_
          refine fin_sub (.refl hw) (.ret _ _ (.refl _)) ⟨?_, rfl⟩
          simp_all
        · refine fin_sub (.refl hw) (.ret _ _ (.refl _)) ⟨?_, rfl⟩
          simp_all
      · refine fin_sub (.refl hw) (.ret _ _ (.refl _)) ⟨?_, rfl⟩
        simp_all
    · refine fin_sub (.refl hw) (.ret _ _ (.refl _)) ⟨?_, rfl⟩
      simp_all
end
end Go.Proofs

/- Patterns read by the reader: repetitions, items, sequences, alternatives. No conditions but that of peek. -/
namespace Go.Proofs
open Go.Abs Go.Q
attribute [local irreducible] awp aops Run BodyQ ACalls Back
section
variable {G : Nat → Option Obj} {h : AHeap} {s : Str} {st : S} {g : Nat}

def AltOK (G : Nat → Option Obj) (s : Str) (n : Nat) : Prop := ∀ (h : AHeap) (inner : Bool) (st : S) (g : Nat) (r : R Pat), h.get g = some (rdr s st) → V s st → altP s n inner st = some r → ACalls Tryz.prog G 92 [.ptr g 0, .bool inner] h (RP s g h encPa r)
def SeqOK (G : Nat → Option Obj) (s : Str) (n : Nat) : Prop := ∀ (h : AHeap) (inner : Bool) (st : S) (g : Nat) (r : R Pat), h.get g = some (rdr s st) → V s st → seqP s n inner st = some r → ACalls Tryz.prog G 158 [.ptr g 0, .bool inner] h (RP s g h encPa r)
def RepOK (G : Nat → Option Obj) (s : Str) (n : Nat) : Prop := ∀ (h : AHeap) (st : S) (g : Nat) (r : R Pat), h.get g = some (rdr s st) → V s st → repP s n st = some r → ACalls Tryz.prog G 200 [.ptr g 0] h (RP s g h encPa r)
def ItemOK (G : Nat → Option Obj) (s : Str) (n : Nat) : Prop := ∀ (h : AHeap) (st : S) (g : Nat) (r : R Pat), h.get g = some (rdr s st) → V s st → itemP s n st = some r → ACalls Tryz.prog G 232 [.ptr g 0] h (RP s g h encPa r)

theorem append_room' {h0 h : AHeap} {E n m : Nat} {tg : Tag} (hr : Room h0 h E n tg) (hm : n = m) : Room h0 h E m tg := by rw [← hm]; exact hr

set_option maxHeartbeats 4000000 in
set_option maxRecDepth 10000 in
theorem item_step (hs : s.length ≤ 1000) (n : Nat) (hn : n ≤ 100000) (h1 : AltOK G s n) : ItemOK G s (n + 1) := by
  intro h st g r hg hst H
  refine ACalls.fin (en232 (by simp) fun hw => ?_)
  have hgl := hw g _ hg
  simp only [itemP] at H
  refine g1 ?_
  refine s_alloc (tt rfl) fun b1 hb1 => ⟨trivial, ?_⟩
  try simp only [set_next, new_next] at hb1
  refine g1 ?_
  rcases Bool.eq_false_or_eq_true (isSign [60] st) with hx | hx <;> simp only [hx, sbb] at H
  · refine s_call rfl rfl rfl ca93 ?_
    refine (c93_t [60] (st := st) hpp vvv hs hx).mono ?_
    rintro _ _ ⟨rfl, rfl⟩
    refine back trivial ?_
    refine g1 ?_
    simp only [Option.some.injEq] at H
    subst H
    refine s_call rfl rfl rfl ca99 ?_
    refine call_r (c99 (st := nxt s st) hpp vvv hs) (fun rg s1 hr hl => back trivial ?_) (fun p x st1 hr => ?_)
    rotate_left
    · apply z_p
      simp only [hr, sbb]
      exact fin_bad atss
    simp only [hr, sbb]
    refine g1 ?_
    refine s_alloc (tt rfl) fun b2 hb2 => ⟨trivial, ?_⟩
    try simp only [set_next, new_next] at hb2
    refine g1 ?_
    refine s_call rfl rfl rfl ca234 ?_
    refine call_r ((c234 [62] (st := s1) hpp vvv hs).args (must_args g [62])) (fun u s2 hr hl => back trivial ?_) (fun p x st1 hr => ?_)
    rotate_left
    · apply z_p
      simp only [hr, sbb]
      exact fin_bad atss
    simp only [hr, sbb]
    refine g1 ?_
    refine fin_ok atss vvv wkk
  refine s_call rfl rfl rfl ca93 ?_
  refine (c93_f [60] (st := st) hpp vvv hs hx).mono ?_
  rintro _ _ ⟨rfl, rfl⟩
  refine back trivial ?_
  refine g1 ?_
  rcases Bool.eq_false_or_eq_true (isSign [60, 47] st) with hx | hx <;> simp only [hx, sbb] at H
  · refine s_call rfl rfl rfl ca93 ?_
    refine (c93_t [60, 47] (st := st) hpp vvv hs hx).mono ?_
    rintro _ _ ⟨rfl, rfl⟩
    refine back trivial ?_
    refine g1 ?_
    simp only [Option.some.injEq] at H
    subst H
    refine s_call rfl rfl rfl ca99 ?_
    refine call_r (c99 (st := nxt s st) hpp vvv hs) (fun rg s1 hr hl => back trivial ?_) (fun p x st1 hr => ?_)
    rotate_left
    · apply z_p
      simp only [hr, sbb]
      exact fin_bad atss
    simp only [hr, sbb]
    refine g1 ?_
    refine s_alloc (tt rfl) fun b2 hb2 => ⟨trivial, ?_⟩
    try simp only [set_next, new_next] at hb2
    refine g1 ?_
    refine s_call rfl rfl rfl ca234 ?_
    refine call_r ((c234 [62] (st := s1) hpp vvv hs).args (must_args g [62])) (fun u s2 hr hl => back trivial ?_) (fun p x st1 hr => ?_)
    rotate_left
    · apply z_p
      simp only [hr, sbb]
      exact fin_bad atss
    simp only [hr, sbb]
    refine g1 ?_
    refine fin_ok atss vvv wkk
  refine s_call rfl rfl rfl ca93 ?_
  refine (c93_f [60, 47] (st := st) hpp vvv hs hx).mono ?_
  rintro _ _ ⟨rfl, rfl⟩
  refine back trivial ?_
  refine g1 ?_
  rcases Bool.eq_false_or_eq_true (isSign [40] st) with hx | hx <;> simp only [hx, sbb] at H
  · refine s_call rfl rfl rfl ca93 ?_
    refine (c93_t [40] (st := st) hpp vvv hs hx).mono ?_
    rintro _ _ ⟨rfl, rfl⟩
    refine back trivial ?_
    refine g1 ?_
    refine s_call rfl rfl rfl ca92 ?_
    refine call_o (bindO_ne H) (fun r1 hr => h1 _ true (nxt s st) _ _ hpp vvv hr) (fun a s1 hr hl => back trivial ?_) (fun p x st1 hr => ?_)
    rotate_left
    · apply z_p
      rw [hr] at H; simp only [sbb1, Option.some.injEq] at H; subst H
      exact fin_bad atss
    rw [hr] at H; simp only [sbb] at H
    simp only [Option.some.injEq] at H
    subst H
    obtain ⟨op', ⟨o2, nm, ag, vl, lb, fd, kd2⟩, lab, reg, lo, hi, kd⟩ := a
    refine g1 ?_
    refine s_alloc (tt rfl) fun b2 hb2 => ⟨trivial, ?_⟩
    try simp only [set_next, new_next] at hb2
    refine g1 ?_
    refine s_call rfl rfl rfl ca234 ?_
    refine call_r ((c234 [41] (st := s1) hpp vvv hs).args (must_args g [41])) (fun u s2 hr hl => back trivial ?_) (fun p x st1 hr => ?_)
    rotate_left
    · apply z_p
      simp only [hr, sbb]
      exact fin_bad atss
    simp only [hr, sbb]
    refine g1 ?_
    refine fin_ok atss vvv wkk
  refine s_call rfl rfl rfl ca93 ?_
  refine (c93_f [40] (st := st) hpp vvv hs hx).mono ?_
  rintro _ _ ⟨rfl, rfl⟩
  refine back trivial ?_
  refine g2 ?_ ?_ <;> (repeat intro hb hc)
  · have hk : st.1.kind = 2 := by omega
    rw [if_pos hk] at H
    refine s_call rfl rfl rfl ca99 ?_
    refine call_r (c99 (st := st) hpp vvv hs) (fun l s1 hr hl => back trivial ?_) (fun p x st1 hr => ?_)
    rotate_left
    · apply z_p
      rw [hr] at H; simp only [sbb1, Option.some.injEq] at H; subst H
      exact fin_bad atss
    rw [hr] at H; simp only [sbb] at H
    refine g1 ?_
    refine s_call rfl rfl rfl ca234 ?_
    refine call_r ((c234 [58] (st := s1) hpp vvv hs).args (must_args g [58])) (fun u s2 hr hl => back trivial ?_) (fun p x st1 hr => ?_)
    rotate_left
    · apply z_p
      rw [hr] at H; simp only [sbb1, Option.some.injEq] at H; subst H
      exact fin_bad atss
    rw [hr] at H; simp only [sbb] at H
    refine g1 ?_
    refine s_call rfl rfl rfl ca252 ?_
    refine call_r (c252 hs n hn l (st := s2) hpp vvv H) (fun a s3 hr hl => back trivial ?_) (fun p x st1 hr => ?_)
    rotate_left
    · apply z_p
      rw [hr]
      exact fin_bad atss
    rw [hr]
    obtain ⟨op', ⟨o2, nm, ag, vl, lb, fd, kd2⟩, lab, reg, lo, hi, kd⟩ := a
    refine g1 ?_
    refine fin_ok atss vvv wkk
  · have hk : ¬ st.1.kind = 2 := by omega
    rw [if_neg hk] at H
    refine s_call rfl rfl rfl ca252 ?_
    refine call_r (c252 hs n hn [] (st := st) hpp vvv H) (fun a s1 hr hl => back trivial ?_) (fun p x st1 hr => ?_)
    rotate_left
    · apply z_p
      rw [hr]
      exact fin_bad atss
    rw [hr]
    obtain ⟨op', ⟨o2, nm, ag, vl, lb, fd, kd2⟩, lab, reg, lo, hi, kd⟩ := a
    refine g1 ?_
    refine fin_ok atss vvv wkk

set_option maxHeartbeats 2000000 in
theorem alt_step (hs : s.length ≤ 1000) (n : Nat) (hn : n ≤ 100000) (h1 : ∀ m, m ≤ n → SeqOK G s m) : AltOK G s (n + 1) := by
  intro h inner st g r hg hst H
  refine ACalls.fin (en92 (by simp) fun hw => ?_)
  have hgl := hw g _ hg
  simp only [altP] at H
  refine g1 ?_
  refine s_alloc (tt rfl) fun b1 hb1 => ⟨trivial, ?_⟩
  try simp only [set_next, new_next] at hb1
  refine g1 ?_
  refine s_call rfl rfl rfl ca158 ?_
  refine call_o (bindO_ne H) (fun r1 hr => h1 n (Nat.le_refl n) _ inner st _ _ hpp vvv hr) (fun a s1 hr hl => back trivial ?_) (fun p x st1 hr => ?_)
  rotate_left
  · apply z_p
    rw [hr] at H; simp only [sbb1, Option.some.injEq] at H; subst H
    exact fin_bad atss
  rw [hr] at H; simp only [sbb] at H
  obtain ⟨op', ⟨o2, nm, ag, vl, lb, fd, kd2⟩, lab, reg, lo, hi, kd⟩ := a
  refine g1 ?_
  refine w_loop (fun e h' k => ∃ (acc : List Pat) (st' : S) (tg : Tag), V s st' ∧ altL s k inner acc st' = some r ∧ acc.length + k ≤ n + 1 ∧ k ≤ n ∧ At h g (rdr s st') h' ∧ Room (h.new b1 (.box 32 zP)) h' 32 (acc.length * 13) tg ∧ h'.get b1 = some (.box 32 zP) ∧ b1 + 1 ≤ h'.next ∧
      e = [(0, true, .ptr g 0), (1, true, .bool inner), (4, true, .ptr b1 0), (5, true, .sl 13 (encPs acc) tg)])
    _ _ (.cons rfl (.cons rfl (.cons rfl (.cons rfl (.nil _))))) ⟨[.mk op' (.mk o2 nm ag vl lb fd kd2) lab reg lo hi kd], s1, .full, by exact vvv, H, by simp; omega, Nat.le_refl _, by exact atss, trivial, by exact hpp, by simp [set_next, new_next], rfl⟩ ?_
  rintro _ h' k ⟨acc, st', tg, hv, H, hak, hkn, hat, hroom, hbx, hnx, rfl⟩
  cases k with
  | zero => cases H
  | succ k =>
    simp only [altL] at H
    have hgx := hat.get
    refine g1 ?_
    rcases Bool.eq_false_or_eq_true (isSign [124] st') with hx | hx <;> simp only [hx, sbb] at H
    · refine s_call rfl rfl rfl ca93 ?_
      refine (c93_t [124] (st := st') hpp vvv hs hx).mono ?_
      rintro _ _ ⟨rfl, rfl⟩
      refine back trivial ?_
      refine g1 ?_
      refine s_call rfl rfl rfl ca158 ?_
      refine call_o (bindO_ne H) (fun r1 hr => h1 k (by omega) _ inner (nxt s st') _ _ hpp vvv hr) (fun a s2 hr hl => back trivial ?_) (fun p x st1 hr => ?_)
      rotate_left
      · apply z_p
        rw [hr] at H; simp only [sbb1, Option.some.injEq] at H; subst H
        exact fin_bad atss
      rw [hr] at H; simp only [sbb] at H
      obtain ⟨op', ⟨o2, nm, ag, vl, lb, fd, kd2⟩, lab, reg, lo, hi, kd⟩ := a
      refine g1 ?_
      have hgb : g < (h.new b1 (.box 32 zP)).next := by simp only [new_next]; omega
      refine s_append (h.new b1 (.box 32 zP)) rfl rfl (tt rfl) (tt rfl) rfl (.inl rfl) hnx (append_room' (Room.set (Room.set hroom hgb) hgb) (by rw [encPs_length])) (by simp only [encPs_length, List.length_cons, List.length_nil]; omega) fun tg' h2 hr2 hx2 => ⟨trivial, ?_⟩
      refine g1 ?_
      refine l_n _ _ ?_ ?_ ⟨acc ++ [.mk op' (.mk o2 nm ag vl lb fd kd2) lab reg lo hi kd], s2, tg', by exact vvv, H, by simp; omega, by omega, ?_, ?_, ?_, Nat.le_trans hnx hx2.next, rfl⟩
      · omega
      · refine .cons rfl (.cons rfl (.cons rfl (.cons ?_ (.nil _))))
        rw [encPs_append]
        rfl
      · refine At.ext ?_ (Ext.le (h1 := h) (by simp only [new_next]; omega) hx2)
        exact atss
      · exact append_room hr2 (by simp [encPs_length])
      · rw [hx2.get b1 (by simp only [new_next]; omega)]
        exact hpp
    · refine s_call rfl rfl rfl ca93 ?_
      refine (c93_f [124] (st := st') hpp vvv hs hx).mono ?_
      rintro _ _ ⟨rfl, rfl⟩
      refine back trivial ?_
      refine g1 ?_
      simp only [Option.some.injEq] at H
      subst H
      refine s_call rfl rfl rfl ca159 ?_
      refine ((c159 5 acc (by omega)).args (.cons (.refl _) (.cons weak_frz .nil))).mono ?_
      rintro _ _ ⟨rfl, rfl⟩
      refine back trivial ?_
      obtain ⟨c, hc⟩ : ∃ c, c = manyP 5 acc := ⟨_, rfl⟩
      rw [← hc]
      obtain ⟨op', ⟨o2, nm, ag, vl, lb, fd, kd2⟩, lab, reg, lo, hi, kd⟩ := c
      refine g1 ?_
      refine fin_ok atss vvv wkk
set_option maxHeartbeats 2000000 in
theorem seq_step (hs : s.length ≤ 1000) (hp : PeekOK G s) (n : Nat) (hn : n ≤ 100000) (h1 : ∀ m, m ≤ n → RepOK G s m) : SeqOK G s (n + 1) := by
  intro h inner st g r hg hst H
  refine ACalls.fin (en158 (by simp) fun hw => ?_)
  have hgl := hw g _ hg
  simp only [seqP] at H
  refine g1 ?_
  refine s_alloc (tt rfl) fun b1 hb1 => ⟨trivial, ?_⟩
  try simp only [set_next, new_next] at hb1
  refine g1 ?_
  refine s_call rfl rfl rfl ca200 ?_
  refine call_o (bindO_ne H) (fun r1 hr => h1 n (Nat.le_refl n) _ st _ _ hpp vvv hr) (fun a s1 hr hl => back trivial ?_) (fun p x st1 hr => ?_)
  rotate_left
  · apply z_p
    rw [hr] at H; simp only [sbb1, Option.some.injEq] at H; subst H
    exact fin_bad atss
  rw [hr] at H; simp only [sbb] at H
  obtain ⟨op', ⟨o2, nm, ag, vl, lb, fd, kd2⟩, lab, reg, lo, hi, kd⟩ := a
  refine g1 ?_
  refine w_loop (fun e h' k => ∃ (acc : List Pat) (st' : S) (tg : Tag), V s st' ∧ seqL s k inner acc st' = some r ∧ acc.length + k ≤ n + 1 ∧ k ≤ n ∧ At h g (rdr s st') h' ∧ Room (h.new b1 (.box 32 zP)) h' 32 (acc.length * 13) tg ∧ h'.get b1 = some (.box 32 zP) ∧ b1 + 1 ≤ h'.next ∧
      e = [(0, true, .ptr g 0), (1, true, .bool inner), (4, true, .ptr b1 0), (5, true, .sl 13 (encPs acc) tg)])
    _ _ (.cons rfl (.cons rfl (.cons rfl (.cons rfl (.nil _))))) ⟨[.mk op' (.mk o2 nm ag vl lb fd kd2) lab reg lo hi kd], s1, .full, by exact vvv, H, by simp; omega, Nat.le_refl _, by exact atss, trivial, by exact hpp, by simp [set_next, new_next], rfl⟩ ?_
  rintro _ h' k ⟨acc, st', tg, hv, H, hak, hkn, hat, hroom, hbx, hnx, rfl⟩
  cases k with
  | zero => cases H
  | succ k =>
    simp only [seqL] at H
    have hgx := hat.get
    refine g1 ?_
    refine s_call rfl rfl rfl ca201 ?_
    refine (c201 hp inner (st := st') hpp hv).mono ?_
    rintro _ _ ⟨rfl, rfl⟩
    refine back trivial ?_
    rcases Bool.eq_false_or_eq_true (beginsP s inner st') with hx | hx <;> rw [hx] <;> simp only [hx, sbb] at H
    · refine g1 ?_
      refine s_call rfl rfl rfl ca200 ?_
      refine call_o (bindO_ne H) (fun r1 hr => h1 k (by omega) _ st' _ _ hpp vvv hr) (fun a s2 hr hl => back trivial ?_) (fun p x st1 hr => ?_)
      rotate_left
      · apply z_p
        rw [hr] at H; simp only [sbb1, Option.some.injEq] at H; subst H
        exact fin_bad atss
      rw [hr] at H; simp only [sbb] at H
      obtain ⟨op', ⟨o2, nm, ag, vl, lb, fd, kd2⟩, lab, reg, lo, hi, kd⟩ := a
      refine g1 ?_
      have hgb : g < (h.new b1 (.box 32 zP)).next := by simp only [new_next]; omega
      refine s_append (h.new b1 (.box 32 zP)) rfl rfl (tt rfl) (tt rfl) rfl (.inl rfl) hnx (append_room' (Room.set hroom hgb) (by rw [encPs_length])) (by simp only [encPs_length, List.length_cons, List.length_nil]; omega) fun tg' h2 hr2 hx2 => ⟨trivial, ?_⟩
      refine g1 ?_
      refine l_n _ _ ?_ ?_ ⟨acc ++ [.mk op' (.mk o2 nm ag vl lb fd kd2) lab reg lo hi kd], s2, tg', by exact vvv, H, by simp; omega, by omega, ?_, ?_, ?_, Nat.le_trans hnx hx2.next, rfl⟩
      · omega
      · refine .cons rfl (.cons rfl (.cons rfl (.cons ?_ (.nil _))))
        rw [encPs_append]
        rfl
      · refine At.ext ?_ (Ext.le (h1 := h) (by simp only [new_next]; omega) hx2)
        exact atss
      · exact append_room hr2 (by simp [encPs_length])
      · rw [hx2.get b1 (by simp only [new_next]; omega)]
        exact hpp
    · refine g1 ?_
      simp only [Option.some.injEq] at H
      subst H
      refine s_call rfl rfl rfl ca159 ?_
      refine ((c159 4 acc (by omega)).args (.cons (.refl _) (.cons weak_frz .nil))).mono ?_
      rintro _ _ ⟨rfl, rfl⟩
      refine back trivial ?_
      obtain ⟨c, hc⟩ : ∃ c, c = manyP 4 acc := ⟨_, rfl⟩
      rw [← hc]
      obtain ⟨op', ⟨o2, nm, ag, vl, lb, fd, kd2⟩, lab, reg, lo, hi, kd⟩ := c
      refine g1 ?_
      refine fin_ok atss vvv wkk
end
end Go.Proofs

/- Repetitions read by the reader; patterns complete. No conditions but that of peek. -/
namespace Go.Proofs
open Go.Abs Go.Q
attribute [local irreducible] awp aops Run BodyQ ACalls Back
section
variable {G : Nat → Option Obj} {h : AHeap} {s : Str} {st : S} {g : Nat}

theorem wf_set {b : Nat} {o : AObj} (hb : b < h.next) (hw : h.Wf) : (h.set b o).Wf := fun x p hx => by
  by_cases hxb : x = b
  · subst hxb; exact hb
  · simp only [AHeap.set, if_neg hxb] at hx; exact hw x p hx
theorem wf_new {b : Nat} {o : AObj} (hb : h.next ≤ b) (hw : h.Wf) : (h.new b o).Wf := fun x p hx => by
  by_cases hxb : x = b
  · subst hxb; exact Nat.lt_succ_self _
  · simp only [AHeap.new, if_neg hxb] at hx; have := hw x p hx; simp only [AHeap.new]; omega

set_option maxHeartbeats 4000000 in
set_option maxRecDepth 10000 in
theorem rep_step (hs : s.length ≤ 1000) (n : Nat) (h1 : ItemOK G s n) : RepOK G s (n + 1) := by
  intro h st g r hg hst H
  refine ACalls.fin (en200 (by simp) fun hw => ?_)
  have hgl := hw g _ hg
  simp only [repP] at H
  refine g1 ?_
  refine s_alloc (tt rfl) fun b1 hb1 => ⟨trivial, ?_⟩
  try simp only [set_next, new_next] at hb1
  refine g1 ?_
  refine s_call rfl rfl rfl ca232 ?_
  refine call_o (bindO_ne H) (fun r1 hr => h1 _ st _ _ hpp vvv hr) (fun a s1 hr hl => back trivial ?_) (fun p x st1 hr => ?_)
  rotate_left
  · apply z_p
    rw [hr] at H; simp only [sbb1, Option.some.injEq] at H; subst H
    exact fin_bad atss
  rw [hr] at H; simp only [sbb] at H
  obtain ⟨op', ⟨o2, nm, ag, vl, lb, fd, kd2⟩, lab, reg, lo, hi, kd⟩ := a
  refine g1 ?_
  refine s_alloc (tt rfl) fun b2 hb2 => ⟨trivial, ?_⟩
  try simp only [set_next, new_next] at hb2
  refine g1 ?_
  refine w_loop (fun e h' k => ∃ (p : Pat) (st' : S), V s st' ∧ repL s k p st' = some r ∧ At h g (rdr s st') h' ∧ h'.Wf ∧ h'.get b2 = some (.box 32 (encP p)) ∧ h'.get b1 = some (.box 32 zP) ∧ b2 + 1 ≤ h'.next ∧ e = [(0, true, .ptr g 0), (2, true, .ptr b1 0), (3, true, .ptr b2 0)])
    _ _ (.cons rfl (.cons rfl (.cons rfl (.nil _)))) ⟨.mk op' (.mk o2 nm ag vl lb fd kd2) lab reg lo hi kd, s1, by exact vvv, H, by exact atss, ?_, by exact hpp, by exact hpp, by simp [set_next, new_next], rfl⟩ ?_
  · exact by repeat first | assumption | (refine wf_set (by first | omega | (simp only [set_next, new_next]; omega)) ?_) | (refine wf_new (by first | omega | (simp only [set_next, new_next]; omega)) ?_)
  rintro _ h' k ⟨p, st', hv, H, hat, hwf, hb2x, hb1x, hnx, rfl⟩
  cases k with
  | zero => simp [repL] at H
  | succ k =>
    simp only [repL] at H
    have hgx := hat.get
    have hgn : g < h'.next := hwf g _ hgx
    obtain ⟨op', ⟨o2, nm, ag, vl, lb, fd, kd2⟩, lab, reg, lo, hi, kd⟩ := p
    unfold suffixP at H
    refine g1 ?_
    rcases Bool.eq_false_or_eq_true (isSign [63] st') with hx | hx <;> simp only [hx, sbb] at H
    · refine s_call rfl rfl rfl ca93 ?_
      refine (c93_t [63] (st := st') hpp vvv hs hx).mono ?_
      rintro _ _ ⟨rfl, rfl⟩
      refine back trivial ?_
      refine g1 ?_
      refine l_ns _ _ _ ?_ ?_ (Sub.set (cs' := encP (.mk 6 .zero [] [] 0 1 [(.mk op' (.mk o2 nm ag vl lb fd kd2) lab reg lo hi kd)])) (.refl (by repeat first | assumption | (refine wf_set (by first | omega | (simp only [set_next, new_next]; omega)) ?_) | (refine wf_new (by first | omega | (simp only [set_next, new_next]; omega)) ?_))) (by first | omega | (simp only [set_next, new_next]; omega)) ?_) ⟨.mk 6 .zero [] [] 0 1 [(.mk op' (.mk o2 nm ag vl lb fd kd2) lab reg lo hi kd)], nxt s st', by exact vvv, H, ?_, ?_, hs_self, by exact hpp, by first | omega | (simp only [set_next, new_next]; omega), rfl⟩
      · omega
      · exact envv
      · exact wkk
      · exact At.setl (by omega) atss
      · exact wf_set (by first | omega | (simp only [set_next, new_next]; omega)) (by repeat first | assumption | (refine wf_set (by first | omega | (simp only [set_next, new_next]; omega)) ?_) | (refine wf_new (by first | omega | (simp only [set_next, new_next]; omega)) ?_))
    refine s_call rfl rfl rfl ca93 ?_
    refine (c93_f [63] (st := st') hpp vvv hs hx).mono ?_
    rintro _ _ ⟨rfl, rfl⟩
    refine back trivial ?_
    refine g1 ?_
    rcases Bool.eq_false_or_eq_true (isSign [42] st') with hx | hx <;> simp only [hx, sbb] at H
    · refine s_call rfl rfl rfl ca93 ?_
      refine (c93_t [42] (st := st') hpp vvv hs hx).mono ?_
      rintro _ _ ⟨rfl, rfl⟩
      refine back trivial ?_
      refine g1 ?_
      refine l_ns _ _ _ ?_ ?_ (Sub.set (cs' := encP (.mk 6 .zero [] [] 0 (-1) [(.mk op' (.mk o2 nm ag vl lb fd kd2) lab reg lo hi kd)])) (.refl (by repeat first | assumption | (refine wf_set (by first | omega | (simp only [set_next, new_next]; omega)) ?_) | (refine wf_new (by first | omega | (simp only [set_next, new_next]; omega)) ?_))) (by first | omega | (simp only [set_next, new_next]; omega)) ?_) ⟨.mk 6 .zero [] [] 0 (-1) [(.mk op' (.mk o2 nm ag vl lb fd kd2) lab reg lo hi kd)], nxt s st', by exact vvv, H, ?_, ?_, hs_self, by exact hpp, by first | omega | (simp only [set_next, new_next]; omega), rfl⟩
      · omega
      · exact envv
      · exact wkk
      · exact At.setl (by omega) atss
      · exact wf_set (by first | omega | (simp only [set_next, new_next]; omega)) (by repeat first | assumption | (refine wf_set (by first | omega | (simp only [set_next, new_next]; omega)) ?_) | (refine wf_new (by first | omega | (simp only [set_next, new_next]; omega)) ?_))
    refine s_call rfl rfl rfl ca93 ?_
    refine (c93_f [42] (st := st') hpp vvv hs hx).mono ?_
    rintro _ _ ⟨rfl, rfl⟩
    refine back trivial ?_
    refine g1 ?_
    rcases Bool.eq_false_or_eq_true (isSign [43] st') with hx | hx <;> simp only [hx, sbb] at H
    · refine s_call rfl rfl rfl ca93 ?_
      refine (c93_t [43] (st := st') hpp vvv hs hx).mono ?_
      rintro _ _ ⟨rfl, rfl⟩
      refine back trivial ?_
      refine g1 ?_
      refine l_ns _ _ _ ?_ ?_ (Sub.set (cs' := encP (.mk 6 .zero [] [] 1 (-1) [(.mk op' (.mk o2 nm ag vl lb fd kd2) lab reg lo hi kd)])) (.refl (by repeat first | assumption | (refine wf_set (by first | omega | (simp only [set_next, new_next]; omega)) ?_) | (refine wf_new (by first | omega | (simp only [set_next, new_next]; omega)) ?_))) (by first | omega | (simp only [set_next, new_next]; omega)) ?_) ⟨.mk 6 .zero [] [] 1 (-1) [(.mk op' (.mk o2 nm ag vl lb fd kd2) lab reg lo hi kd)], nxt s st', by exact vvv, H, ?_, ?_, hs_self, by exact hpp, by first | omega | (simp only [set_next, new_next]; omega), rfl⟩
      · omega
      · exact envv
      · exact wkk
      · exact At.setl (by omega) atss
      · exact wf_set (by first | omega | (simp only [set_next, new_next]; omega)) (by repeat first | assumption | (refine wf_set (by first | omega | (simp only [set_next, new_next]; omega)) ?_) | (refine wf_new (by first | omega | (simp only [set_next, new_next]; omega)) ?_))
    refine s_call rfl rfl rfl ca93 ?_
    refine (c93_f [43] (st := st') hpp vvv hs hx).mono ?_
    rintro _ _ ⟨rfl, rfl⟩
    refine back trivial ?_
    refine g1 ?_
    rcases Bool.eq_false_or_eq_true (isSign [123] st') with hx | hx <;> simp only [hx, sbb] at H
    · refine s_call rfl rfl rfl ca93 ?_
      refine (c93_t [123] (st := st') hpp vvv hs hx).mono ?_
      rintro _ _ ⟨rfl, rfl⟩
      refine back trivial ?_
      refine g1 ?_
      have hpl := hv.pos
      have hle := hv.le
      refine s_call rfl rfl rfl ca233 ?_
      refine call_r (c233 16 st'.1.pos (by omega) (by omega) (st := nxt s st') hpp vvv hs) (fun lo' s2 hr hl => back trivial ?_) (fun p x st1 hr => ?_)
      rotate_left
      · apply z_p
        rw [hr] at H; simp only [sbb1, Option.some.injEq] at H; subst H
        exact fin_bad atss
      rw [hr] at H; simp only [sbb] at H
      have hlo := numberP_le hr
      refine g1 ?_
      rcases Bool.eq_false_or_eq_true (isSign [44] s2) with hx | hx <;> simp only [hx, sbb] at H
      · refine s_call rfl rfl rfl ca93 ?_
        refine (c93_t [44] (st := s2) hpp vvv hs hx).mono ?_
        rintro _ _ ⟨rfl, rfl⟩
        refine back trivial ?_
        refine g1 ?_
        rcases Bool.eq_false_or_eq_true (isSign [125] (nxt s s2)) with hy | hy <;> simp only [hy, sbb] at H
        · refine s_call rfl rfl rfl ca95 ?_
          refine (c95 [125] (st := nxt s s2) hpp).mono ?_
          rintro _ _ ⟨rfl, rfl⟩
          refine back trivial ?_
          rw [hy]
          refine g1 ?_
          refine s_call rfl rfl rfl ca234 ?_
          refine call_r ((c234 [125] (st := nxt s s2) hpp vvv hs).args (must_args g [125])) (fun u s3 hr hl => back trivial ?_) (fun p x st1 hr => ?_)
          rotate_left
          · apply z_p
            rw [hr] at H; simp only [sbb1, Option.some.injEq] at H; subst H
            exact fin_bad atss
          rw [hr] at H; simp only [sbb] at H
          refine g1 ?_
          refine l_ns _ _ _ ?_ ?_ (Sub.set (cs' := encP (.mk 6 .zero [] [] lo' (-1) [(.mk op' (.mk o2 nm ag vl lb fd kd2) lab reg lo hi kd)])) (.refl (by repeat first | assumption | (refine wf_set (by first | omega | (simp only [set_next, new_next]; omega)) ?_) | (refine wf_new (by first | omega | (simp only [set_next, new_next]; omega)) ?_))) (by first | omega | (simp only [set_next, new_next]; omega)) ?_) ⟨.mk 6 .zero [] [] lo' (-1) [(.mk op' (.mk o2 nm ag vl lb fd kd2) lab reg lo hi kd)], s3, by exact vvv, H, ?_, ?_, hs_self, by exact hpp, by first | omega | (simp only [set_next, new_next]; omega), rfl⟩
          · omega
          · exact envv
          · exact wkk
          · exact At.setl (by omega) atss
          · exact wf_set (by first | omega | (simp only [set_next, new_next]; omega)) (by repeat first | assumption | (refine wf_set (by first | omega | (simp only [set_next, new_next]; omega)) ?_) | (refine wf_new (by first | omega | (simp only [set_next, new_next]; omega)) ?_))
        · refine s_call rfl rfl rfl ca95 ?_
          refine (c95 [125] (st := nxt s s2) hpp).mono ?_
          rintro _ _ ⟨rfl, rfl⟩
          refine back trivial ?_
          rw [hy]
          refine g1 ?_
          refine s_call rfl rfl rfl ca233 ?_
          refine call_r (c233 16 st'.1.pos (by omega) (by omega) (st := nxt s s2) hpp vvv hs) (fun hi' s3 hr hl => back trivial ?_) (fun p x st1 hr => ?_)
          rotate_left
          · apply z_p
            rw [hr] at H; simp only [sbb1, Option.some.injEq] at H; subst H
            exact fin_bad atss
          rw [hr] at H; simp only [sbb] at H
          have hhi := numberP_le hr
          refine g2 ?_ ?_ <;> (repeat intro hb hc)
          · rw [if_pos hc] at H
            simp only [Option.some.injEq] at H
            subst H
            refine s_panic rfl ?_
            refine g1 ?_
            exact fin_bad atss
          · rw [if_neg hc] at H
            refine s_call rfl rfl rfl ca234 ?_
            refine call_r ((c234 [125] (st := s3) hpp vvv hs).args (must_args g [125])) (fun u s4 hr hl => back trivial ?_) (fun p x st1 hr => ?_)
            rotate_left
            · apply z_p
              rw [hr] at H; simp only [sbb1, Option.some.injEq] at H; subst H
              exact fin_bad atss
            rw [hr] at H; simp only [sbb] at H
            refine g1 ?_
            refine l_ns _ _ _ ?_ ?_ (Sub.set (cs' := encP (.mk 6 .zero [] [] lo' hi' [(.mk op' (.mk o2 nm ag vl lb fd kd2) lab reg lo hi kd)])) (.refl (by repeat first | assumption | (refine wf_set (by first | omega | (simp only [set_next, new_next]; omega)) ?_) | (refine wf_new (by first | omega | (simp only [set_next, new_next]; omega)) ?_))) (by first | omega | (simp only [set_next, new_next]; omega)) ?_) ⟨.mk 6 .zero [] [] lo' hi' [(.mk op' (.mk o2 nm ag vl lb fd kd2) lab reg lo hi kd)], s4, by exact vvv, H, ?_, ?_, hs_self, by exact hpp, by first | omega | (simp only [set_next, new_next]; omega), rfl⟩
            · omega
            · exact envv
            · exact wkk
            · exact At.setl (by omega) atss
            · exact wf_set (by first | omega | (simp only [set_next, new_next]; omega)) (by repeat first | assumption | (refine wf_set (by first | omega | (simp only [set_next, new_next]; omega)) ?_) | (refine wf_new (by first | omega | (simp only [set_next, new_next]; omega)) ?_))
      · refine s_call rfl rfl rfl ca93 ?_
        refine (c93_f [44] (st := s2) hpp vvv hs hx).mono ?_
        rintro _ _ ⟨rfl, rfl⟩
        refine back trivial ?_
        refine g1 ?_
        refine s_call rfl rfl rfl ca234 ?_
        refine call_r ((c234 [125] (st := s2) hpp vvv hs).args (must_args g [125])) (fun u s3 hr hl => back trivial ?_) (fun p x st1 hr => ?_)
        rotate_left
        · apply z_p
          rw [hr] at H; simp only [sbb1, Option.some.injEq] at H; subst H
          exact fin_bad atss
        rw [hr] at H; simp only [sbb] at H
        refine g1 ?_
        refine l_ns _ _ _ ?_ ?_ (Sub.set (cs' := encP (.mk 6 .zero [] [] lo' lo' [(.mk op' (.mk o2 nm ag vl lb fd kd2) lab reg lo hi kd)])) (.refl (by repeat first | assumption | (refine wf_set (by first | omega | (simp only [set_next, new_next]; omega)) ?_) | (refine wf_new (by first | omega | (simp only [set_next, new_next]; omega)) ?_))) (by first | omega | (simp only [set_next, new_next]; omega)) ?_) ⟨.mk 6 .zero [] [] lo' lo' [(.mk op' (.mk o2 nm ag vl lb fd kd2) lab reg lo hi kd)], s3, by exact vvv, H, ?_, ?_, hs_self, by exact hpp, by first | omega | (simp only [set_next, new_next]; omega), rfl⟩
        · omega
        · exact envv
        · exact wkk
        · exact At.setl (by omega) atss
        · exact wf_set (by first | omega | (simp only [set_next, new_next]; omega)) (by repeat first | assumption | (refine wf_set (by first | omega | (simp only [set_next, new_next]; omega)) ?_) | (refine wf_new (by first | omega | (simp only [set_next, new_next]; omega)) ?_))
    · refine s_call rfl rfl rfl ca93 ?_
      refine (c93_f [123] (st := st') hpp vvv hs hx).mono ?_
      rintro _ _ ⟨rfl, rfl⟩
      refine back trivial ?_
      refine g1 ?_
      simp only [Option.some.injEq] at H
      subst H
      refine fin_ok atss vvv wkk

theorem pats_ok (hs : s.length ≤ 1000) (hp : PeekOK G s) : ∀ n, n ≤ 100000 → AltOK G s n ∧ SeqOK G s n ∧ RepOK G s n ∧ ItemOK G s n := by
  intro n
  induction n using Nat.strongRecOn with
  | _ n ih =>
    intro hn
    cases n with
    | zero => exact ⟨fun h i st g r _ _ H => by simp [altP] at H, fun h i st g r _ _ H => by simp [seqP] at H, fun h st g r _ _ H => by simp [repP] at H, fun h st g r _ _ H => by simp [itemP] at H⟩
    | succ n =>
      have k := fun m (hm : m ≤ n) => ih m (by omega) (by omega)
      exact ⟨alt_step hs n (by omega) fun m hm => (k m hm).2.1, seq_step hs hp n (by omega) fun m hm => (k m hm).2.2.1, rep_step hs n (k n (Nat.le_refl n)).2.2.2, item_step hs n (by omega) (k n (Nat.le_refl n)).1⟩
end
end Go.Proofs

/- The codes of some functions, tied to the loaded program. No conditions. -/
namespace Go.Proofs
open Go.Abs Go.Abs.I
def r235_0 : L := [o 2 (.alloc 75)]
def r235_1 : L := [o 6 (m (t 0)),
  o 7 (.nilCheck (t 6)),
  o 8 (fa 77 (t 7) 0),
  o 9 (l 9 (t 8)),
  o 10 (m (t 0)),
  o 11 (.nilCheck (t 10)),
  o 12 (fa 77 (t 11) 1),
  o 13 (l 3 (t 12)),
  o 14 (.call ⟨.value (f 157), #[(t 9), (t 13)], #[9, 3]⟩),
  o 5 (m (t 14)),
  o 15 (.extract (t 5) 0),
  o 16 (.extract (t 5) 1),
  o 3 (.alloc 75),
  q (.store 75 (t 3) (t 15)),
  o 4 (a (t 16))]
def r235_2 : L := [o 6 (m (t 0)),
  o 7 (.nilCheck (t 6)),
  o 8 (fa 77 (t 7) 0),
  o 9 (l 9 (t 8)),
  o 10 (m (t 0)),
  o 11 (.nilCheck (t 10)),
  o 12 (fa 77 (t 11) 1),
  o 13 (l 3 (t 12)),
  oc 3 (.alloc 75) [c 13 (l 3 (t 12)), c 9 (l 9 (t 8))],
  o 14 (.call ⟨.value (f 157), #[(t 9), (t 13)], #[9, 3]⟩),
  o 5 (m (t 14)),
  o 15 (.extract (t 5) 0),
  o 16 (.extract (t 5) 1),
  q (.store 75 (t 3) (t 15)),
  o 4 (a (t 16))]
def r235_3 : L := [o 17 (l 75 (t 3)),
  q (.store 75 (t 2) (t 17))]
def ir235 : ACode := .seq (.ops r235_0) (.seq (.two r235_1 r235_2) (.seq (.ops r235_3) (.ret)))
theorem en235 : En ir235 18 [.cell 2 75] 235 := acalls_enter_b mixed Tryz.func235 Tryz.ntmps235 (by kernel_rfl) (by kernel_rfl)
def r70_0 : L := [o 0 (a (.const (.slice none 0 0)))]
def r70_1 : L := [o 1 (.buildSlice 23 4 #[(0, (s #[])), (1, (s #[119, 105, 116, 104, 105, 110])), (2, (s #[99, 111, 110, 116, 97, 105, 110, 105, 110, 103])), (3, (s #[111, 118, 101, 114, 108, 97, 112, 112, 105, 110, 103]))]),
  o 0 (a (t 1))]
def ir70 : ACode := .seq (.ops r70_0) (.seq (.ops r70_1) (.ret))
theorem en70 : En ir70 2 [.tmp 0] 70 := acalls_enter_b mixed Tryz.func70 Tryz.ntmps70 (by kernel_rfl) (by kernel_rfl)
theorem ca70 : Ca 70 := cal Tryz.func70
def r71_0 : L := [o 0 (a (.const (.slice none 0 0)))]
def r71_1 : L := [o 1 (.buildSlice 23 4 #[(0, (s #[101, 97, 99, 104])), (1, (s #[115, 104, 111, 114, 116, 101, 115, 116])), (2, (s #[108, 111, 110, 103, 101, 115, 116])), (3, (s #[116, 114, 97, 100, 105, 116, 105, 111, 110, 97, 108]))]),
  o 0 (a (t 1))]
def ir71 : ACode := .seq (.ops r71_0) (.seq (.ops r71_1) (.ret))
theorem en71 : En ir71 2 [.tmp 0] 71 := acalls_enter_b mixed Tryz.func71 Tryz.ntmps71 (by kernel_rfl) (by kernel_rfl)
theorem ca71 : Ca 71 := cal Tryz.func71
def r36_0 : L := [o 2 (.alloc 38)]
def r36_1 : L := [o 5 (m (t 0)),
  o 6 (.call ⟨.value (f 91), #[(t 5)], #[73]⟩)]
def r36_2 : L := [o 7 (m (t 0)),
  o 8 (.call ⟨.value (f 92), #[(t 7), (b false)], #[73, 4]⟩),
  o 9 (.build 38 #[(0, (t 8))]),
  o 3 (.alloc 38),
  q (.store 38 (t 3) (t 9))]
def r36_3 : L := [o 10 (m (t 0)),
  o 11 (.call ⟨.value (f 93), #[(t 10), (s #[58, 58])], #[73, 9]⟩)]
def r36_4 : L := [o 12 (m (t 0)),
  o 13 (.call ⟨.value (f 94), #[(t 12)], #[73]⟩),
  o 14 (fa 38 (t 3) 1),
  q (.store 35 (t 14) (t 13))]
def r36_5 : L := [o 15 (m (t 0)),
  o 16 (.call ⟨.value (f 95), #[(t 15), (s #[33])], #[73, 9]⟩),
  o 17 (m (t 16)),
  y 18 (m (t 0)) 17 false,
  y 19 (.call ⟨.value (f 70), #[], #[]⟩) 17 false,
  y 20 (.call ⟨.value (f 96), #[(t 18), (t 19)], #[73, 23]⟩) 17 false,
  o 21 (.pick (t 17) (b true) (t 20))]
def r36_6 : L := [o 22 (m (t 0)),
  o 23 (.call ⟨.value (f 93), #[(t 22), (s #[33])], #[73, 9]⟩),
  o 24 (.build 62 #[(1, (t 23))]),
  o 4 (.alloc 62),
  q (.store 62 (t 4) (t 24))]
def r36_7 : L := [o 26 (m (t 0)),
  o 27 (.nilCheck (t 26)),
  o 28 (fa 77 (t 27) 2),
  o 29 (fa 75 (t 28) 1),
  o 30 (l 9 (t 29)),
  oc 25 (.call ⟨.value (f 70), #[], #[]⟩) [c 30 (l 9 (t 29))],
  o 31 (.call ⟨.value (f 97), #[(t 25), (t 30)], #[23, 9]⟩),
  o 32 (fa 62 (t 4) 0),
  q (.store 3 (t 32) (t 31))]
def r36_8 : L := [o 33 (m (t 0)),
  o 34 (.nilCheck (t 33)),
  o 35 (fa 77 (t 34) 2),
  o 36 (fa 75 (t 35) 0),
  o 37 (l 3 (t 36)),
  o 38 (.binOp .neq 3 (t 37) (k 2) 3),
  o 39 (m (t 38)),
  y 40 (fa 62 (t 4) 0) 39 false,
  y 41 (l 3 (t 40)) 39 false,
  y 42 (.binOp .lss 3 (t 41) (k 1) 3) 39 false,
  o 43 (.pick (t 39) (b true) (t 42))]
def r36_9 : L := [o 44 (m (t 0)),
  o 45 (.call ⟨.value (f 98), #[(t 44)], #[73]⟩)]
def r36_10 : L := [o 46 (m (t 0)),
  o 47 (.call ⟨.value (f 91), #[(t 46)], #[73]⟩)]
def r36_11 : L := [o 48 (m (t 0)),
  o 49 (.call ⟨.value (f 99), #[(t 48)], #[73]⟩),
  o 50 (fa 62 (t 4) 2),
  q (.store 9 (t 50) (t 49))]
def r36_12 : L := [o 51 (fa 38 (t 3) 2),
  o 52 (l 36 (t 51)),
  o 53 (l 62 (t 4)),
  o 54 (.buildSlice 36 1 #[(0, (t 53))]),
  o 55 (.call ⟨.builtin .append, #[(t 52), (t 54)], #[36, 36]⟩),
  o 56 (fa 38 (t 3) 2),
  q (.store 36 (t 56) (t 55))]
def r36_13 : L := [o 57 (m (t 0)),
  o 58 (.buildSlice 23 1 #[(0, (s #[115, 116, 114, 97, 116, 101, 103, 121]))]),
  o 59 (.call ⟨.value (f 96), #[(t 57), (t 58)], #[73, 23]⟩)]
def r36_14 : L := [o 60 (m (t 0)),
  o 61 (.call ⟨.value (f 91), #[(t 60)], #[73]⟩)]
def r36_15 : L := [o 62 (m (t 0)),
  o 63 (.call ⟨.value (f 71), #[], #[]⟩),
  o 64 (.call ⟨.value (f 96), #[(t 62), (t 63)], #[73, 23]⟩),
  o 65 (.unOp .not 4 (t 64))]
def r36_16 : L := [o 66 (m (t 0)),
  o 67 (.call ⟨.value (f 98), #[(t 66)], #[73]⟩)]
def r36_17 : L := [o 68 (.call ⟨.value (f 71), #[], #[]⟩),
  o 69 (m (t 0)),
  o 70 (.call ⟨.value (f 99), #[(t 69)], #[73]⟩),
  o 71 (.call ⟨.value (f 97), #[(t 68), (t 70)], #[23, 9]⟩),
  o 72 (fa 38 (t 3) 3),
  q (.store 3 (t 72) (t 71))]
def r36_18 : L := [o 73 (m (t 0)),
  o 74 (.nilCheck (t 73)),
  o 75 (fa 77 (t 74) 2),
  o 76 (fa 75 (t 75) 0),
  o 77 (l 3 (t 76)),
  o 78 (.binOp .neq 3 (t 77) (k 0) 3)]
def r36_19 : L := [o 79 (m (t 0)),
  o 80 (.call ⟨.value (f 98), #[(t 79)], #[73]⟩)]
def r36_20 : L := [o 81 (l 38 (t 3)),
  q (.store 38 (t 2) (t 81))]
def ir36 : ACode := .seq (.ops r36_0) (.seq (.ops r36_1) (.seq (.ops r36_2) (.seq (.seq (.ops r36_3) (.cond (t 11) (.ops r36_4) (.skip))) (.seq (.block 0 (.loop (.seq (.seq (.ops r36_5) (.cond (t 21) (.skip) (.exit 0))) (.block 1 (.seq (.ops r36_6) (.seq (.seq (.ops r36_7) (.seq (.ops r36_8) (.cond (t 43) (.ops r36_9) (.skip)))) (.seq (.ops r36_10) (.seq (.ops r36_11) (.ops r36_12))))))))) (.seq (.seq (.ops r36_13) (.cond (t 59) (.seq (.ops r36_14) (.seq (.seq (.ops r36_15) (.cond (t 65) (.ops r36_16) (.skip))) (.ops r36_17))) (.skip))) (.seq (.seq (.ops r36_18) (.cond (t 78) (.ops r36_19) (.skip))) (.seq (.ops r36_20) (.ret))))))))
theorem en36 : En ir36 82 [.cell 2 38] 36 := acalls_enter_b mixed Tryz.func36 Tryz.ntmps36 (by kernel_rfl) (by kernel_rfl)
theorem ca36 : Ca 36 := cal Tryz.func36
end Go.Proofs
