/- How the reference's reader stands in memory, and the rule of its calls. No conditions. -/
import Derived.Test.YtjnkbjloabnopaaGreatDoorZ14
import Derived.Lib.Bytealg
import Derived.Laws.Externs
import Derived.WalkKit
import Derived.Shelf.Abstract
namespace Go.Abs
open Go.Q

def encT (t : Tok) : List AVal := [.int .u8 t.kind, .str t.text, .int .i64 t.pos]
def encTs (l : List Tok) : List (List AVal) := l.map encT

/-- The reference's reader in memory; d: the parentheses around it. -/
def par {L : List Tok} (d : Int) (σ : PS L) : AObj := .box 83 [.sl 3 (encTs L) .frz, .int .i64 σ.k, .int .i64 d, .int .i64 σ.e, .int .i64 σ.f]

/-- A list of tokens as the reference makes them. -/
structure LOk (L : List Tok) : Prop where
  len : L.length ≤ 1000
  text : ∀ (i : Nat) (t : Tok), L[i]? = some t → t.text.length ≤ 1000 ∧ t.pos ≤ 1000
  digits : ∀ (i : Nat) (t : Tok), L[i]? = some t → t.kind = 100 → ∀ c, c ∈ t.text → digit c = true
  last : ∀ (i : Nat) (t : Tok), L[i]? = some t → (t.kind = 110 ∨ t.kind = 100 ∨ t.kind = 115 ∨ t.kind = 111) → i + 1 < L.length

/-- What a function of the reference's reader does with its reader at g. -/
def PP {α : Type} {L : List Tok} (g : Nat) (d : Int) (h : AHeap) (enc : α → AVal) (x : α × PS L) (out : AOut) (h' : AHeap) : Prop := out = .ret (enc x.1) ∧ h' = h.set g (par d x.2)

section
variable {P : Program} {G : Nat → Option Obj} {Q : AExit → Env → AHeap → Prop} {l : List Frame} {rs : List (AOp × List AOp)} {e : Env} {h : AHeap} {dd : Option Nat} {chk : List AOp} {L : List Tok} {g : Nat} {d : Int}

theorem call_q {α : Type} {enc : α → AVal} {x : α × PS L} {f : FuncId} {args : List AVal} (hc : ACalls P G f args h (PP g d h enc x)) (hok : ∀ a σ, x = (a, σ) → Back P G (Run P G Q l) dd chk rs e (.ret (enc a)) (h.set g (par d σ))) :
    ACalls P G f args h (Back P G (Run P G Q l) dd chk rs e) := by
  refine hc.mono fun out h' hp => ?_
  obtain ⟨rfl, rfl⟩ := hp
  exact hok x.1 x.2 rfl

/-- The same, of a function with fuel. -/
theorem call_p {α : Type} {enc : α → AVal} {x : Option (α × PS L)} {f : FuncId} {args : List AVal} (hx : x ≠ none) (hc : ∀ r, x = some r → ACalls P G f args h (PP g d h enc r)) (hok : ∀ a σ, x = some (a, σ) → Back P G (Run P G Q l) dd chk rs e (.ret (enc a)) (h.set g (par d σ))) :
    ACalls P G f args h (Back P G (Run P G Q l) dd chk rs e) := by
  cases x with
  | none => exact absurd rfl hx
  | some r => exact call_q (hc r rfl) (fun a σ hr => hok a σ (by rw [hr]))

theorem pbO_ne {α β : Type} {x : Option (α × PS L)} {k : α → PS L → Option β} {r : β} (hr : pbO x k = some r) : x ≠ none := by
  intro hx; subst hx; cases hr

theorem fin_q {α : Type} {enc : α → AVal} {a : α} {σ : PS L} {h0 : AHeap} {v : AVal} (ha : At h0 g (par d σ) h) (hw : Weak v (enc a)) : Fin (PP g d h0 enc (a, σ)) (.ret v) h :=
  fin_at ha (.ret _ _ hw) ⟨rfl, rfl⟩

theorem now_get (hL : LOk L) (σ : PS L) : L[σ.k]? = some (now σ) := List.getElem?_eq_getElem σ.hk
theorem adv_k {σ : PS L} (hk : σ.k + 1 < L.length) : adv σ = ⟨σ.k + 1, hk, σ.e, σ.f⟩ := by unfold adv; rw [dif_pos hk]
theorem encTs_length (l : List Tok) : (encTs l).length = l.length := List.length_map ..
theorem encTs_get {l : List Tok} {i : Nat} {t : Tok} (h : l[i]? = some t) : (encTs l)[i]? = some (encT t) := by unfold encTs; rw [List.getElem?_map, h]; rfl
end
end Go.Abs

/- The codes of some functions, tied to the loaded program. No conditions. -/
namespace Go.Proofs
open Go.Abs Go.Abs.I
def r95_0 : L := [o 4 (a (b false))]
def r95_1 : L := [o 5 (m (t 0)),
  o 6 (.nilCheck (t 5)),
  o 7 (fa 77 (t 6) 2),
  o 8 (fa 75 (t 7) 0),
  o 9 (l 3 (t 8)),
  o 10 (.binOp .eql 3 (t 9) (k 5) 3),
  o 11 (m (t 10)),
  y 12 (m (t 0)) 11 true,
  y 13 (.nilCheck (t 12)) 11 true,
  y 14 (fa 77 (t 13) 2) 11 true,
  y 15 (fa 75 (t 14) 1) 11 true,
  y 16 (l 9 (t 15)) 11 true,
  y 17 (m (t 1)) 11 true,
  y 18 (.binOp .eql 9 (t 16) (t 17) 9) 11 true,
  o 19 (.pick (t 11) (t 18) (b false)),
  o 4 (a (t 19))]
def ir95 : ACode := .seq (.ops r95_0) (.seq (.ops r95_1) (.ret))
theorem en95 : En ir95 20 [.tmp 4] 95 := acalls_enter_b mixed Tryz.func95 Tryz.ntmps95 (by kernel_rfl) (by kernel_rfl)
theorem ca95 : Ca 95 := cal Tryz.func95
def r96_0 : L := [o 4 (a (b false))]
def r96_1 : L := [o 5 (m (t 0)),
  o 6 (.nilCheck (t 5)),
  o 7 (fa 77 (t 6) 2),
  o 8 (fa 75 (t 7) 0),
  o 9 (l 3 (t 8)),
  o 10 (.binOp .eql 3 (t 9) (k 2) 3),
  o 11 (m (t 10)),
  y 12 (m (t 1)) 11 true,
  y 13 (m (t 0)) 11 true,
  y 14 (.nilCheck (t 13)) 11 true,
  y 15 (fa 77 (t 14) 2) 11 true,
  y 16 (fa 75 (t 15) 1) 11 true,
  y 17 (l 9 (t 16)) 11 true,
  y 18 (.call ⟨.value (f 144), #[(t 12), (t 17)], #[23, 9]⟩) 11 true,
  o 19 (.pick (t 11) (t 18) (b false)),
  o 4 (a (t 19))]
def ir96 : ACode := .seq (.ops r96_0) (.seq (.ops r96_1) (.ret))
theorem en96 : En ir96 20 [.tmp 4] 96 := acalls_enter_b mixed Tryz.func96 Tryz.ntmps96 (by kernel_rfl) (by kernel_rfl)
theorem ca96 : Ca 96 := cal Tryz.func96
def r144_0 : L := [o 4 (a (b false))]
def r144_1 : L := [o 5 (m (t 0)),
  o 6 (m (t 1)),
  o 7 (.call ⟨.value (f 97), #[(t 5), (t 6)], #[23, 9]⟩),
  o 8 (.binOp .geq 3 (t 7) (k 0) 3),
  o 4 (a (t 8))]
def ir144 : ACode := .seq (.ops r144_0) (.seq (.ops r144_1) (.ret))
theorem en144 : En ir144 9 [.tmp 4] 144 := acalls_enter_b mixed Tryz.func144 Tryz.ntmps144 (by kernel_rfl) (by kernel_rfl)
theorem ca144 : Ca 144 := cal Tryz.func144
def r97_0 : L := [o 4 (a (k 0))]
def r97_1 : L := [o 6 (m (t 0)),
  o 7 (ln (t 6) 23),
  o 8 (m (k 0))]
def r97_2 : L := [o 9 (.binOp .lss 3 (t 8) (t 7) 3)]
def r97_3 : L := [o 10 (m (t 8)),
  o 5 (a (t 10))]
def r97_4 : L := [o 11 (m (t 1)),
  o 12 (m (t 0)),
  o 13 (m (t 5)),
  o 14 (.indexAddr 23 (t 12) (t 13)),
  o 15 (l 9 (t 14)),
  o 16 (.binOp .eql 9 (t 11) (t 15) 9)]
def r97_5 : L := [o 17 (m (t 5)),
  o 4 (a (t 17))]
def r97_6 : L := [o 18 (.binOp .add 3 (t 8) (k 1) 3),
  o 8 (m (t 18))]
def r97_7 : L := [o 4 (a (k (-1)))]
def ir97 : ACode := .seq (.ops r97_0) (.seq (.seq (.ops r97_1) (.block 0 (.loop (.seq (.ops r97_2) (.seq (.cond (t 9) (.skip) (.exit 0)) (.seq (.block 1 (.seq (.ops r97_3) (.seq (.ops r97_4) (.cond (t 16) (.seq (.ops r97_5) (.ret)) (.skip))))) (.ops r97_6))))))) (.seq (.ops r97_7) (.ret)))
theorem en97 : En ir97 19 [.tmp 4] 97 := acalls_enter_b mixed Tryz.func97 Tryz.ntmps97 (by kernel_rfl) (by kernel_rfl)
theorem ca97 : Ca 97 := cal Tryz.func97
def r93_0 : L := [o 4 (a (b false))]
def r93_1 : L := [o 5 (m (t 0)),
  o 6 (m (t 1)),
  o 7 (.call ⟨.value (f 95), #[(t 5), (t 6)], #[73, 9]⟩),
  o 8 (.unOp .not 4 (t 7))]
def r93_2 : L := [o 4 (a (b false))]
def r93_3 : L := [o 9 (m (t 0)),
  o 10 (.call ⟨.value (f 91), #[(t 9)], #[73]⟩)]
def r93_4 : L := [o 4 (a (b true))]
def ir93 : ACode := .seq (.ops r93_0) (.seq (.seq (.ops r93_1) (.cond (t 8) (.seq (.ops r93_2) (.ret)) (.skip))) (.seq (.ops r93_3) (.seq (.ops r93_4) (.ret))))
theorem en93 : En ir93 11 [.tmp 4] 93 := acalls_enter_b mixed Tryz.func93 Tryz.ntmps93 (by kernel_rfl) (by kernel_rfl)
theorem ca93 : Ca 93 := cal Tryz.func93
def r98_0 : L := [o 2 (m (t 0)),
  o 3 (.nilCheck (t 2)),
  o 4 (fa 77 (t 3) 2),
  o 5 (fa 75 (t 4) 2),
  o 6 (l 3 (t 5)),
  o 7 (.build 71 #[(0, (t 6)), (1, (k 3))]),
  o 8 (.makeInterface 71 (t 7)),
  q (.panic (t 8))]
def ir98 : ACode := .ops r98_0
theorem en98 : En ir98 9 [] 98 := acalls_enter_b mixed Tryz.func98 Tryz.ntmps98 (by kernel_rfl) (by kernel_rfl)
theorem ca98 : Ca 98 := cal Tryz.func98
def r162_0 : L := [o 4 (a (s #[]))]
def r162_1 : L := [o 6 (m (t 0)),
  o 7 (.nilCheck (t 6)),
  o 8 (fa 77 (t 7) 2),
  o 9 (fa 75 (t 8) 0),
  o 10 (l 3 (t 9)),
  o 11 (m (t 1)),
  o 12 (.binOp .neq 3 (t 10) (t 11) 3)]
def r162_2 : L := [o 13 (m (t 0)),
  o 14 (.call ⟨.value (f 98), #[(t 13)], #[73]⟩)]
def r162_3 : L := [o 15 (m (t 0)),
  o 16 (.nilCheck (t 15)),
  o 17 (fa 77 (t 16) 2),
  o 18 (fa 75 (t 17) 1),
  o 19 (l 9 (t 18)),
  o 5 (a (t 19))]
def r162_4 : L := [o 20 (m (t 0)),
  o 21 (.call ⟨.value (f 91), #[(t 20)], #[73]⟩)]
def r162_5 : L := [o 22 (m (t 5)),
  o 4 (a (t 22))]
def ir162 : ACode := .seq (.ops r162_0) (.seq (.seq (.ops r162_1) (.cond (t 12) (.ops r162_2) (.skip))) (.seq (.ops r162_3) (.seq (.ops r162_4) (.seq (.ops r162_5) (.ret)))))
theorem en162 : En ir162 23 [.tmp 4] 162 := acalls_enter_b mixed Tryz.func162 Tryz.ntmps162 (by kernel_rfl) (by kernel_rfl)
theorem ca162 : Ca 162 := cal Tryz.func162
def r99_0 : L := [o 2 (a (s #[]))]
def r99_1 : L := [o 3 (m (t 0)),
  o 4 (.call ⟨.value (f 162), #[(t 3), (k 2)], #[73, 3]⟩),
  o 2 (a (t 4))]
def ir99 : ACode := .seq (.ops r99_0) (.seq (.ops r99_1) (.ret))
theorem en99 : En ir99 5 [.tmp 2] 99 := acalls_enter_b mixed Tryz.func99 Tryz.ntmps99 (by kernel_rfl) (by kernel_rfl)
theorem ca99 : Ca 99 := cal Tryz.func99
def r234_0 : L := [o 6 (m (t 1)),
  o 7 (ln (t 6) 23),
  o 8 (m (k 0))]
def r234_1 : L := [o 9 (.binOp .lss 3 (t 8) (t 7) 3)]
def r234_2 : L := [o 10 (.indexAddr 23 (t 6) (t 8)),
  o 11 (l 9 (t 10)),
  o 5 (a (t 11))]
def r234_3 : L := [o 12 (m (t 0)),
  o 13 (m (t 5)),
  o 14 (.call ⟨.value (f 93), #[(t 12), (t 13)], #[73, 9]⟩),
  o 15 (.unOp .not 4 (t 14))]
def r234_4 : L := [o 16 (m (t 0)),
  o 17 (.call ⟨.value (f 98), #[(t 16)], #[73]⟩)]
def r234_5 : L := [o 18 (.binOp .add 3 (t 8) (k 1) 3),
  o 8 (m (t 18))]
def ir234 : ACode := .seq (.ops r234_0) (.block 0 (.loop (.seq (.ops r234_1) (.seq (.cond (t 9) (.skip) (.exit 0)) (.seq (.block 1 (.seq (.ops r234_2) (.seq (.ops r234_3) (.cond (t 15) (.ops r234_4) (.skip))))) (.ops r234_5))))))
theorem en234 : En ir234 19 [] 234 := acalls_enter_b mixed Tryz.func234 Tryz.ntmps234 (by kernel_rfl) (by kernel_rfl)
theorem ca234 : Ca 234 := cal Tryz.func234
def r282_0 : L := [o 2 (a (s #[]))]
def r282_1 : L := [o 3 (m (t 0)),
  o 4 (.buildSlice 23 1 #[(0, (s #[44]))]),
  o 5 (.call ⟨.value (f 234), #[(t 3), (t 4)], #[73, 23]⟩)]
def r282_2 : L := [o 6 (m (t 0)),
  o 7 (.call ⟨.value (f 99), #[(t 6)], #[73]⟩),
  o 2 (a (t 7))]
def ir282 : ACode := .seq (.ops r282_0) (.seq (.ops r282_1) (.seq (.ops r282_2) (.ret)))
theorem en282 : En ir282 8 [.tmp 2] 282 := acalls_enter_b mixed Tryz.func282 Tryz.ntmps282 (by kernel_rfl) (by kernel_rfl)
theorem ca282 : Ca 282 := cal Tryz.func282
def r233_0 : L := [o 6 (a (k 0))]
def r233_1 : L := [o 10 (m (t 0)),
  o 11 (.call ⟨.value (f 162), #[(t 10), (k 3)], #[73, 3]⟩),
  o 7 (a (t 11))]
def r233_2 : L := [o 12 (m (t 7)),
  o 13 (.call ⟨.value (f 253), #[(t 12), (s #[48])], #[9, 9]⟩),
  o 7 (a (t 13))]
def r233_3 : L := [o 8 (a (k 0))]
def r233_4 : L := [o 9 (a (k 0))]
def r233_5 : L := [o 14 (m (t 9)),
  o 15 (m (t 7)),
  o 16 (ln (t 15) 9),
  o 17 (.binOp .lss 3 (t 14) (t 16) 3),
  o 18 (m (t 17)),
  y 19 (m (t 8)) 18 true,
  y 20 (m (t 1)) 18 true,
  y 21 (.binOp .leq 3 (t 19) (t 20) 3) 18 true,
  o 22 (.pick (t 18) (t 21) (b false))]
def r233_6 : L := [o 25 (m (t 8)),
  o 26 (.binOp .mul 3 (k 10) (t 25) 3),
  o 27 (m (t 7)),
  o 28 (m (t 9)),
  o 29 (.index 9 (t 27) (t 28)),
  o 30 (.binOp .sub 5 (t 29) (.const (.int .u8 48)) 5),
  o 31 (.convert 5 3 (t 30)),
  o 32 (.binOp .add 3 (t 26) (t 31) 3),
  o 8 (a (t 32))]
def r233_7 : L := [o 23 (m (t 9)),
  o 24 (.binOp .add 3 (t 23) (k 1) 3),
  o 9 (a (t 24))]
def r233_8 : L := [o 33 (m (t 8)),
  o 34 (m (t 1)),
  o 35 (.binOp .gtr 3 (t 33) (t 34) 3)]
def r233_9 : L := [o 36 (m (t 2)),
  o 37 (.build 71 #[(0, (t 36)), (1, (k 8))]),
  o 38 (.makeInterface 71 (t 37)),
  q (.panic (t 38))]
def r233_10 : L := [o 39 (m (t 8)),
  o 6 (a (t 39))]
def ir233 : ACode := .seq (.ops r233_0) (.seq (.ops r233_1) (.seq (.ops r233_2) (.seq (.ops r233_3) (.seq (.seq (.ops r233_4) (.block 0 (.loop (.seq (.seq (.ops r233_5) (.cond (t 22) (.skip) (.exit 0))) (.seq (.block 1 (.ops r233_6)) (.ops r233_7)))))) (.seq (.seq (.ops r233_8) (.cond (t 35) (.ops r233_9) (.skip))) (.seq (.ops r233_10) (.ret)))))))
theorem en233 : En ir233 40 [.tmp 6] 233 := acalls_enter_b mixed Tryz.func233 Tryz.ntmps233 (by kernel_rfl) (by kernel_rfl)
theorem ca233 : Ca 233 := cal Tryz.func233
def r281_0 : L := [o 2 (a (k 0))]
def r281_1 : L := [o 3 (m (t 0)),
  o 4 (m (t 0)),
  o 5 (.nilCheck (t 4)),
  o 6 (fa 77 (t 5) 2),
  o 7 (fa 75 (t 6) 2),
  o 8 (l 3 (t 7)),
  o 9 (.call ⟨.value (f 233), #[(t 3), (k 100000), (t 8)], #[73, 3, 3]⟩),
  o 2 (a (t 9))]
def ir281 : ACode := .seq (.ops r281_0) (.seq (.ops r281_1) (.ret))
theorem en281 : En ir281 10 [.tmp 2] 281 := acalls_enter_b mixed Tryz.func281 Tryz.ntmps281 (by kernel_rfl) (by kernel_rfl)
theorem ca281 : Ca 281 := cal Tryz.func281
def r283_0 : L := [o 2 (a (k 0))]
def r283_1 : L := [o 3 (m (t 0)),
  o 4 (.call ⟨.value (f 93), #[(t 3), (s #[45])], #[73, 9]⟩)]
def r283_2 : L := [o 5 (m (t 0)),
  o 6 (.call ⟨.value (f 281), #[(t 5)], #[73]⟩),
  o 7 (.unOp .neg 3 (t 6)),
  o 2 (a (t 7))]
def r283_3 : L := [o 8 (m (t 0)),
  o 9 (.call ⟨.value (f 281), #[(t 8)], #[73]⟩),
  o 2 (a (t 9))]
def ir283 : ACode := .seq (.ops r283_0) (.seq (.seq (.ops r283_1) (.cond (t 4) (.seq (.ops r283_2) (.ret)) (.skip))) (.seq (.ops r283_3) (.ret)))
theorem en283 : En ir283 10 [.tmp 2] 283 := acalls_enter_b mixed Tryz.func283 Tryz.ntmps283 (by kernel_rfl) (by kernel_rfl)
theorem ca283 : Ca 283 := cal Tryz.func283
def r255_0 : L := [o 2 (a (b false))]
def r255_1 : L := [o 3 (m (t 0)),
  o 4 (.call ⟨.value (f 93), #[(t 3), (s #[37, 99])], #[73, 9]⟩),
  o 2 (a (t 4))]
def ir255 : ACode := .seq (.ops r255_0) (.seq (.ops r255_1) (.ret))
theorem en255 : En ir255 5 [.tmp 2] 255 := acalls_enter_b mixed Tryz.func255 Tryz.ntmps255 (by kernel_rfl) (by kernel_rfl)
theorem ca255 : Ca 255 := cal Tryz.func255
def r253_0 : L := [o 4 (a (s #[]))]
def r253_1 : L := [o 7 (m (t 0)),
  o 8 (.binOp .eql 9 (t 7) (s #[]) 9),
  o 9 (m (t 8)),
  y 10 (m (t 1)) 9 false,
  y 11 (.binOp .eql 9 (t 10) (s #[]) 9) 9 false,
  o 12 (.pick (t 9) (b true) (t 11))]
def r253_2 : L := [o 13 (m (t 0)),
  o 4 (a (t 13))]
def r253_3 : L := [o 14 (m (t 1)),
  o 15 (ln (t 14) 9),
  o 16 (.binOp .eql 3 (t 15) (k 1) 3),
  o 17 (m (t 16)),
  y 18 (m (t 1)) 17 true,
  y 19 (.index 9 (t 18) (k 0)) 17 true,
  y 20 (.binOp .lss 5 (t 19) (.const (.int .u8 128)) 5) 17 true,
  o 21 (.pick (t 17) (t 20) (b false))]
def r253_4 : L := [o 22 (m (t 0)),
  o 23 (m (t 1)),
  o 24 (.index 9 (t 23) (k 0)),
  o 25 (.call ⟨.value (f 277), #[(t 22), (t 24)], #[9, 5]⟩),
  o 4 (a (t 25))]
def r253_5 : L := [o 27 (m (t 1)),
  o 28 (.call ⟨.value (f 278), #[(t 27)], #[9]⟩),
  o 26 (m (t 28)),
  o 29 (.extract (t 26) 0),
  o 30 (.extract (t 26) 1),
  o 5 (.alloc 248),
  q (.store 248 (t 5) (t 29)),
  o 6 (a (t 30))]
def r253_6 : L := [o 31 (m (t 6))]
def r253_7 : L := [o 32 (m (t 0)),
  o 33 (.call ⟨.value (f 279), #[(t 32), (t 5)], #[9, 252]⟩),
  o 4 (a (t 33))]
def r253_8 : L := [o 34 (m (t 0)),
  o 35 (m (t 1)),
  o 36 (.call ⟨.value (f 280), #[(t 34), (t 35)], #[9, 9]⟩),
  o 4 (a (t 36))]
def ir253 : ACode := .seq (.ops r253_0) (.seq (.seq (.ops r253_1) (.cond (t 12) (.seq (.ops r253_2) (.ret)) (.skip))) (.seq (.seq (.ops r253_3) (.cond (t 21) (.seq (.ops r253_4) (.ret)) (.skip))) (.seq (.seq (.ops r253_5) (.seq (.ops r253_6) (.cond (t 31) (.seq (.ops r253_7) (.ret)) (.skip)))) (.seq (.ops r253_8) (.ret)))))
theorem en253 : En ir253 37 [.tmp 4] 253 := acalls_enter_b mixed Tryz.func253 Tryz.ntmps253 (by kernel_rfl) (by kernel_rfl)
theorem ca253 : Ca 253 := cal Tryz.func253
def r277_0 : L := [o 4 (a (s #[]))]
def r277_1 : L := [o 5 (m (t 0)),
  o 6 (ln (t 5) 9),
  o 7 (.binOp .gtr 3 (t 6) (k 0) 3),
  o 8 (m (t 7)),
  y 9 (m (t 0)) 8 true,
  y 10 (.index 9 (t 9) (k 0)) 8 true,
  y 11 (m (t 1)) 8 true,
  y 12 (.binOp .eql 5 (t 10) (t 11) 5) 8 true,
  o 13 (.pick (t 8) (t 12) (b false))]
def r277_2 : L := [o 14 (m (t 0)),
  o 15 (.slice 9 (t 14) (some (k 1)) none none),
  o 0 (a (t 15))]
def r277_3 : L := [o 16 (m (t 0)),
  o 4 (a (t 16))]
def ir277 : ACode := .seq (.ops r277_0) (.seq (.block 0 (.loop (.seq (.seq (.ops r277_1) (.cond (t 13) (.skip) (.exit 0))) (.block 1 (.ops r277_2))))) (.seq (.ops r277_3) (.ret)))
theorem en277 : En ir277 17 [.tmp 4] 277 := acalls_enter_b mixed Tryz.func277 Tryz.ntmps277 (by kernel_rfl) (by kernel_rfl)
theorem ca277 : Ca 277 := cal Tryz.func277
end Go.Proofs

/- The codes of some functions, tied to the loaded program. No conditions. -/
namespace Go.Proofs
open Go.Abs Go.Abs.I
def r192_0 : L := [o 6 (a (k 0))]
def r192_1 : L := [o 7 (m (t 1)),
  o 8 (m (t 0)),
  o 9 (ln (t 8) 9),
  o 10 (.binOp .lss 3 (t 7) (t 9) 3),
  o 11 (m (t 10)),
  y 12 (m (t 2)) 11 true,
  y 13 (m (t 0)) 11 true,
  y 14 (m (t 1)) 11 true,
  y 15 (.index 9 (t 13) (t 14)) 11 true,
  y 16 (.call ⟨.value (t 12), #[(t 15)], #[5]⟩) 11 true,
  o 17 (.pick (t 11) (t 16) (b false))]
def r192_2 : L := [o 18 (m (t 1)),
  o 19 (.binOp .add 3 (t 18) (k 1) 3),
  o 1 (a (t 19))]
def r192_3 : L := [o 20 (m (t 1)),
  o 6 (a (t 20))]
def ir192 : ACode := .seq (.ops r192_0) (.seq (.block 0 (.loop (.seq (.seq (.ops r192_1) (.cond (t 17) (.skip) (.exit 0))) (.block 1 (.ops r192_2))))) (.seq (.ops r192_3) (.ret)))
theorem en192 : En ir192 21 [.tmp 6] 192 := acalls_enter_b mixed Tryz.func192 Tryz.ntmps192 (by kernel_rfl) (by kernel_rfl)
theorem ca192 : Ca 192 := cal Tryz.func192
def r193_0 : L := [o 2 (a (b false))]
def r193_1 : L := [o 3 (m (t 0)),
  o 4 (.binOp .eql 5 (t 3) (.const (.int .u8 32)) 5),
  o 5 (m (t 4)),
  y 6 (m (t 0)) 5 false,
  y 7 (.binOp .eql 5 (t 6) (.const (.int .u8 10)) 5) 5 false,
  o 8 (.pick (t 5) (b true) (t 7)),
  o 2 (a (t 8))]
def ir193 : ACode := .seq (.ops r193_0) (.seq (.ops r193_1) (.ret))
theorem en193 : En ir193 9 [.tmp 2] 193 := acalls_enter_b mixed Tryz.func193 Tryz.ntmps193 (by kernel_rfl) (by kernel_rfl)
theorem ca193 : Ca 193 := cal Tryz.func193
def r194_0 : L := [o 2 (a (b false))]
def r194_1 : L := [o 3 (m (t 0)),
  o 4 (.binOp .geq 5 (t 3) (.const (.int .u8 97)) 5),
  o 5 (m (t 4)),
  y 6 (m (t 0)) 5 true,
  y 7 (.binOp .leq 5 (t 6) (.const (.int .u8 122)) 5) 5 true,
  o 8 (.pick (t 5) (t 7) (b false)),
  o 9 (m (t 8)),
  y 10 (m (t 0)) 9 false,
  y 11 (.binOp .geq 5 (t 10) (.const (.int .u8 65)) 5) 9 false,
  y 12 (m (t 11)) 9 false,
  y 13 (m (t 0)) 12 true,
  y 14 (.binOp .leq 5 (t 13) (.const (.int .u8 90)) 5) 12 true,
  y 15 (.pick (t 12) (t 14) (b false)) 9 false,
  o 16 (.pick (t 9) (b true) (t 15)),
  o 17 (m (t 16)),
  y 18 (m (t 0)) 17 false,
  y 19 (.binOp .eql 5 (t 18) (.const (.int .u8 95)) 5) 17 false,
  o 20 (.pick (t 17) (b true) (t 19)),
  o 2 (a (t 20))]
def ir194 : ACode := .seq (.ops r194_0) (.seq (.ops r194_1) (.ret))
theorem en194 : En ir194 21 [.tmp 2] 194 := acalls_enter_b mixed Tryz.func194 Tryz.ntmps194 (by kernel_rfl) (by kernel_rfl)
theorem ca194 : Ca 194 := cal Tryz.func194
def r195_0 : L := [o 2 (a (b false))]
def r195_1 : L := [o 3 (m (t 0)),
  o 4 (.call ⟨.value (f 194), #[(t 3)], #[5]⟩),
  o 5 (m (t 4)),
  y 6 (m (t 0)) 5 false,
  y 7 (.call ⟨.value (f 196), #[(t 6)], #[5]⟩) 5 false,
  o 8 (.pick (t 5) (b true) (t 7)),
  o 9 (m (t 8)),
  y 10 (m (t 0)) 9 false,
  y 11 (.binOp .eql 5 (t 10) (.const (.int .u8 45)) 5) 9 false,
  o 12 (.pick (t 9) (b true) (t 11)),
  o 2 (a (t 12))]
def ir195 : ACode := .seq (.ops r195_0) (.seq (.ops r195_1) (.ret))
theorem en195 : En ir195 13 [.tmp 2] 195 := acalls_enter_b mixed Tryz.func195 Tryz.ntmps195 (by kernel_rfl) (by kernel_rfl)
theorem ca195 : Ca 195 := cal Tryz.func195
def r196_0 : L := [o 2 (a (b false))]
def r196_1 : L := [o 3 (m (t 0)),
  o 4 (.binOp .geq 5 (t 3) (.const (.int .u8 48)) 5),
  o 5 (m (t 4)),
  y 6 (m (t 0)) 5 true,
  y 7 (.binOp .leq 5 (t 6) (.const (.int .u8 57)) 5) 5 true,
  o 8 (.pick (t 5) (t 7) (b false)),
  o 2 (a (t 8))]
def ir196 : ACode := .seq (.ops r196_0) (.seq (.ops r196_1) (.ret))
theorem en196 : En ir196 9 [.tmp 2] 196 := acalls_enter_b mixed Tryz.func196 Tryz.ntmps196 (by kernel_rfl) (by kernel_rfl)
theorem ca196 : Ca 196 := cal Tryz.func196
def r197_0 : L := [o 4 (a (s #[])),
  o 5 (a (k 0))]
def r197_1 : L := [o 6 (a (.const (.slice none 0 0)))]
def r197_2 : L := [o 8 (m (t 1)),
  o 9 (.binOp .add 3 (t 8) (k 1) 3),
  o 7 (a (t 9))]
def r197_3 : L := [o 10 (m (t 7)),
  o 11 (m (t 0)),
  o 12 (ln (t 11) 9),
  o 13 (.binOp .lss 3 (t 10) (t 12) 3)]
def r197_4 : L := [o 16 (m (t 0)),
  o 17 (m (t 7)),
  o 18 (.index 9 (t 16) (t 17)),
  o 19 (.binOp .eql 5 (t 18) (.const (.int .u8 34)) 5)]
def r197_5 : L := [o 20 (m (t 7)),
  o 21 (.binOp .add 3 (t 20) (k 1) 3),
  o 22 (m (t 0)),
  o 23 (ln (t 22) 9),
  o 24 (.binOp .eql 3 (t 21) (t 23) 3),
  o 25 (m (t 24)),
  y 26 (m (t 0)) 25 false,
  y 27 (m (t 7)) 25 false,
  y 28 (.binOp .add 3 (t 27) (k 1) 3) 25 false,
  y 29 (.index 9 (t 26) (t 28)) 25 false,
  y 30 (.binOp .neq 5 (t 29) (.const (.int .u8 34)) 5) 25 false,
  o 31 (.pick (t 25) (b true) (t 30))]
def r197_6 : L := [o 32 (m (t 6)),
  o 33 (.convert 50 9 (t 32)),
  o 34 (m (t 7)),
  o 35 (.binOp .add 3 (t 34) (k 1) 3),
  o 4 (a (t 33)),
  o 5 (a (t 35))]
def r197_7 : L := [o 36 (m (t 7)),
  o 37 (.binOp .add 3 (t 36) (k 1) 3),
  o 7 (a (t 37))]
def r197_8 : L := [o 38 (m (t 6)),
  o 39 (m (t 0)),
  o 40 (m (t 7)),
  o 41 (.index 9 (t 39) (t 40)),
  o 42 (.buildSlice 50 1 #[(0, (t 41))]),
  o 43 (.call ⟨.builtin .append, #[(t 38), (t 42)], #[50, 50]⟩),
  o 6 (a (t 43))]
def r197_9 : L := [o 14 (m (t 7)),
  o 15 (.binOp .add 3 (t 14) (k 1) 3),
  o 7 (a (t 15))]
def r197_10 : L := [o 4 (a (s #[])),
  o 5 (a (k (-1)))]
def ir197 : ACode := .seq (.ops r197_0) (.seq (.ops r197_1) (.seq (.seq (.ops r197_2) (.block 0 (.loop (.seq (.seq (.ops r197_3) (.cond (t 13) (.skip) (.exit 0))) (.seq (.block 1 (.seq (.seq (.ops r197_4) (.cond (t 19) (.seq (.seq (.ops r197_5) (.cond (t 31) (.seq (.ops r197_6) (.ret)) (.skip))) (.ops r197_7)) (.skip))) (.ops r197_8))) (.ops r197_9)))))) (.seq (.ops r197_10) (.ret))))
theorem en197 : En ir197 44 [.tmp 4, .tmp 5] 197 := acalls_enter_b mixed Tryz.func197 Tryz.ntmps197 (by kernel_rfl) (by kernel_rfl)
theorem ca197 : Ca 197 := cal Tryz.func197
def r157_0 : L := [o 4 (.alloc 75),
  o 5 (a (k 0))]
def r157_1 : L := [o 13 (m (t 0)),
  o 14 (m (t 1)),
  o 15 (.call ⟨.value (f 192), #[(t 13), (t 14), (f 193)], #[9, 3, 135]⟩),
  o 1 (a (t 15))]
def r157_2 : L := [o 16 (m (t 1)),
  o 17 (m (t 0)),
  o 18 (ln (t 17) 9),
  o 19 (.binOp .eql 3 (t 16) (t 18) 3)]
def r157_3 : L := [o 20 (m (t 1)),
  o 21 (.build 75 #[(0, (k 0)), (1, (s #[])), (2, (t 20))]),
  o 22 (m (t 1)),
  q (.store 75 (t 4) (t 21)),
  o 5 (a (t 22))]
def r157_4 : L := [o 23 (m (t 0)),
  o 24 (m (t 1)),
  o 25 (.index 9 (t 23) (t 24)),
  o 6 (a (t 25))]
def r157_5 : L := [o 27 (m (t 6)),
  o 28 (.call ⟨.value (f 194), #[(t 27)], #[5]⟩),
  o 26 (a (t 28))]
def r157_6 : L := [o 29 (m (t 0)),
  o 30 (m (t 1)),
  o 31 (.call ⟨.value (f 192), #[(t 29), (t 30), (f 195)], #[9, 3, 135]⟩),
  o 7 (a (t 31))]
def r157_7 : L := [o 32 (m (t 0)),
  o 33 (m (t 1)),
  o 34 (m (t 7)),
  o 35 (.slice 9 (t 32) (some (t 33)) (some (t 34)) none),
  o 36 (m (t 1)),
  o 37 (.build 75 #[(0, (k 2)), (1, (t 35)), (2, (t 36))]),
  o 38 (m (t 7)),
  q (.store 75 (t 4) (t 37)),
  o 5 (a (t 38))]
def r157_8 : L := [o 40 (m (t 6)),
  o 41 (.call ⟨.value (f 196), #[(t 40)], #[5]⟩),
  o 39 (a (t 41))]
def r157_9 : L := [o 42 (m (t 0)),
  o 43 (m (t 1)),
  o 44 (.call ⟨.value (f 192), #[(t 42), (t 43), (f 196)], #[9, 3, 135]⟩),
  o 8 (a (t 44))]
def r157_10 : L := [o 45 (m (t 0)),
  o 46 (m (t 1)),
  o 47 (m (t 8)),
  o 48 (.slice 9 (t 45) (some (t 46)) (some (t 47)) none),
  o 49 (m (t 1)),
  o 50 (.build 75 #[(0, (k 3)), (1, (t 48)), (2, (t 49))]),
  o 51 (m (t 8)),
  q (.store 75 (t 4) (t 50)),
  o 5 (a (t 51))]
def r157_11 : L := [o 53 (m (t 6)),
  o 54 (.binOp .eql 5 (t 53) (.const (.int .u8 34)) 5),
  o 52 (a (t 54))]
def r157_12 : L := [o 56 (m (t 0)),
  o 57 (m (t 1)),
  o 58 (.call ⟨.value (f 197), #[(t 56), (t 57)], #[9, 3]⟩),
  o 55 (m (t 58)),
  o 59 (.extract (t 55) 0),
  o 60 (.extract (t 55) 1),
  o 9 (a (t 59)),
  o 10 (a (t 60))]
def r157_13 : L := [o 61 (m (t 10)),
  o 62 (.binOp .lss 3 (t 61) (k 0) 3)]
def r157_14 : L := [o 63 (m (t 1)),
  o 64 (.build 75 #[(0, (k 1)), (1, (s #[])), (2, (t 63))]),
  o 65 (m (t 0)),
  o 66 (ln (t 65) 9),
  q (.store 75 (t 4) (t 64)),
  o 5 (a (t 66))]
def r157_15 : L := [o 67 (m (t 9)),
  o 68 (m (t 1)),
  o 69 (.build 75 #[(0, (k 4)), (1, (t 67)), (2, (t 68))]),
  o 70 (m (t 10)),
  q (.store 75 (t 4) (t 69)),
  o 5 (a (t 70))]
def r157_16 : L := [o 71 (.buildSlice 23 4 #[(0, (s #[60, 47])), (1, (s #[33, 61])), (2, (s #[58, 58])), (3, (s #[37, 99]))]),
  o 72 (ln (t 71) 23),
  o 73 (m (k 0))]
def r157_17 : L := [o 74 (.binOp .lss 3 (t 73) (t 72) 3)]
def r157_18 : L := [o 75 (.indexAddr 23 (t 71) (t 73)),
  o 76 (l 9 (t 75)),
  o 12 (a (t 76))]
def r157_19 : L := [o 77 (m (t 0)),
  o 78 (m (t 1)),
  o 79 (.slice 9 (t 77) (some (t 78)) none none),
  o 80 (m (t 12)),
  o 81 (.call ⟨.value (f 198), #[(t 79), (t 80)], #[9, 9]⟩)]
def r157_20 : L := [o 82 (m (t 12)),
  o 83 (m (t 1)),
  o 84 (.build 75 #[(0, (k 5)), (1, (t 82)), (2, (t 83))]),
  o 85 (m (t 1)),
  o 86 (.binOp .add 3 (t 85) (k 2) 3),
  q (.store 75 (t 4) (t 84)),
  o 5 (a (t 86))]
def r157_21 : L := [o 87 (.binOp .add 3 (t 73) (k 1) 3),
  o 73 (m (t 87))]
def r157_22 : L := [o 88 (m (t 6)),
  o 89 (.call ⟨.value (f 199), #[(s #[91, 93, 40, 41, 123, 125, 60, 62, 124, 38, 33, 61, 58, 46, 44, 63, 42, 43, 45]), (t 88)], #[9, 5]⟩),
  o 90 (.binOp .geq 3 (t 89) (k 0) 3)]
def r157_23 : L := [o 91 (m (t 0)),
  o 92 (m (t 1)),
  o 93 (m (t 1)),
  o 94 (.binOp .add 3 (t 93) (k 1) 3),
  o 95 (.slice 9 (t 91) (some (t 92)) (some (t 94)) none),
  o 96 (m (t 1)),
  o 97 (.build 75 #[(0, (k 5)), (1, (t 95)), (2, (t 96))]),
  o 98 (m (t 1)),
  o 99 (.binOp .add 3 (t 98) (k 1) 3),
  q (.store 75 (t 4) (t 97)),
  o 5 (a (t 99))]
def r157_24 : L := [o 100 (m (t 1)),
  o 101 (.build 75 #[(0, (k 1)), (1, (s #[])), (2, (t 100))]),
  o 102 (m (t 1)),
  q (.store 75 (t 4) (t 101)),
  o 5 (a (t 102))]
def ir157 : ACode := .seq (.ops r157_0) (.seq (.ops r157_1) (.seq (.seq (.ops r157_2) (.cond (t 19) (.seq (.ops r157_3) (.ret)) (.skip))) (.seq (.ops r157_4) (.seq (.block 0 (.seq (.ops r157_5) (.cond (t 26) (.seq (.ops r157_6) (.seq (.ops r157_7) (.ret))) (.seq (.ops r157_8) (.cond (t 39) (.seq (.ops r157_9) (.seq (.ops r157_10) (.ret))) (.seq (.ops r157_11) (.cond (t 52) (.seq (.ops r157_12) (.seq (.seq (.ops r157_13) (.cond (t 62) (.seq (.ops r157_14) (.ret)) (.skip))) (.seq (.ops r157_15) (.ret)))) (.skip)))))))) (.seq (.seq (.ops r157_16) (.block 1 (.loop (.seq (.ops r157_17) (.seq (.cond (t 74) (.skip) (.exit 1)) (.seq (.block 2 (.seq (.ops r157_18) (.seq (.ops r157_19) (.cond (t 81) (.seq (.ops r157_20) (.ret)) (.skip))))) (.ops r157_21))))))) (.seq (.seq (.ops r157_22) (.cond (t 90) (.seq (.ops r157_23) (.ret)) (.skip))) (.seq (.ops r157_24) (.ret))))))))
theorem en157 : En ir157 103 [.cell 4 75, .tmp 5] 157 := acalls_enter_b mixed Tryz.func157 Tryz.ntmps157 (by kernel_rfl) (by kernel_rfl)
theorem ca157 : Ca 157 := cal Tryz.func157
def r198_0 : L := [o 4 (a (b false))]
def r198_1 : L := [o 5 (m (t 0)),
  o 6 (m (t 1)),
  o 7 (.call ⟨.value (f 230), #[(t 5), (t 6)], #[9, 9]⟩),
  o 4 (a (t 7))]
def ir198 : ACode := .seq (.ops r198_0) (.seq (.ops r198_1) (.ret))
theorem en198 : En ir198 8 [.tmp 4] 198 := acalls_enter_b mixed Tryz.func198 Tryz.ntmps198 (by kernel_rfl) (by kernel_rfl)
theorem ca198 : Ca 198 := cal Tryz.func198
def r230_0 : L := [o 4 (a (b false))]
def r230_1 : L := [o 5 (m (t 0)),
  o 6 (ln (t 5) 9),
  o 7 (m (t 1)),
  o 8 (ln (t 7) 9),
  o 9 (.binOp .geq 3 (t 6) (t 8) 3),
  o 10 (m (t 9)),
  y 11 (m (t 0)) 10 true,
  y 12 (m (t 1)) 10 true,
  y 13 (ln (t 12) 9) 10 true,
  y 14 (.slice 9 (t 11) none (some (t 13)) none) 10 true,
  y 15 (m (t 1)) 10 true,
  y 16 (.binOp .eql 9 (t 14) (t 15) 9) 10 true,
  o 17 (.pick (t 10) (t 16) (b false)),
  o 4 (a (t 17))]
def ir230 : ACode := .seq (.ops r230_0) (.seq (.ops r230_1) (.ret))
theorem en230 : En ir230 18 [.tmp 4] 230 := acalls_enter_b mixed Tryz.func230 Tryz.ntmps230 (by kernel_rfl) (by kernel_rfl)
theorem ca230 : Ca 230 := cal Tryz.func230
def r199_0 : L := [o 4 (a (k 0))]
def r199_1 : L := [o 5 (m (t 0)),
  o 6 (m (t 1)),
  o 7 (.call ⟨.value (f 231), #[(t 5), (t 6)], #[9, 5]⟩),
  o 4 (a (t 7))]
def ir199 : ACode := .seq (.ops r199_0) (.seq (.ops r199_1) (.ret))
theorem en199 : En ir199 8 [.tmp 4] 199 := acalls_enter_b mixed Tryz.func199 Tryz.ntmps199 (by kernel_rfl) (by kernel_rfl)
theorem ca199 : Ca 199 := cal Tryz.func199
def r231_0 : L := [o 4 (a (k 0))]
def r231_1 : L := [o 5 (m (t 0)),
  o 6 (m (t 1)),
  o 7 (.call ⟨.value (f 251), #[(t 5), (t 6)], #[9, 5]⟩),
  o 4 (a (t 7))]
def ir231 : ACode := .seq (.ops r231_0) (.seq (.ops r231_1) (.ret))
theorem en231 : En ir231 8 [.tmp 4] 231 := acalls_enter_b mixed Tryz.func231 Tryz.ntmps231 (by kernel_rfl) (by kernel_rfl)
theorem ca231 : Ca 231 := cal Tryz.func231
def r91_0 : L := [o 3 (m (t 0)),
  o 4 (m (t 0)),
  o 5 (m (t 0)),
  o 6 (.nilCheck (t 5)),
  o 7 (fa 77 (t 6) 0),
  o 8 (l 9 (t 7)),
  o 9 (m (t 0)),
  o 10 (.nilCheck (t 9)),
  o 11 (fa 77 (t 10) 1),
  o 12 (l 3 (t 11)),
  o 13 (.call ⟨.value (f 157), #[(t 8), (t 12)], #[9, 3]⟩),
  o 2 (m (t 13)),
  o 14 (.extract (t 2) 0),
  o 15 (.extract (t 2) 1),
  o 16 (.nilCheck (t 3)),
  o 17 (fa 77 (t 16) 2),
  q (.store 75 (t 17) (t 14)),
  o 18 (.nilCheck (t 4)),
  o 19 (fa 77 (t 18) 1),
  q (.store 3 (t 19) (t 15))]
def ir91 : ACode := .ops r91_0
theorem en91 : En ir91 20 [] 91 := acalls_enter_b mixed Tryz.func91 Tryz.ntmps91 (by kernel_rfl) (by kernel_rfl)
theorem ca91 : Ca 91 := cal Tryz.func91
end Go.Proofs

/- The extern under strings.IndexByte, said of abstract values. No conditions. -/
namespace Go.Proofs
open Go.Abs Go.Shelf Go.RowKit Go.Lib

set_option maxRecDepth 100000 in
set_option maxHeartbeats 1000000 in
theorem m231 (s : ByteArray) (c : Int) (w : World) : Calls Tryz.prog 231 #[.string s, .int .u8 c] w fun e w' => e = .returned (.int .i64 (Lib.indexByte s.data.toList c.toNat.toUInt8)) ∧ w' = w := by
  have mixed : Tryz.prog.follows .mixedOrders = true := by kernel_rfl
  have t3 := Tryz.underlying3; have t5 := Tryz.underlying5; have t9 := Tryz.underlying9
  have a3 : ∀ w, (isAgg 3).run Tryz.prog w = .ok false w := run_isAgg_plain t3 rfl
  have a5 : ∀ w, (isAgg 5).run Tryz.prog w = .ok false w := run_isAgg_plain t5 rfl
  have a9 : ∀ w, (isAgg 9).run Tryz.prog w = .ok false w := run_isAgg_plain t9 rfl
  go_enter Tryz.func231, Tryz.ntmps231
  go_wp2
  rw [run_callFunc_extern Tryz.func251 (by kernel_rfl) (by kernel_rfl) (by kernel_rfl) (e := Extern.BytealgIndexByte.indexByte) (by kernel_rfl), Lib.run_indexByteString]
  simp only [Result.andThen]
  rw [Oper.upon_value]
  go_wp2
  go_ret
  exact ⟨rfl, rfl⟩

theorem acalls_pure {P : Program} {G : Nat → Option Obj} {f : FuncId} {args : List AVal} {v : AVal} {h : AHeap} (hv : ∀ w vs, Rel G h w → Reps h w args vs → ∃ u, Rep h w v u ∧ Calls P f vs.toArray w fun e w' => e = .returned u ∧ w' = w) : ACalls P G f args h (fun out h' => out = .ret v ∧ h' = h) :=
  fun w vs hr ha => by
    obtain ⟨u, h1, h2⟩ := hv w vs hr ha
    refine h2.mono ?_
    rintro e w' ⟨rfl, rfl⟩
    exact ⟨.ret v, h, ⟨rfl, rfl⟩, hr, .refl hr, u, rfl, h1⟩

theorem c231 {G : Nat → Option Obj} {h : AHeap} (s : List UInt8) (c : UInt8) : ACalls Tryz.prog G 231 [.str s, .int .u8 c.toNat] h (fun out h' => out = .ret (.int .i64 (Lib.indexByte s c)) ∧ h' = h) := by
  refine acalls_pure fun w vs hr ha => ?_
  obtain ⟨hl, ha⟩ := ha
  match vs, hl with
  | [a, b], _ =>
    obtain ⟨t, rfl, ht⟩ := (ha 0 _ a rfl rfl).str_inv
    have hb := (ha 1 _ b rfl rfl).int_inv
    subst hb
    refine ⟨_, .int _ _, ?_⟩
    have := m231 t c.toNat w
    rw [ht] at this
    have e : (c.toNat : Int).toNat.toUInt8 = c := by simp
    rw [e] at this
    exact this
end Go.Proofs

/- The lexer of the program, walked. No conditions. -/
namespace Go.Proofs
open Go.Abs Go.Q
attribute [local irreducible] awp aops Run BodyQ ACalls Back
section
variable {G : Nat → Option Obj} {h : AHeap}

/-- A call that turns nothing and returns a value. -/
abbrev Gives (v : AVal) (h : AHeap) : AOut → AHeap → Prop := fun out h' => out = .ret v ∧ h' = h

theorem eq_u8 {c : UInt8} {n : Nat} : ((c.toNat : Int) == (n : Int)) = (c.toNat == n) := by
  rw [Bool.eq_iff_iff]; simp only [beq_iff_eq]; omega

theorem c194 (c : UInt8) : ACalls Tryz.prog G 194 [.int .u8 c.toNat] h (Gives (.bool (letter c)) h) := by
  refine en194 (by simp) fun hw => ?_
  refine g7 ?_ ?_ ?_ ?_ ?_ ?_ ?_ <;> (repeat intro hb hc)
  all_goals refine ⟨?_, rfl⟩
  all_goals simp only [AOut.ret.injEq, AVal.bool.injEq]
  all_goals unfold letter
  all_goals rw [Bool.eq_iff_iff]
  all_goals simp
  all_goals omega
theorem c196 (c : UInt8) : ACalls Tryz.prog G 196 [.int .u8 c.toNat] h (Gives (.bool (digit c)) h) := by
  refine en196 (by simp) fun hw => ?_
  refine g2 ?_ ?_ <;> (repeat intro hb hc)
  all_goals refine ⟨?_, rfl⟩
  all_goals simp only [AOut.ret.injEq, AVal.bool.injEq]
  all_goals unfold digit
  all_goals rw [Bool.eq_iff_iff]
  all_goals simp
  all_goals omega
theorem c193 (c : UInt8) : ACalls Tryz.prog G 193 [.int .u8 c.toNat] h (Gives (.bool (isBlank c)) h) := by
  refine en193 (by simp) fun hw => ?_
  refine g2 ?_ ?_ <;> (repeat intro hb hc)
  all_goals refine ⟨?_, rfl⟩
  all_goals simp only [AOut.ret.injEq, AVal.bool.injEq]
  all_goals unfold isBlank
  all_goals rw [Bool.eq_iff_iff]
  all_goals simp
  all_goals omega
theorem c195 (c : UInt8) : ACalls Tryz.prog G 195 [.int .u8 c.toNat] h (Gives (.bool (wordb c)) h) := by
  refine en195 (by simp) fun hw => ?_
  refine g1 ?_
  refine s_call rfl rfl rfl ca194 ?_
  refine (c194 c).mono ?_
  rintro _ _ ⟨rfl, rfl⟩
  refine back trivial ?_
  refine g2 ?_ ?_ <;> (repeat intro hb hc)
  · refine s_call rfl rfl rfl ca196 ?_
    refine (c196 c).mono ?_
    rintro _ _ ⟨rfl, rfl⟩
    refine back trivial ?_
    refine g2 ?_ ?_ <;> (repeat intro hb hc)
    · refine ⟨?_, rfl⟩
      simp only [AOut.ret.injEq, AVal.bool.injEq, wordb]
      rw [Bool.eq_iff_iff]
      simp_all
      omega
    · exact ⟨by simp_all [wordb], rfl⟩
  · exact ⟨by simp_all [wordb], rfl⟩

theorem c192 (k : Nat) (p : UInt8 → Bool) (hk : Callable Tryz.prog k) (hp : ∀ (c : UInt8) h, ACalls Tryz.prog G k [.int .u8 c.toNat] h (Gives (.bool (p c)) h)) (s : Str) (i : Nat) (hi : i ≤ s.length) (hs : s.length ≤ 1000) : ACalls Tryz.prog G 192 [.str s, .int .i64 i, .func (.func k) [] []] h (Gives (.int .i64 (runEnd p s i)) h) := by
  refine en192 (by simp) fun hw => ?_
  repeat first | (apply s_gen @tt; exact rfl; exact rfl; first | exact trivial | omega | (simp <;> omega)) | apply w_seq | apply w_ops | apply s_nil | apply x_n | apply w_skip | apply w_ret | apply w_block | (apply w_exit; exact rfl) | apply b_n | apply x_p | apply x_0 | (apply s_loadp (gd := none); exact rfl; exact tt rfl; exact rfl; exact hpp; exact rfl; exact rfl; exact fun _ => rfl) | (refine s_store (tt rfl) rfl rfl hpp rfl rfl rfl rfl ⟨trivial, ?_⟩) | (apply g_t; exact rfl; (first | assumption | with_reducible rfl | decide)) | (apply g_f; exact rfl; (first | assumption | with_reducible rfl | decide); exact trivial) | (apply g_u; exact rfl; exact trivial) | (apply s_pick_t (gd := none); exact rfl; exact rfl; (first | assumption | with_reducible rfl | decide); exact rfl; exact rfl) | (apply s_pick_f (gd := none); exact rfl; exact rfl; (first | assumption | with_reducible rfl | decide); exact rfl; exact rfl) | (apply w_cond_t; exact rfl; (first | assumption | with_reducible rfl | decide)) | (apply w_cond_f; exact rfl; (first | assumption | with_reducible rfl | decide)) | (apply z_1; exact rfl) | (apply z_2; exact rfl; exact rfl) | (apply z_3; exact rfl; exact rfl; exact rfl) | (apply z_ct; exact rfl; exact tt rfl; exact hpp; exact rfl; exact rfl; exact rfl) | (apply z_c; exact rfl; exact tt rfl; exact hpp; exact rfl; exact rfl) | apply z_0r | apply z_0n | apply z_p | (apply s_sub8; exact rfl; exact rfl; exact rfl; omega; exact fun _ => rfl) | (apply s_conv64; exact rfl; exact tt rfl; exact tt rfl; exact rfl; omega; exact fun _ => rfl) | (apply s_bin; exact rfl; exact rfl; exact rfl; exact rfl; exact fun _ => rfl; exact fun _ => trivial) | (apply s_conv_int; exact rfl; exact tt rfl; exact tt rfl; exact rfl; exact fun _ => rfl)
  refine w_loop (fun e h' n => ∃ j : Nat, j ≤ s.length ∧ runEnd p s j = runEnd p s i ∧ n = s.length - j ∧ h' = h ∧ e = [(0, true, .str s), (1, true, .int .i64 j), (2, true, .func (.func k) [] [])])
    _ _ (.cons rfl (.cons rfl (.cons rfl (.nil _)))) ⟨i, hi, rfl, rfl, rfl, rfl⟩ ?_
  rintro _ _ _ ⟨j, hj, hr, rfl, rfl, rfl⟩
  refine g2 ?_ ?_ <;> (repeat intro hb hc)
  · refine s_call rfl rfl rfl hk ?_
    refine (hp _ _).mono ?_
    rintro _ _ ⟨rfl, rfl⟩
    refine back trivial ?_
    refine g2 ?_ ?_ <;> (repeat intro hb hc)
    · refine l_n _ _ ?_ ?_ ⟨j + 1, by omega, ?_, rfl, rfl, rfl⟩
      · omega
      · exact envv
      · rw [← hr]
        exact runEnd_step (by omega) (by assumption)
    · refine ⟨?_, rfl⟩
      rw [← hr, runEnd_stop (by omega) (by assumption)]
  · refine ⟨?_, rfl⟩
    rw [← hr, runEnd_end (by omega)]

theorem prefix_take (a b : Str) : (a.take b.length == b) = b.isPrefixOf a := by
  rw [Bool.eq_iff_iff, beq_iff_eq, List.isPrefixOf_iff_prefix, List.prefix_iff_eq_take]
  exact ⟨fun h => h.symm, fun h => h.symm⟩

theorem c230 (a b : Str) (ha : a.length ≤ 1000) (hb : b.length ≤ 1000) : ACalls Tryz.prog G 230 [.str a, .str b] h (Gives (.bool (b.isPrefixOf a)) h) := by
  refine en230 (by simp) fun hw => ?_
  refine g2 ?_ ?_ <;> (repeat intro hb hc)
  · refine ⟨?_, rfl⟩
    rw [← prefix_take]
    simp
  · refine ⟨?_, rfl⟩
    have : b.isPrefixOf a = false := by
      rw [Bool.eq_false_iff]
      intro hp
      have := (List.isPrefixOf_iff_prefix.1 hp).length_le
      omega
    rw [this]
theorem c198 (a b : Str) (ha : a.length ≤ 1000) (hb : b.length ≤ 1000) : ACalls Tryz.prog G 198 [.str a, .str b] h (Gives (.bool (b.isPrefixOf a)) h) := by
  refine en198 (by simp) fun hw => ?_
  refine g1 ?_
  refine s_call rfl rfl rfl ca230 ?_
  refine (c230 a b ha hb).mono ?_
  rintro _ _ ⟨rfl, rfl⟩
  refine back trivial ?_
  refine g1 ?_
  exact ⟨rfl, rfl⟩
theorem c199 (s : Str) (c : UInt8) : ACalls Tryz.prog G 199 [.str s, .int .u8 c.toNat] h (Gives (.int .i64 (Lib.indexByte s c)) h) := by
  refine en199 (by simp) fun hw => ?_
  refine g1 ?_
  refine s_call rfl rfl rfl ca231 ?_
  refine (c231 s c).mono ?_
  rintro _ _ ⟨rfl, rfl⟩
  refine back trivial ?_
  refine g1 ?_
  exact ⟨rfl, rfl⟩

theorem n0 {j : Nat} : (j : Int).toNat = j := rfl
theorem n1 {j : Nat} : ((j : Int) + 1).toNat = j + 1 := rfl
theorem u8_eq {c : UInt8} {n : Nat} (h : (c.toNat : Int) = (n : Int)) : c = UInt8.ofNat n := by
  apply UInt8.toNat_inj.1
  have : c.toNat = n := by omega
  rw [← this]
  simp

theorem u8_ne {c : UInt8} {n : Nat} (h : (c.toNat : Int) ≠ (n : Int)) (hn : n < 256 := by decide) : c ≠ UInt8.ofNat n := by
  intro hc
  apply h
  rw [hc]; simp; omega

theorem c197 (s : Str) (i : Nat) (hi : i < s.length) (hs : s.length ≤ 1000) : ACalls Tryz.prog G 197 [.str s, .int .i64 i] h (Gives (.tuple [.str (quoV s (i + 1)).1, .int .i64 (quoV s (i + 1)).2]) h) := by
  refine (ACalls.fin (en197 (by simp) fun hw => ?_))
  repeat first | (apply s_gen @tt; exact rfl; exact rfl; first | exact trivial | omega | (simp <;> omega)) | apply w_seq | apply w_ops | apply s_nil | apply x_n | apply w_skip | apply w_ret | apply w_block | (apply w_exit; exact rfl) | apply b_n | apply x_p | apply x_0 | (apply s_loadp (gd := none); exact rfl; exact tt rfl; exact rfl; exact hpp; exact rfl; exact rfl; exact fun _ => rfl) | (refine s_store (tt rfl) rfl rfl hpp rfl rfl rfl rfl ⟨trivial, ?_⟩) | (apply g_t; exact rfl; (first | assumption | with_reducible rfl | decide)) | (apply g_f; exact rfl; (first | assumption | with_reducible rfl | decide); exact trivial) | (apply g_u; exact rfl; exact trivial) | (apply s_pick_t (gd := none); exact rfl; exact rfl; (first | assumption | with_reducible rfl | decide); exact rfl; exact rfl) | (apply s_pick_f (gd := none); exact rfl; exact rfl; (first | assumption | with_reducible rfl | decide); exact rfl; exact rfl) | (apply w_cond_t; exact rfl; (first | assumption | with_reducible rfl | decide)) | (apply w_cond_f; exact rfl; (first | assumption | with_reducible rfl | decide)) | (apply z_1; exact rfl) | (apply z_2; exact rfl; exact rfl) | (apply z_3; exact rfl; exact rfl; exact rfl) | (apply z_ct; exact rfl; exact tt rfl; exact hpp; exact rfl; exact rfl; exact rfl) | (apply z_c; exact rfl; exact tt rfl; exact hpp; exact rfl; exact rfl) | apply z_0r | apply z_0n | apply z_p | (apply s_sub8; exact rfl; exact rfl; exact rfl; omega; exact fun _ => rfl) | (apply s_conv64; exact rfl; exact tt rfl; exact tt rfl; exact rfl; omega; exact fun _ => rfl) | (apply s_bin; exact rfl; exact rfl; exact rfl; exact rfl; exact fun _ => rfl; exact fun _ => trivial) | (apply s_conv_int; exact rfl; exact tt rfl; exact tt rfl; exact rfl; exact fun _ => rfl)
  refine w_loop (fun e h' n => ∃ (j : Nat) (b : Str) (tg : Tag), j ≤ s.length ∧ b.length ≤ j ∧ quoAt s b j = quoAt s [] (i + 1) ∧ n = s.length - j ∧ Sub h h' ∧ Room h h' 5 b.length tg ∧ e = [(0, true, .str s), (7, true, .int .i64 j), (6, true, .sl 1 (bytesE b) tg)])
    [(0, true, .str s), (7, true, .int .i64 (i + 1 : Nat)), (6, true, .sl 1 (bytesE []) .nl)] _ (.cons rfl (.cons rfl (.consw rfl (weak_nl (.inl rfl)) (.nil _)))) ⟨i + 1, [], .nl, by omega, by simp, rfl, rfl, .refl hw, trivial, rfl⟩ ?_
  rintro _ h' _ ⟨j, b, tg, hj, hbl, hq, rfl, hsub, hroom, rfl⟩
  refine g5 ?_ ?_ ?_ ?_ ?_ <;> (repeat intro hb hc)
  · refine s_conv_bytes rfl (tt rfl) (tt rfl) (tt rfl) rfl (.inl rfl) (abytes_bytesE b) (fun _ => rfl) ?_
    refine g1 ?_
    refine fin_sub hsub (.ret _ _ (.refl _)) ⟨?_, rfl⟩
    have hq2 := quoAt_close (b := b) (j := j) (s := s) (by omega) (u8_eq (n := 34) (by assumption)) (.inr (u8_ne (n := 34) (by assumption)))
    simp only [quoV, ← hq, hq2]
    rfl
  · refine s_append h rfl rfl (tt rfl) (tt rfl) rfl (.inl rfl) hsub.next (by rw [bytesE_length, Nat.mul_one]; exact hroom) (by simp [bytesE_length]; omega) fun tg' h2 hr2 hx2 => ⟨trivial, ?_⟩
    refine g1 ?_
    refine l_n _ _ ?_ ?_ ⟨j + 1 + 1, b ++ [s.getD (j + 1) 0], tg', by omega, by simp; omega, ?_, rfl, hx2.sub _ (Nat.le_refl _) hsub, ?_, rfl⟩
    · omega
    · refine .cons rfl (.cons rfl (.cons ?_ (.nil _)))
      simp [Env.get, bytesE, n1, AVal.cells]
    · rw [← hq]
      exact quoAt_two (by omega) (u8_eq (n := 34) (by assumption)) (u8_eq (n := 34) (by assumption))
    · simp only [List.length_append, bytesE_length, Nat.mul_one, List.length_cons, List.length_nil] at hr2 ⊢
      exact hr2
  · refine s_conv_bytes rfl (tt rfl) (tt rfl) (tt rfl) rfl (.inl rfl) (abytes_bytesE b) (fun _ => rfl) ?_
    refine g1 ?_
    refine fin_sub hsub (.ret _ _ (.refl _)) ⟨?_, rfl⟩
    have hq2 := quoAt_close (b := b) (j := j) (s := s) (by omega) (u8_eq (n := 34) (by assumption)) (.inl (by omega))
    simp only [quoV, ← hq, hq2]
    rfl
  · refine s_append h rfl rfl (tt rfl) (tt rfl) rfl (.inl rfl) hsub.next (by rw [bytesE_length, Nat.mul_one]; exact hroom) (by simp [bytesE_length]; omega) fun tg' h2 hr2 hx2 => ⟨trivial, ?_⟩
    refine g1 ?_
    refine l_n _ _ ?_ ?_ ⟨j + 1, b ++ [s.getD j 0], tg', by omega, by simp; omega, ?_, rfl, hx2.sub _ (Nat.le_refl _) hsub, ?_, rfl⟩
    · omega
    · refine .cons rfl (.cons rfl (.cons ?_ (.nil _)))
      simp [Env.get, bytesE, AVal.cells]
    · rw [← hq]
      exact quoAt_other (by omega) (u8_ne (n := 34) (by assumption))
    · simp only [List.length_append, bytesE_length, Nat.mul_one, List.length_cons, List.length_nil] at hr2 ⊢
      exact hr2
  · refine fin_sub hsub (.ret _ _ (.refl _)) ⟨?_, rfl⟩
    have hq2 := quoAt_end (b := b) (j := j) (s := s) (by omega)
    simp only [quoV, ← hq, hq2]

theorem index_mem {l : Str} {c : UInt8} : Lib.indexByte l c ≥ 0 ↔ l.contains c = true := by
  induction l with
  | nil => simp [Lib.indexByte]
  | cons b l ih =>
    have h1 := Lib.indexByte_ge l c
    unfold Lib.indexByte
    by_cases hb : b = c
    · subst hb; simp
    · have hb2 : (b == c) = false := by simpa using hb
      have hb3 : (c == b) = false := by simpa using fun h => hb h.symm
      rw [List.contains_cons, hb3, hb2]
      simp only [Bool.false_or, Bool.false_eq_true, if_false]
      rw [← ih]
      split
      · rename_i h2; rw [beq_iff_eq] at h2; omega
      · rename_i h2; rw [beq_iff_eq] at h2; omega

theorem w_ia {P : Program} {G : Nat → Option Obj} {Q : AExit → Env → AHeap → Prop} {xs ys : List (AOp × List AOp)} {e : Env} {h : AHeap} (hx : xs = ys) (hn : aops P G Q ys e h) : aops P G Q xs e h := by
  rw [hx]; exact hn

theorem _root_.Go.Abs.ACalls.args' {P : Program} {G : Nat → Option Obj} {f : FuncId} {a a' : List AVal} {h : AHeap} {Post : AOut → AHeap → Prop} (hc : ACalls P G f a h Post) (ha : a = a') : ACalls P G f a' h Post := by
  rw [← ha]; exact hc

def encTok (t : Tok) : AVal := .agg [.int .i64 t.kind, .str t.text, .int .i64 t.pos]

theorem c157 (s : Str) (i : Nat) (hi : i ≤ s.length) (hs : s.length ≤ 1000) : ACalls Tryz.prog G 157 [.str s, .int .i64 i] h (Gives (.tuple [encTok (lexAt s i).1, .int .i64 (lexAt s i).2]) h) := by
  refine (ACalls.fin (en157 (by simp) fun hw => ?_))
  repeat first | (apply s_gen @tt; exact rfl; exact rfl; first | exact trivial | omega | (simp <;> omega)) | apply w_seq | apply w_ops | apply s_nil | apply x_n | apply w_skip | apply w_ret | apply w_block | (apply w_exit; exact rfl) | apply b_n | apply x_p | apply x_0 | (apply s_loadp (gd := none); exact rfl; exact tt rfl; exact rfl; exact hpp; exact rfl; exact rfl; exact fun _ => rfl) | (refine s_store (tt rfl) rfl rfl hpp rfl rfl rfl rfl ⟨trivial, ?_⟩) | (apply g_t; exact rfl; (first | assumption | with_reducible rfl | decide)) | (apply g_f; exact rfl; (first | assumption | with_reducible rfl | decide); exact trivial) | (apply g_u; exact rfl; exact trivial) | (apply s_pick_t (gd := none); exact rfl; exact rfl; (first | assumption | with_reducible rfl | decide); exact rfl; exact rfl) | (apply s_pick_f (gd := none); exact rfl; exact rfl; (first | assumption | with_reducible rfl | decide); exact rfl; exact rfl) | (apply w_cond_t; exact rfl; (first | assumption | with_reducible rfl | decide)) | (apply w_cond_f; exact rfl; (first | assumption | with_reducible rfl | decide)) | (apply z_1; exact rfl) | (apply z_2; exact rfl; exact rfl) | (apply z_3; exact rfl; exact rfl; exact rfl) | (apply z_ct; exact rfl; exact tt rfl; exact hpp; exact rfl; exact rfl; exact rfl) | (apply z_c; exact rfl; exact tt rfl; exact hpp; exact rfl; exact rfl) | apply z_0r | apply z_0n | apply z_p | (apply s_sub8; exact rfl; exact rfl; exact rfl; omega; exact fun _ => rfl) | (apply s_conv64; exact rfl; exact tt rfl; exact tt rfl; exact rfl; omega; exact fun _ => rfl) | (apply s_bin; exact rfl; exact rfl; exact rfl; exact rfl; exact fun _ => rfl; exact fun _ => trivial) | (apply s_conv_int; exact rfl; exact tt rfl; exact tt rfl; exact rfl; exact fun _ => rfl)
  refine s_alloc (tt rfl) fun g hg => ⟨trivial, ?_⟩
  repeat first | (apply s_gen @tt; exact rfl; exact rfl; first | exact trivial | omega | (simp <;> omega)) | apply w_seq | apply w_ops | apply s_nil | apply x_n | apply w_skip | apply w_ret | apply w_block | (apply w_exit; exact rfl) | apply b_n | apply x_p | apply x_0 | (apply s_loadp (gd := none); exact rfl; exact tt rfl; exact rfl; exact hpp; exact rfl; exact rfl; exact fun _ => rfl) | (refine s_store (tt rfl) rfl rfl hpp rfl rfl rfl rfl ⟨trivial, ?_⟩) | (apply g_t; exact rfl; (first | assumption | with_reducible rfl | decide)) | (apply g_f; exact rfl; (first | assumption | with_reducible rfl | decide); exact trivial) | (apply g_u; exact rfl; exact trivial) | (apply s_pick_t (gd := none); exact rfl; exact rfl; (first | assumption | with_reducible rfl | decide); exact rfl; exact rfl) | (apply s_pick_f (gd := none); exact rfl; exact rfl; (first | assumption | with_reducible rfl | decide); exact rfl; exact rfl) | (apply w_cond_t; exact rfl; (first | assumption | with_reducible rfl | decide)) | (apply w_cond_f; exact rfl; (first | assumption | with_reducible rfl | decide)) | (apply z_1; exact rfl) | (apply z_2; exact rfl; exact rfl) | (apply z_3; exact rfl; exact rfl; exact rfl) | (apply z_ct; exact rfl; exact tt rfl; exact hpp; exact rfl; exact rfl; exact rfl) | (apply z_c; exact rfl; exact tt rfl; exact hpp; exact rfl; exact rfl) | apply z_0r | apply z_0n | apply z_p | (apply s_sub8; exact rfl; exact rfl; exact rfl; omega; exact fun _ => rfl) | (apply s_conv64; exact rfl; exact tt rfl; exact tt rfl; exact rfl; omega; exact fun _ => rfl) | (apply s_bin; exact rfl; exact rfl; exact rfl; exact rfl; exact fun _ => rfl; exact fun _ => trivial) | (apply s_conv_int; exact rfl; exact tt rfl; exact tt rfl; exact rfl; exact fun _ => rfl)
  refine s_call rfl rfl rfl ca192 ?_
  refine (c192 193 isBlank ca193 (fun c h => c193 c) s i hi hs).mono ?_
  rintro _ _ ⟨rfl, rfl⟩
  refine back trivial ?_
  have hj := runEnd_le (p := isBlank) hi
  obtain ⟨j, hjd⟩ : ∃ j, j = runEnd isBlank s i := ⟨_, rfl⟩
  rw [← hjd] at hj ⊢
  refine g2 ?_ ?_ <;> (repeat intro hb hc)
  · refine fin_sub (.setl (.new (.refl hw) hg _) hg _) (.ret _ _ (.refl _)) ⟨?_, rfl⟩
    rw [lex_end hjd (by omega)]
    rfl
  have hjl : j < s.length := by omega
  refine s_call rfl rfl rfl ca194 ?_
  refine (c194 (s.getD j 0)).mono ?_
  rintro _ _ ⟨rfl, rfl⟩
  refine back trivial ?_
  refine g2 ?_ ?_ <;> (repeat intro hb hc)
  · -- a name
    refine s_call rfl rfl rfl ca192 ?_
    refine (c192 195 wordb ca195 (fun c h => c195 c) s j hj hs).mono ?_
    rintro _ _ ⟨rfl, rfl⟩
    refine back trivial ?_
    have h1 := runEnd_le (p := wordb) hj
    have h2 := le_runEnd (p := wordb) (s := s) (i := j)
    refine g1 ?_
    refine fin_sub (.setl (.new (.refl hw) hg _) hg _) (.ret _ _ (.refl _)) ⟨?_, rfl⟩
    rw [lex_name hjd hjl (by assumption)]
    rfl
  refine s_call rfl rfl rfl ca196 ?_
  refine (c196 (s.getD j 0)).mono ?_
  rintro _ _ ⟨rfl, rfl⟩
  refine back trivial ?_
  refine g3 ?_ ?_ ?_ <;> (repeat intro hb hc)
  · -- a number
    refine s_call rfl rfl rfl ca192 ?_
    refine (c192 196 digit ca196 (fun c h => c196 c) s j hj hs).mono ?_
    rintro _ _ ⟨rfl, rfl⟩
    refine back trivial ?_
    have h1 := runEnd_le (p := digit) hj
    have h2 := le_runEnd (p := digit) (s := s) (i := j)
    refine g1 ?_
    refine fin_sub (.setl (.new (.refl hw) hg _) hg _) (.ret _ _ (.refl _)) ⟨?_, rfl⟩
    rw [lex_num hjd hjl (by assumption) (by assumption)]
    rfl
  · -- a string
    refine s_call rfl rfl rfl ca197 ?_
    refine (c197 s j hjl hs).mono ?_
    rintro _ _ ⟨rfl, rfl⟩
    refine back trivial ?_
    have hlex := lex_str hjd hjl (by assumption) (by assumption) (u8_eq (n := 34) (by assumption))
    unfold quoV
    cases hq : quoAt s [] (j + 1) with
    | none =>
      rw [hq] at hlex
      refine g1 ?_
      refine fin_sub (.setl (.new (.refl hw) hg _) hg _) (.ret _ _ (.refl _)) ⟨?_, rfl⟩
      rw [hlex]
      rfl
    | some x =>
      obtain ⟨v, n⟩ := x
      rw [hq] at hlex
      simp only at hlex ⊢
      refine g2 ?_ ?_ <;> (repeat intro hb hc)
      · omega
      · refine fin_sub (.setl (.new (.refl hw) hg _) hg _) (.ret _ _ (.refl _)) ⟨?_, rfl⟩
        rw [hlex]
        rfl
  -- a sign
  have hlex := lex_sign hjd hjl (by assumption) (by assumption) (u8_ne (n := 34) (by assumption))
  refine w_loop (fun e h' n => ∃ k : Nat, k ≤ 4 ∧ n = 4 - k ∧ (∀ m x, m < k → twos[m]? = some x → x.isPrefixOf (s.drop j) = false) ∧ h' = h.new g (AObj.box 75 [AVal.int IntKind.i64 0, AVal.str [], AVal.int IntKind.i64 0]) ∧
      e = [(0, true, .str s), (1, true, .int .i64 j), (6, true, .int .u8 (s.getD j 0).toNat), (4, true, .ptr g 0), (71, true, .sl 1 (twos.map fun x => [.str x]) .full), (72, true, .int .i64 4), (73, true, .int .i64 k)])
    _ _ (.cons rfl (.cons rfl (.cons rfl (.cons rfl (.cons rfl (.cons rfl (.cons rfl (.nil _)))))))) ⟨0, by omega, rfl, fun m x hm => by omega, rfl, rfl⟩ ?_
  rintro _ _ _ ⟨k, hk, rfl, hpre, rfl, rfl⟩
  refine g2 ?_ ?_ <;> (repeat intro hb hc)
  · obtain ⟨x, hx⟩ : ∃ x, twos[k]? = some x := ⟨_, List.getElem?_eq_getElem (show k < twos.length by show k < 4; omega)⟩
    have hxl := two_len (List.mem_of_getElem? hx)
    refine w_ia rfl ?_
    refine s_ia rfl (tt rfl) (tt rfl) rfl rfl rfl (fun _ => rfl) (by omega) (row := [.str x]) (by rw [List.getElem?_map, n0, hx]; rfl) ?_
    refine g1 ?_
    refine s_call rfl rfl rfl ca198 ?_
    refine (c198 (s.drop j) x (by simp; omega) (by omega)).args' (by simp [n0]) |>.mono ?_
    rintro _ _ ⟨rfl, rfl⟩
    refine back trivial ?_
    refine g2 ?_ ?_ <;> (repeat intro hb hc)
    · refine fin_sub (.setl (.new (.refl hw) hg _) hg _) (.ret _ _ (.refl _)) ⟨?_, rfl⟩
      rw [hlex, sign_two hx hpre (by assumption)]
      simp only [hxl]
      rfl
    · refine l_n _ _ ?_ ?_ ⟨k + 1, by omega, rfl, ?_, rfl, rfl⟩
      · omega
      · exact envv
      · intro m y hm hy
        by_cases hmk : m = k
        · subst hmk; rw [hx] at hy; injection hy with hy; subst hy; assumption
        · exact hpre m y (by omega) hy
  · refine s_call rfl rfl rfl ca199 ?_
    refine (c199 ones (s.getD j 0)).mono ?_
    rintro _ _ ⟨rfl, rfl⟩
    refine back trivial ?_
    have hno : ∀ x, x ∈ twos → x.isPrefixOf (s.drop j) = false := fun x hx => by
      obtain ⟨m, hm⟩ := List.getElem?_of_mem hx
      exact hpre m x (by have := (List.getElem?_eq_some_iff.1 hm).1; have h4 : twos.length = 4 := rfl; omega) hm
    refine g2 ?_ ?_ <;> (repeat intro hb hc)
    · refine fin_sub (.setl (.new (.refl hw) hg _) hg _) (.ret _ _ (.refl _)) ⟨?_, rfl⟩
      rw [hlex, sign_one hjl hno (index_mem.1 (by assumption))]
      show _ = AOut.ret (.tuple [encTok ⟨5, [s.getD j 0], j⟩, .int .i64 (j + 1 : Nat)])
      rw [← one_take hjl]
      rfl
    · refine fin_sub (.setl (.new (.refl hw) hg _) hg _) (.ret _ _ (.refl _)) ⟨?_, rfl⟩
      rw [hlex, sign_none hjl hno (fun h => absurd (index_mem.2 h) (by assumption))]
      rfl
end
end Go.Proofs
