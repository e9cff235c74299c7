/- Rules by which a piece of code is gone through, step by step. Over any program; no conditions. -/
import Derived.Test.YtjnkbjloabnopaaGreatDoorZ07
namespace Go.Abs

def condsB (e : Env) : List Operand → Bool
  | [] => true
  | x :: r => lookc e x && condsB e r

theorem condsB_iff {e : Env} : ∀ {l : List Operand}, condsB e l = true → condsL e l
  | [], _ => trivial
  | _ :: _, h => by
    simp only [condsB, Bool.and_eq_true] at h
    exact ⟨h.1, condsB_iff h.2⟩

def nilOk : AVal → Bool
  | .ptr .. => true
  | .cptr .. => true
  | .func (.func _) _ _ => true
  | _ => false

def isIfc : AK → Bool
  | .ifc => true
  | _ => false

section
variable {P : Program} {G : Nat → Option Obj} {Q : AExit → Env → AHeap → Prop} {r : List (AOp × List AOp)} {e : Env} {h : AHeap} {gd : Option (Nat × Bool)} {g : Bool} {d : Nat} {p : Prop} {v : AVal} {chk : List AOp}

/-! ### codes -/
section
variable {l : List Frame}
theorem w_skip (hn : Run P G Q l .normal e h) : awp P G .skip (Run P G Q l) e h := hn
theorem w_ops {xs : List (AOp × List AOp)} (hn : aops P G (Run P G Q l) xs e h) : awp P G (.ops xs) (Run P G Q l) e h := hn
theorem w_seq {a b : ACode} (hn : awp P G a (Run P G Q (.code b :: l)) e h) : awp P G (.seq a b) (Run P G Q l) e h := by
  rw [run_code] at hn; exact hn
theorem w_block {id : Nat} {a : ACode} (hn : awp P G a (Run P G Q (.block id :: l)) e h) : awp P G (.block id a) (Run P G Q l) e h := by
  rw [run_block] at hn; exact hn
theorem w_exit {id : Nat} {l' : List Frame} (hl : leave id l = some l') (hn : Run P G Q l' .normal e h) : awp P G (.exit id) (Run P G Q l) e h := run_exit hl hn
theorem w_ret (hn : Q .ret e h) : awp P G .ret (Run P G Q l) e h := run_ret hn
theorem w_cond {c : Operand} {a b : ACode} {x : Bool} (hc : look e c = some (true, .bool x)) (ht : x = true → awp P G a (Run P G Q l) e h) (hf : x = false → awp P G b (Run P G Q l) e h) : awp P G (.cond c a b) (Run P G Q l) e h := by
  simp only [awp, hc]
  exact ⟨trivial, ht, hf⟩
theorem w_cond_t {c : Operand} {a b : ACode} {x : Bool} (hc : look e c = some (true, .bool x)) (hx : x = true) (ht : awp P G a (Run P G Q l) e h) : awp P G (.cond c a b) (Run P G Q l) e h :=
  w_cond hc (fun _ => ht) (fun hf => by rw [hx] at hf; cases hf)
theorem w_cond_f {c : Operand} {a b : ACode} {x : Bool} (hc : look e c = some (true, .bool x)) (hx : x = false) (hf : awp P G b (Run P G Q l) e h) : awp P G (.cond c a b) (Run P G Q l) e h :=
  w_cond hc (fun ht => by rw [hx] at ht; cases ht) (fun _ => hf)
theorem w_loop {a : ACode} (I : Env → AHeap → Nat → Prop) (e0 : Env) (n : Nat) (hle : EnvLe e0 e) (hI : I e0 h n) (hr : ∀ e h n, I e h n → awp P G a (Run P G Q (.loop I n :: l)) e h) : awp P G (.loop a) (Run P G Q l) e h :=
  ⟨I, ⟨e0, h, n, hle, .inl rfl, hI⟩, fun e h n hi => by have := hr e h n hi; rw [run_loop] at this; exact this⟩
theorem w_loops {a : ACode} (I : Env → AHeap → Nat → Prop) (e0 : Env) (h0 : AHeap) (n : Nat) (hle : EnvLe e0 e) (hs : Sub h0 h) (hI : I e0 h0 n) (hr : ∀ e h n, I e h n → awp P G a (Run P G Q (.loop I n :: l)) e h) : awp P G (.loop a) (Run P G Q l) e h :=
  ⟨I, ⟨e0, h0, n, hle, .inr hs, hI⟩, fun e h n hi => by have := hr e h n hi; rw [run_loop] at this; exact this⟩

theorem x_n {b : ACode} (hn : awp P G b (Run P G Q l) e h) : Run P G Q (.code b :: l) .normal e h := hn
theorem b_n {id : Nat} (hn : Run P G Q l .normal e h) : Run P G Q (.block id :: l) .normal e h := hn
theorem l_n {I : Env → AHeap → Nat → Prop} {n : Nat} (e0 : Env) (m : Nat) (hm : m < n) (he : EnvLe e0 e) (hI : I e0 h m) : Run P G Q (.loop I n :: l) .normal e h := ⟨e0, h, m, hm, he, .inl rfl, hI⟩
theorem l_ns {I : Env → AHeap → Nat → Prop} {n : Nat} (e0 : Env) (h0 : AHeap) (m : Nat) (hm : m < n) (he : EnvLe e0 e) (hs : Sub h0 h) (hI : I e0 h0 m) : Run P G Q (.loop I n :: l) .normal e h := ⟨e0, h0, m, hm, he, .inr hs, hI⟩
theorem x_p (hn : Q (.panic v) e h) : Run P G Q l (.panic v) e h := run_panic hn
theorem x_0 (hn : Q .normal e h) : Run P G Q [] .normal e h := hn
end

theorem z_1 {t : Nat} {Post : AOut → AHeap → Prop} (ht : e.get t = some (true, v)) (hn : Post (.ret v) h) : BodyQ P [.tmp t] Post .ret e h := by
  simp only [BodyQ, aret, ht, tupleOf]; exact ⟨trivial, hn⟩
theorem z_2 {t u : Nat} {v' : AVal} {Post : AOut → AHeap → Prop} (ht : e.get t = some (true, v)) (hu : e.get u = some (true, v')) (hn : Post (.ret (.tuple [v, v'])) h) : BodyQ P [.tmp t, .tmp u] Post .ret e h := by
  simp only [BodyQ, aret, ht, hu, tupleOf]; exact ⟨trivial, trivial, hn⟩
theorem z_3 {t u x : Nat} {v' v'' : AVal} {Post : AOut → AHeap → Prop} (ht : e.get t = some (true, v)) (hu : e.get u = some (true, v')) (hx : e.get x = some (true, v'')) (hn : Post (.ret (.tuple [v, v', v''])) h) : BodyQ P [.tmp t, .tmp u, .tmp x] Post .ret e h := by
  simp only [BodyQ, aret, ht, hu, hx, tupleOf]; exact ⟨trivial, trivial, trivial, hn⟩
theorem z_ct {a T t b off T' : Nat} {i : TI} {cs : List AVal} {v' : AVal} {Post : AOut → AHeap → Prop} (ha : e.get a = some (true, .ptr b off)) (hT : tyi P T = some i) (hb : h.get b = some (.box T' cs)) (ho : Nat.ble off cs.length = true) (hl : aload i (cs.drop off) = some v)
    (ht : e.get t = some (true, v')) (hn : Post (.ret (.tuple [v, v'])) h) : BodyQ P [.cell a T, .tmp t] Post .ret e h := by
  simp only [BodyQ, aret, ha, hT, ACellsAt, hb, if_pos (Nat.le_of_ble_eq_true ho), hl, ht, tupleOf]; exact ⟨trivial, trivial, hn⟩
theorem z_c {a T b off T' : Nat} {i : TI} {cs : List AVal} {Post : AOut → AHeap → Prop} (ha : e.get a = some (true, .ptr b off)) (hT : tyi P T = some i) (hb : h.get b = some (.box T' cs)) (ho : Nat.ble off cs.length = true) (hl : aload i (cs.drop off) = some v)
    (hn : Post (.ret v) h) : BodyQ P [.cell a T] Post .ret e h := by
  simp only [BodyQ, aret, ha, hT, ACellsAt, hb, if_pos (Nat.le_of_ble_eq_true ho), hl, tupleOf]; exact ⟨trivial, hn⟩
theorem z_0r {Post : AOut → AHeap → Prop} (hn : Post (.ret (.tuple [])) h) : BodyQ P [] Post .ret e h := hn
theorem z_0n {Post : AOut → AHeap → Prop} (hn : Post (.ret (.tuple [])) h) : BodyQ P [] Post .normal e h := hn
theorem z_p {rs : List ResultVar} {Post : AOut → AHeap → Prop} (hn : Post (.panic v) h) : BodyQ P rs Post (.panic v) e h := hn

/-! ### quiet operations -/
theorem s_nil (hn : Q .normal e h) : aops P G Q [] e h := hn

theorem s_quiet {op : Op} (hg : gcond e gd = some g) (hq : quietOp op = true) (ha : aread P h e g op = some (p, v)) (hp : p) (hn : aops P G Q r ((d, g, v) :: e) h) : aops P G Q ((⟨some d, op, gd⟩, []) :: r) e h := by
  simp only [aops, aop1, hg, hq, cond_true, recheck, true_and]
  exact .inl ⟨p, v, ha, hp, hn⟩

theorem aread_of {op : Op} (hnp : ∀ c a b, op ≠ .pick c a b) (ha : ard P h (lookv e) op = some (p, v)) : aread P h e g op = some (g = true → condsL e op.operands.toList ∧ p, v) := by
  unfold aread
  split
  · exact absurd rfl (hnp _ _ _)
  · rw [ha]

theorem s_ard {op : Op} (hg : gcond e gd = some g) (hq : quietOp op = true) (hnp : ∀ c a b, op ≠ .pick c a b) (ha : ard P h (lookv e) op = some (p, v)) (hc : g = true → condsB e op.operands.toList = true) (hp : g = true → p)
    (hn : aops P G Q r ((d, g, v) :: e) h) : aops P G Q ((⟨some d, op, gd⟩, []) :: r) e h :=
  s_quiet hg hq (aread_of hnp ha) (fun ht => ⟨condsB_iff (hc ht), hp ht⟩) hn

theorem lookv_of {x : Operand} {c : Bool} (hx : look e x = some (c, v)) : lookv e x = some v := by unfold lookv; rw [hx]
theorem lookc_of {x : Operand} {c : Bool} (hx : look e x = some (c, v)) : lookc e x = c := by unfold lookc; rw [hx]

theorem c1 {x : Operand} {c : Bool} (hx : look e x = some (c, v)) (hc : g = true → c = true) : g = true → condsB e [x] = true := fun ht => by simp [condsB, lookc_of hx, hc ht]
theorem c2 {x y : Operand} {c c' : Bool} {v' : AVal} (hx : look e x = some (c, v)) (hy : look e y = some (c', v')) (hc : g = true → (c && c') = true) : g = true → condsB e [x, y] = true := fun ht => by
  have := hc ht
  simp only [Bool.and_eq_true] at this
  simp [condsB, lookc_of hx, lookc_of hy, this.1, this.2]

theorem s_move {x : Operand} {c : Bool} (hg : gcond e gd = some g) (hx : look e x = some (c, v)) (hc : g = true → c = true) (hn : aops P G Q r ((d, g, v) :: e) h) : aops P G Q ((⟨some d, .move x, gd⟩, []) :: r) e h :=
  s_ard hg rfl (by simp) (by simp only [ard, lookv_of hx]; rfl) (c1 hx hc) (fun _ => trivial) hn
theorem s_assign {x : Operand} {c : Bool} (hg : gcond e gd = some g) (hx : look e x = some (c, v)) (hc : g = true → c = true) (hn : aops P G Q r ((d, g, v) :: e) h) : aops P G Q ((⟨some d, .assign x, gd⟩, []) :: r) e h :=
  s_ard hg rfl (by simp) (by simp only [ard, lookv_of hx]; rfl) (c1 hx hc) (fun _ => trivial) hn

theorem s_loadp {T b off T' : Nat} {i : TI} {x : Operand} {c : Bool} {cs : List AVal} (hg : gcond e gd = some g) (ht : tyi P T = some i) (hx : look e x = some (c, .ptr b off)) (hb : h.get b = some (.box T' cs)) (ho : Nat.ble off cs.length = true)
    (hl : aload i (cs.drop off) = some v) (hc : g = true → c = true) (hn : aops P G Q r ((d, g, v) :: e) h) : aops P G Q ((⟨some d, .load T x, gd⟩, []) :: r) e h :=
  s_ard hg rfl (by simp) (by simp only [ard, ht, lookv_of hx, ACellsAt, hb, if_pos (Nat.le_of_ble_eq_true ho), hl]; rfl) (c1 hx hc) (fun _ => trivial) hn
theorem s_loadc {T : Nat} {i : TI} {x : Operand} {c : Bool} {cs : List AVal} (hg : gcond e gd = some g) (ht : tyi P T = some i) (hx : look e x = some (c, .cptr cs))
    (hl : aload i cs = some v) (hc : g = true → c = true) (hn : aops P G Q r ((d, g, v) :: e) h) : aops P G Q ((⟨some d, .load T x, gd⟩, []) :: r) e h :=
  s_ard hg rfl (by simp) (by simp only [ard, ht, lookv_of hx, ACellsAt, hl]; rfl) (c1 hx hc) (fun _ => trivial) hn

theorem s_nilCheck {x : Operand} {c : Bool} (hg : gcond e gd = some g) (hx : look e x = some (c, v)) (hv : nilOk v = true) (hc : g = true → c = true) (hn : aops P G Q r ((d, g, v) :: e) h) : aops P G Q ((⟨some d, .nilCheck x, gd⟩, []) :: r) e h :=
  s_ard (p := True) hg rfl (by simp) (by
    simp only [ard, lookv_of hx]
    cases v with
    | func f a c => cases f with
      | func f => rfl
      | _ => cases hv
    | ptr => rfl
    | cptr => rfl
    | _ => cases hv) (c1 hx hc) (fun _ => trivial) hn

theorem s_bin {op : BinOp} {T T' : Nat} {x y : Operand} {c c' : Bool} {v1 v2 : AVal} (hg : gcond e gd = some g) (hx : look e x = some (c, v1)) (hy : look e y = some (c', v2)) (ho : abin P op T v1 v2 = some (p, v)) (hc : g = true → (c && c') = true) (hp : g = true → p)
    (hn : aops P G Q r ((d, g, v) :: e) h) : aops P G Q ((⟨some d, .binOp op T x y T', gd⟩, []) :: r) e h :=
  s_ard hg rfl (by simp) (by simp only [ard, lookv_of hx, lookv_of hy, ho]) (c2 hx hy hc) hp hn

theorem wrap64 {n : Int} (h : -9223372036854775808 ≤ n ∧ n ≤ 9223372036854775807) : IntKind.wrap .i64 n = n := by
  obtain ⟨h1, h2⟩ := h
  simp [IntKind.wrap, IntKind.signed, IntKind.bits, Int.bmod]
  omega

theorem s_add {T T' : Nat} {x y : Operand} {c c' : Bool} {a b : Int} (hg : gcond e gd = some g) (hx : look e x = some (c, .int .i64 a)) (hy : look e y = some (c', .int .i64 b)) (hw : -9223372036854775808 ≤ a + b ∧ a + b ≤ 9223372036854775807) (hc : g = true → (c && c') = true)
    (hn : aops P G Q r ((d, g, .int .i64 (a + b)) :: e) h) : aops P G Q ((⟨some d, .binOp .add T x y T', gd⟩, []) :: r) e h :=
  s_bin (p := True) hg hx hy (by simp only [abin, aint, wrap64 hw]; rfl) hc (fun _ => trivial) hn
theorem s_sub {T T' : Nat} {x y : Operand} {c c' : Bool} {a b : Int} (hg : gcond e gd = some g) (hx : look e x = some (c, .int .i64 a)) (hy : look e y = some (c', .int .i64 b)) (hw : -9223372036854775808 ≤ a - b ∧ a - b ≤ 9223372036854775807) (hc : g = true → (c && c') = true)
    (hn : aops P G Q r ((d, g, .int .i64 (a - b)) :: e) h) : aops P G Q ((⟨some d, .binOp .sub T x y T', gd⟩, []) :: r) e h :=
  s_bin (p := True) hg hx hy (by simp only [abin, aint, wrap64 hw]; rfl) hc (fun _ => trivial) hn
theorem s_mul {T T' : Nat} {x y : Operand} {c c' : Bool} {a b : Int} (hg : gcond e gd = some g) (hx : look e x = some (c, .int .i64 a)) (hy : look e y = some (c', .int .i64 b)) (hw : -9223372036854775808 ≤ a * b ∧ a * b ≤ 9223372036854775807) (hc : g = true → (c && c') = true)
    (hn : aops P G Q r ((d, g, .int .i64 (a * b)) :: e) h) : aops P G Q ((⟨some d, .binOp .mul T x y T', gd⟩, []) :: r) e h :=
  s_bin (p := True) hg hx hy (by simp only [abin, aint, wrap64 hw]; rfl) hc (fun _ => trivial) hn

theorem s_sub8 {T T' : Nat} {x y : Operand} {c c' : Bool} {a b : Int} (hg : gcond e gd = some g) (hx : look e x = some (c, .int .u8 a)) (hy : look e y = some (c', .int .u8 b)) (hw : 0 ≤ a - b ∧ a - b ≤ 255) (hc : g = true → (c && c') = true)
    (hn : aops P G Q r ((d, g, .int .u8 (a - b)) :: e) h) : aops P G Q ((⟨some d, .binOp .sub T x y T', gd⟩, []) :: r) e h :=
  s_bin (p := True) hg hx hy (by
    have e : IntKind.wrap .u8 (a - b) = a - b := by
      simp [IntKind.wrap, IntKind.signed, IntKind.bits]; omega
    simp only [abin, aint, e]; rfl) hc (fun _ => trivial) hn

theorem s_bin_bool {op : BinOp} {T T' : Nat} {x y : Operand} {c c' : Bool} {a b : Bool} {sz by' : Nat} {z : Option (List AVal)} (hg : gcond e gd = some g) (ht : tyi P T = some ⟨sz, by', .bool, z⟩) (hx : look e x = some (c, .bool a)) (hy : look e y = some (c', .bool b))
    (ho : (match op with | .eql => some (.bool (a == b)) | .neq => some (.bool !(a == b)) | _ => none) = some v) (hc : g = true → (c && c') = true)
    (hn : aops P G Q r ((d, g, v) :: e) h) : aops P G Q ((⟨some d, .binOp op T x y T', gd⟩, []) :: r) e h :=
  s_bin (p := True) hg hx hy (by cases op <;> cases ho <;> simp only [abin, ht]) hc (fun _ => trivial) hn

theorem s_un {op : UnOp} {T : Nat} {x : Operand} {c : Bool} {v1 : AVal} (hg : gcond e gd = some g) (hx : look e x = some (c, v1)) (ho : aun op v1 = some (p, v)) (hc : g = true → c = true) (hp : g = true → p)
    (hn : aops P G Q r ((d, g, v) :: e) h) : aops P G Q ((⟨some d, .unOp op T x, gd⟩, []) :: r) e h :=
  s_ard hg rfl (by simp) (by simp only [ard, lookv_of hx, ho]) (c1 hx hc) hp hn
theorem s_neg {T : Nat} {x : Operand} {c : Bool} {a : Int} (hg : gcond e gd = some g) (hx : look e x = some (c, .int .i64 a)) (hw : -9223372036854775807 ≤ a ∧ a ≤ 9223372036854775807) (hc : g = true → c = true)
    (hn : aops P G Q r ((d, g, .int .i64 (-a)) :: e) h) : aops P G Q ((⟨some d, .unOp .neg T x, gd⟩, []) :: r) e h :=
  s_un (p := True) hg hx (by simp only [aun]; rw [show (0 : Int) - a = -a by omega, wrap64 (by omega)]) hc (fun _ => trivial) hn

theorem s_conv_int {T T' sz by' : Nat} {x : Operand} {c : Bool} {k k' : IntKind} {n : Int} {i : TI} {z : Option (List AVal)} (hg : gcond e gd = some g) (ht : tyi P T = some i) (ht' : tyi P T' = some ⟨sz, by', .int k, z⟩) (hx : look e x = some (c, .int k' n)) (hc : g = true → c = true)
    (hn : aops P G Q r ((d, g, .int k (k.wrap n)) :: e) h) : aops P G Q ((⟨some d, .convert T T' x, gd⟩, []) :: r) e h :=
  s_ard (p := True) hg rfl (by simp) (by simp only [ard, lookv_of hx, aconv, ht, ht']) (c1 hx hc) (fun _ => trivial) hn
theorem s_conv64 {T T' sz by' : Nat} {x : Operand} {c : Bool} {k' : IntKind} {n : Int} {i : TI} {z : Option (List AVal)} (hg : gcond e gd = some g) (ht : tyi P T = some i) (ht' : tyi P T' = some ⟨sz, by', .int .i64, z⟩) (hx : look e x = some (c, .int k' n)) (hw : -9223372036854775808 ≤ n ∧ n ≤ 9223372036854775807) (hc : g = true → c = true)
    (hn : aops P G Q r ((d, g, .int .i64 n) :: e) h) : aops P G Q ((⟨some d, .convert T T' x, gd⟩, []) :: r) e h := by
  rw [← wrap64 hw] at hn
  exact s_conv_int hg ht ht' hx hc hn
theorem s_conv_bytes {T T' E sz by' sz' by'' sz3 by3 sz4 : Nat} {x : Operand} {c : Bool} {elems : List (List AVal)} {tg : Tag} {s : List UInt8} {z z' z3 : Option (List AVal)} (hg : gcond e gd = some g) (ht : tyi P T = some ⟨sz', by'', .sl E, z'⟩) (hE : tyi P E = some ⟨sz3, by3, .int .u8, z3⟩) (ht' : tyi P T' = some ⟨sz, by', .str, z⟩)
    (hx : look e x = some (c, .sl sz4 elems tg)) (hz : sz4 = 1 ∨ elems = []) (hb : abytes elems = some s) (hc : g = true → c = true)
    (hn : aops P G Q r ((d, g, .str s) :: e) h) : aops P G Q ((⟨some d, .convert T T' x, gd⟩, []) :: r) e h :=
  s_ard (p := True) hg rfl (by simp) (by simp only [ard, lookv_of hx, aconv, ht, ht', hE, if_pos hz, hb]; rfl) (c1 hx hc) (fun _ => trivial) hn

theorem s_iface {T : Nat} {i : TI} {x : Operand} {c : Bool} (hg : gcond e gd = some g) (ht : tyi P T = some i) (hk : isIfc i.kind = false) (hx : look e x = some (c, v)) (hc : g = true → c = true)
    (hn : aops P G Q r ((d, g, .iface T v) :: e) h) : aops P G Q ((⟨some d, .makeInterface T x, gd⟩, []) :: r) e h :=
  s_ard (p := True) hg rfl (by simp) (by
    obtain ⟨sz, by', k, z⟩ := i
    simp only [ard, lookv_of hx, ht]
    cases k <;> first | rfl | cases hk) (c1 hx hc) (fun _ => trivial) hn

theorem s_makeFunc {fn : Fn} {first cap : Array Operand} {a c : List AVal} (hg : gcond e gd = some g) (ha : avals (lookv e) first.toList = some a) (hb : avals (lookv e) cap.toList = some c) (hc : g = true → condsB e (Op.makeFunc fn first cap).operands.toList = true)
    (hn : aops P G Q r ((d, g, .func fn a c) :: e) h) : aops P G Q ((⟨some d, .makeFunc fn first cap, gd⟩, []) :: r) e h :=
  s_ard (p := True) hg rfl (by simp) (by simp only [ard, ha, hb]) hc (fun _ => trivial) hn

theorem s_slice_s {T sz by' : Nat} {x : Operand} {lo hi : Option Operand} {c : Bool} {s : List UInt8} {l u : Option Int} {z : Option (List AVal)} (hg : gcond e gd = some g) (ht : tyi P T = some ⟨sz, by', .str, z⟩) (hx : look e x = some (c, .str s)) (hl : aidx (lo.bind (lookv e)) = some l) (hu : aidx (hi.bind (lookv e)) = some u)
    (hz : ((!lo.isSome || l.isSome) && (!hi.isSome || u.isSome)) = true) (hc : g = true → condsB e (Op.slice T x lo hi none).operands.toList = true) (hp : g = true → 0 ≤ l.getD 0 ∧ l.getD 0 ≤ u.getD s.length ∧ u.getD s.length ≤ s.length)
    (hn : aops P G Q r ((d, g, .str ((s.take (u.getD s.length).toNat).drop (l.getD 0).toNat)) :: e) h) : aops P G Q ((⟨some d, .slice T x lo hi none, gd⟩, []) :: r) e h :=
  s_ard (p := 0 ≤ l.getD 0 ∧ l.getD 0 ≤ u.getD s.length ∧ u.getD s.length ≤ s.length) hg rfl (by simp) (by
    simp only [ard, lookv_of hx, hl, hu]
    rw [if_pos (by simp only [Bool.and_eq_true, Bool.or_eq_true, Bool.not_eq_true'] at hz; exact ⟨fun h1 => hz.1.resolve_left (by simp [h1]), fun h1 => hz.2.resolve_left (by simp [h1])⟩)]
    simp only [aslice, ht]) hc hp hn
theorem s_slice_l {T sz by' E sz' : Nat} {i : TI} {x : Operand} {lo hi : Option Operand} {c : Bool} {es : List (List AVal)} {tg : Tag} {l u : Option Int} {z : Option (List AVal)} (hg : gcond e gd = some g) (ht : tyi P T = some ⟨sz, by', .sl E, z⟩) (hE : tyi P E = some i) (hx : look e x = some (c, .sl sz' es tg)) (hs : i.size = sz' ∨ es = []) (hl : aidx (lo.bind (lookv e)) = some l) (hu : aidx (hi.bind (lookv e)) = some u)
    (hz : ((!lo.isSome || l.isSome) && (!hi.isSome || u.isSome)) = true) (hc : g = true → condsB e (Op.slice T x lo hi none).operands.toList = true) (hp : g = true → 0 ≤ l.getD 0 ∧ l.getD 0 ≤ u.getD es.length ∧ u.getD es.length ≤ es.length)
    (hn : aops P G Q r ((d, g, .sl sz' ((es.take (u.getD es.length).toNat).drop (l.getD 0).toNat) .frz) :: e) h) : aops P G Q ((⟨some d, .slice T x lo hi none, gd⟩, []) :: r) e h :=
  s_ard (p := 0 ≤ l.getD 0 ∧ l.getD 0 ≤ u.getD es.length ∧ u.getD es.length ≤ es.length) hg rfl (by simp) (by
    simp only [ard, lookv_of hx, hl, hu]
    rw [if_pos (by simp only [Bool.and_eq_true, Bool.or_eq_true, Bool.not_eq_true'] at hz; exact ⟨fun h1 => hz.1.resolve_left (by simp [h1]), fun h1 => hz.2.resolve_left (by simp [h1])⟩)]
    simp only [aslice, ht, hE, if_pos hs]) hc hp hn

theorem s_fap {T sz by' f b o ft off size : Nat} {x : Operand} {c : Bool} {fs : List (TypeId × Nat × Nat)} {z : Option (List AVal)} (hg : gcond e gd = some g) (ht : tyi P T = some ⟨sz, by', .st fs, z⟩) (hx : look e x = some (c, .ptr b o)) (hf : fs[f]? = some (ft, off, size)) (hs : Nat.beq size 0 = false) (hc : g = true → c = true)
    (hn : aops P G Q r ((d, g, .ptr b (o + off)) :: e) h) : aops P G Q ((⟨some d, .fieldAddr T x f, gd⟩, []) :: r) e h :=
  s_ard (p := True) hg rfl (by simp) (by
    have : size ≠ 0 := fun h => by subst h; cases hs
    simp only [ard, ht, lookv_of hx, hf, if_pos this]) (c1 hx hc) (fun _ => trivial) hn
theorem s_fac {T sz by' f ft off size : Nat} {x : Operand} {c : Bool} {cs : List AVal} {fs : List (TypeId × Nat × Nat)} {z : Option (List AVal)} (hg : gcond e gd = some g) (ht : tyi P T = some ⟨sz, by', .st fs, z⟩) (hx : look e x = some (c, .cptr cs)) (hf : fs[f]? = some (ft, off, size)) (hs : Nat.beq size 0 = false) (ho : Nat.ble off cs.length = true) (hc : g = true → c = true)
    (hn : aops P G Q r ((d, g, .cptr (cs.drop off)) :: e) h) : aops P G Q ((⟨some d, .fieldAddr T x f, gd⟩, []) :: r) e h :=
  s_ard (p := True) hg rfl (by simp) (by
    have : size ≠ 0 := fun h => by subst h; cases hs
    simp only [ard, ht, lookv_of hx, hf, if_pos (And.intro this (Nat.le_of_ble_eq_true ho))]) (c1 hx hc) (fun _ => trivial) hn
theorem s_field {T sz by' f ft off size : Nat} {x : Operand} {c : Bool} {cs : List AVal} {fs : List (TypeId × Nat × Nat)} {z : Option (List AVal)} {i : TI} (hg : gcond e gd = some g) (ht : tyi P T = some ⟨sz, by', .st fs, z⟩) (hx : look e x = some (c, .agg cs)) (hf : fs[f]? = some (ft, off, size)) (hi : tyi P ft = some i) (hv : apart i cs off = some v) (hc : g = true → c = true)
    (hn : aops P G Q r ((d, g, v) :: e) h) : aops P G Q ((⟨some d, .field T x f, gd⟩, []) :: r) e h :=
  s_ard (p := True) hg rfl (by simp) (by simp only [ard, ht, lookv_of hx, hf, hi, hv]; rfl) (c1 hx hc) (fun _ => trivial) hn

theorem s_ia {T sz by' E sz' : Nat} {i : TI} {x y : Operand} {c c' : Bool} {es : List (List AVal)} {row : List AVal} {tg : Tag} {k : IntKind} {n : Int} {z : Option (List AVal)} (hg : gcond e gd = some g) (ht : tyi P T = some ⟨sz, by', .sl E, z⟩) (hE : tyi P E = some i) (hx : look e x = some (c, .sl sz' es tg)) (hy : look e y = some (c', .int k n)) (hs : Nat.beq i.size sz' = true) (hc : g = true → (c && c') = true)
    (h0 : 0 ≤ n) (hrow : es[n.toNat]? = some row) (hn : aops P G Q r ((d, g, .cptr row) :: e) h) : aops P G Q ((⟨some d, .indexAddr T x y, gd⟩, []) :: r) e h :=
  s_ard (p := 0 ≤ n ∧ n < es.length) hg rfl (by simp) (by
    simp only [ard, ht, lookv_of hx, lookv_of hy, hE, if_pos (Nat.eq_of_beq_eq_true hs)]
    rw [List.getD_eq_getElem?_getD, hrow]; rfl) (c2 hx hy hc) (fun _ => ⟨h0, by have := (List.getElem?_eq_some_iff.1 hrow).1; omega⟩) hn

theorem s_ixs {T sz by' : Nat} {x y : Operand} {c c' : Bool} {s : List UInt8} {k : IntKind} {n : Int} {z : Option (List AVal)} (hg : gcond e gd = some g) (ht : tyi P T = some ⟨sz, by', .str, z⟩) (hx : look e x = some (c, .str s)) (hy : look e y = some (c', .int k n)) (hc : g = true → (c && c') = true)
    (hp : g = true → 0 ≤ n ∧ n < s.length) (hn : aops P G Q r ((d, g, .int .u8 (s.getD n.toNat 0).toNat) :: e) h) : aops P G Q ((⟨some d, .index T x y, gd⟩, []) :: r) e h :=
  s_ard hg rfl (by simp) (by simp only [ard, ht, lookv_of hx, lookv_of hy]) (c2 hx hy hc) hp hn
theorem s_ixa {T sz by' len E : Nat} {x y : Operand} {c c' : Bool} {cs : List AVal} {k : IntKind} {n : Int} {i : TI} {z : Option (List AVal)} (hg : gcond e gd = some g) (ht : tyi P T = some ⟨sz, by', .arr len E, z⟩) (hi : tyi P E = some i) (hx : look e x = some (c, .agg cs)) (hy : look e y = some (c', .int k n)) (hv : apart i cs (n.toNat * i.size) = some v) (hc : g = true → (c && c') = true)
    (hp : g = true → 0 ≤ n ∧ n < len) (hn : aops P G Q r ((d, g, v) :: e) h) : aops P G Q ((⟨some d, .index T x y, gd⟩, []) :: r) e h :=
  s_ard hg rfl (by simp) (by simp only [ard, ht, lookv_of hx, lookv_of hy, hi, hv]; rfl) (c2 hx hy hc) hp hn

theorem s_extract {x : Operand} {i : Nat} {c : Bool} {vs : List AVal} (hg : gcond e gd = some g) (hx : look e x = some (c, .tuple vs)) (hv : vs[i]? = some v) (hc : g = true → c = true)
    (hn : aops P G Q r ((d, g, v) :: e) h) : aops P G Q ((⟨some d, .extract x i, gd⟩, []) :: r) e h :=
  s_ard (p := True) hg rfl (by simp) (by simp only [ard, lookv_of hx, hv]; rfl) (c1 hx hc) (fun _ => trivial) hn

theorem s_len_l {x : Operand} {T sz by' E sz' : Nat} {c : Bool} {es : List (List AVal)} {tg : Tag} {z : Option (List AVal)} (hg : gcond e gd = some g) (hx : look e x = some (c, .sl sz' es tg)) (ht : tyi P T = some ⟨sz, by', .sl E, z⟩) (hc : g = true → c = true)
    (hn : aops P G Q r ((d, g, .int .i64 es.length) :: e) h) : aops P G Q ((⟨some d, .call ⟨.builtin .len, #[x], #[T]⟩, gd⟩, []) :: r) e h :=
  s_ard (p := True) hg rfl (by simp) (by simp only [ard, lookv_of hx, ht]) (c1 hx hc) (fun _ => trivial) hn
theorem s_len_s {x : Operand} {T sz by' : Nat} {c : Bool} {s : List UInt8} {z : Option (List AVal)} (hg : gcond e gd = some g) (hx : look e x = some (c, .str s)) (ht : tyi P T = some ⟨sz, by', .str, z⟩) (hc : g = true → c = true)
    (hn : aops P G Q r ((d, g, .int .i64 s.length) :: e) h) : aops P G Q ((⟨some d, .call ⟨.builtin .len, #[x], #[T]⟩, gd⟩, []) :: r) e h :=
  s_ard (p := True) hg rfl (by simp) (by simp only [ard, lookv_of hx, ht]) (c1 hx hc) (fun _ => trivial) hn
theorem s_min {x y : Operand} {Ts : Array TypeId} {c c' : Bool} {k : IntKind} {a b : Int} (hg : gcond e gd = some g) (hx : look e x = some (c, .int k a)) (hy : look e y = some (c', .int k b)) (hc : g = true → (c && c') = true)
    (hn : aops P G Q r ((d, g, .int k (min a b)) :: e) h) : aops P G Q ((⟨some d, .call ⟨.builtin .min, #[x, y], Ts⟩, gd⟩, []) :: r) e h :=
  s_ard (p := True) hg rfl (by simp) (by simp only [ard, lookv_of hx, lookv_of hy, if_true]) (c2 hx hy hc) (fun _ => trivial) hn
theorem s_max {x y : Operand} {Ts : Array TypeId} {c c' : Bool} {k : IntKind} {a b : Int} (hg : gcond e gd = some g) (hx : look e x = some (c, .int k a)) (hy : look e y = some (c', .int k b)) (hc : g = true → (c && c') = true)
    (hn : aops P G Q r ((d, g, .int k (max a b)) :: e) h) : aops P G Q ((⟨some d, .call ⟨.builtin .max, #[x, y], Ts⟩, gd⟩, []) :: r) e h :=
  s_ard (p := True) hg rfl (by simp) (by simp only [ard, lookv_of hx, lookv_of hy, if_true]) (c2 hx hy hc) (fun _ => trivial) hn

theorem s_build {T sz by' : Nat} {parts : Array (Nat × Operand)} {ps : List (Nat × AVal)} {cs zz : List AVal} {fs : List (TypeId × Nat × Nat)} (hg : gcond e gd = some g) (ht : tyi P T = some ⟨sz, by', .st fs, some zz⟩) (hps : aparts (lookv e) parts.toList = some ps) (hf : afill fs zz ps = some cs) (hc : g = true → condsB e (Op.build T parts).operands.toList = true)
    (hn : aops P G Q r ((d, g, .agg cs) :: e) h) : aops P G Q ((⟨some d, .build T parts, gd⟩, []) :: r) e h :=
  s_ard (p := True) hg rfl (by simp) (by simp only [ard, ht, hps, hf]; rfl) hc (fun _ => trivial) hn
theorem s_bsl {T sz by' E sz' by'' len : Nat} {k : AK} {parts : Array (Nat × Operand)} {ps : List (Nat × AVal)} {es : List (List AVal)} {zz : List AVal} {z' : Option (List AVal)} (hg : gcond e gd = some g) (ht : tyi P T = some ⟨sz, by', .sl E, z'⟩) (hE : tyi P E = some ⟨sz', by'', k, some zz⟩) (hps : aparts (lookv e) parts.toList = some ps)
    (hl : (Nat.beq ps.length len && Nat.ble (len * sz') 16777216 && Nat.beq zz.length sz' && Nat.blt 0 sz') = true) (hf : aelems sz' 0 ps = some es) (hc : g = true → condsB e (Op.buildSlice T len parts).operands.toList = true)
    (hn : aops P G Q r ((d, g, .sl sz' es .full) :: e) h) : aops P G Q ((⟨some d, .buildSlice T len parts, gd⟩, []) :: r) e h :=
  s_ard (p := True) hg rfl (by simp) (by
    simp only [Bool.and_eq_true] at hl
    simp only [ard, ht, hE, hps]
    rw [if_pos ⟨Nat.eq_of_beq_eq_true hl.1.1.1, Nat.le_of_ble_eq_true hl.1.1.2, Nat.eq_of_beq_eq_true hl.1.2, Nat.le_of_ble_eq_true hl.2⟩, hf]; rfl) hc (fun _ => trivial) hn

theorem s_pick {x a b : Operand} {cc ca cb y z w : Bool} (hg : gcond e gd = some g) (hx : look e x = some (cc, .bool y)) (ha : look e a = some (ca, .bool z)) (hb : look e b = some (cb, .bool w)) (hc : g = true → cc = true ∧ (y = true → ca = true) ∧ (y = false → cb = true))
    (hn : aops P G Q r ((d, g, .bool (bif y then z else w)) :: e) h) : aops P G Q ((⟨some d, .pick x a b, gd⟩, []) :: r) e h :=
  s_quiet hg rfl (by simp only [aread, hx, ha, hb]) hc hn
theorem s_pick_t {x a b : Operand} {cb y z w : Bool} (hg : gcond e gd = some g) (hx : look e x = some (true, .bool y)) (hy : y = true) (ha : look e a = some (true, .bool z)) (hb : look e b = some (cb, .bool w))
    (hn : aops P G Q r ((d, g, .bool z) :: e) h) : aops P G Q ((⟨some d, .pick x a b, gd⟩, []) :: r) e h := by
  subst hy
  exact s_pick hg hx ha hb (fun _ => ⟨rfl, fun _ => rfl, fun h => by cases h⟩) hn
theorem s_pick_f {x a b : Operand} {ca y z w : Bool} (hg : gcond e gd = some g) (hx : look e x = some (true, .bool y)) (hy : y = false) (ha : look e a = some (ca, .bool z)) (hb : look e b = some (true, .bool w))
    (hn : aops P G Q r ((d, g, .bool w) :: e) h) : aops P G Q ((⟨some d, .pick x a b, gd⟩, []) :: r) e h := by
  subst hy
  exact s_pick hg hx ha hb (fun _ => ⟨rfl, by simp, fun _ => rfl⟩) hn

/-! ### guards -/
theorem g_t {op : Op} {t : Nat} {b want : Bool} {dd : Option Nat} (hd : e.get t = some (true, .bool b)) (hb : b = want) (hn : aops P G Q ((⟨dd, op, none⟩, chk) :: r) e h) : aops P G Q ((⟨dd, op, some (t, want)⟩, chk) :: r) e h := by
  have hg : gcond e (some (t, want)) = some true := by simp [gcond, hd, hb]
  simp only [aops, aop1, hg] at hn ⊢
  simpa [gcond] using hn
theorem g_f0 {op : Op} {t : Nat} {want : Bool} {dd : Option Nat} (hg : gcond e (some (t, want)) = some false) (hk : recheck P h (e.put dd false default) chk) (hn : aops P G Q r (e.put dd false default) h) : aops P G Q ((⟨dd, op, some (t, want)⟩, chk) :: r) e h := by
  simp only [aops, aop1, hg]
  cases hq : quietOp op with
  | true => simp only [cond_true]; exact .inr ⟨trivial, hk, hn⟩
  | false => exact ⟨fun hf => (by cases hf), fun _ => ⟨hk, hn⟩⟩
theorem g_f {op : Op} {t : Nat} {b want : Bool} {dd : Option Nat} (hd : e.get t = some (true, .bool b)) (hb : b = !want) (hk : recheck P h (e.put dd false default) chk) (hn : aops P G Q r (e.put dd false default) h) : aops P G Q ((⟨dd, op, some (t, want)⟩, chk) :: r) e h :=
  g_f0 (by simp [gcond, hd, hb]) hk hn
theorem g_u {op : Op} {t : Nat} {b want : Bool} {dd : Option Nat} (hd : e.get t = some (false, .bool b)) (hk : recheck P h (e.put dd false default) chk) (hn : aops P G Q r (e.put dd false default) h) : aops P G Q ((⟨dd, op, some (t, want)⟩, chk) :: r) e h :=
  g_f0 (by simp [gcond, hd]) hk hn
theorem g_split {op : Op} {t : Nat} {b want : Bool} {dd : Option Nat} (hd : e.get t = some (true, .bool b)) (ht : b = want → aops P G Q ((⟨dd, op, none⟩, chk) :: r) e h) (hf : b = !want → recheck P h (e.put dd false default) chk ∧ aops P G Q r (e.put dd false default) h) : aops P G Q ((⟨dd, op, some (t, want)⟩, chk) :: r) e h := by
  by_cases hb : b = want
  · exact g_t hd hb (ht hb)
  · have hb' : b = !want := by cases b <;> cases want <;> simp_all
    exact g_f hd hb' (hf hb').1 (hf hb').2

/-! ### effects -/
theorem s_eff {op : Op} {dd : Option Nat} (hq : quietOp op = false) (hc : condsB e op.operands.toList = true) (hx : aeff P G h (lookv e) (fun v h' => recheck P h' (e.put dd true v) chk ∧ aops P G Q r (e.put dd true v) h') (fun v h' => Q (.panic v) [] h') op) :
    aops P G Q ((⟨dd, op, none⟩, chk) :: r) e h := by
  simp only [aops, aop1, gcond, hq, cond_false]
  exact ⟨fun _ => ⟨condsB_iff hc, hx⟩, fun hf => by cases hf⟩

theorem s_alloc {T sz by' : Nat} {k : AK} {zz : List AVal} (ht : tyi P T = some ⟨sz, by', k, some zz⟩) (hn : ∀ b, h.next ≤ b → recheck P (h.new b (.box T zz)) ((d, true, .ptr b 0) :: e) chk ∧ aops P G Q r ((d, true, .ptr b 0) :: e) (h.new b (.box T zz))) : aops P G Q ((⟨some d, .alloc T, none⟩, chk) :: r) e h :=
  s_eff rfl rfl (by simp only [aeff, ht]; exact hn)
theorem s_box {T : Nat} {x : Operand} (hx : look e x = some (true, v)) (hv : isTuple v = false) (hn : ∀ b, h.next ≤ b → recheck P (h.new b (.box T v.cells)) ((d, true, .ptr b 0) :: e) chk ∧ aops P G Q r ((d, true, .ptr b 0) :: e) (h.new b (.box T v.cells))) : aops P G Q ((⟨some d, .box T x, none⟩, chk) :: r) e h :=
  s_eff rfl (c1 hx (fun _ => rfl) (g := true) rfl) (by simp only [aeff, lookv_of hx]; exact ⟨hv, hn⟩)
theorem s_store {T b off T' : Nat} {i : TI} {a x : Operand} {cs cs' : List AVal} (ht : tyi P T = some i) (ha : look e a = some (true, .ptr b off)) (hx : look e x = some (true, v)) (hb : h.get b = some (.box T' cs)) (hl : Nat.beq v.cells.length i.size = true) (ho : Nat.ble (off + i.size) cs.length = true) (hv : isTuple v = false)
    (hs : setCells cs off v.cells = cs') (hn : recheck P (h.set b (.box T' cs')) e chk ∧ aops P G Q r e (h.set b (.box T' cs'))) : aops P G Q ((⟨none, .store T a x, none⟩, chk) :: r) e h :=
  s_eff rfl (c2 ha hx (fun _ => rfl) (g := true) rfl) (by
    simp only [aeff, ht, lookv_of ha, lookv_of hx, hb]
    subst hs
    exact ⟨Nat.eq_of_beq_eq_true hl, Nat.le_of_ble_eq_true ho, hv, hn⟩)
theorem s_panic {T : Nat} {x : Operand} {dd : Option Nat} (hx : look e x = some (true, .iface T v)) (hn : Q (.panic (.iface T v)) [] h) : aops P G Q ((⟨dd, .panic x, none⟩, chk) :: r) e h :=
  s_eff rfl (c1 hx (fun _ => rfl) (g := true) rfl) (by simp only [aeff, lookv_of hx]; exact hn)

/-- What stands behind a call. -/
def Back (P : Program) (G : Nat → Option Obj) (Q : AExit → Env → AHeap → Prop) (dd : Option Nat) (chk : List AOp) (r : List (AOp × List AOp)) (e : Env) : AOut → AHeap → Prop
  | .ret v, h' => recheck P h' (e.put dd true v) chk ∧ aops P G Q r (e.put dd true v) h'
  | .panic v, h' => Q (.panic v) [] h'

theorem back {dd : Option Nat} (hk : recheck P h (e.put dd true v) chk) (hn : aops P G Q r (e.put dd true v) h) : Back P G Q dd chk r e (.ret v) h := ⟨hk, hn⟩
theorem back_p {dd : Option Nat} (hn : Q (.panic v) [] h) : Back P G Q dd chk r e (.panic v) h := hn

/-- A load that was made ahead of the call reads yet what it read. -/
theorem rk_load {T b off T' : Nat} {i : TI} {x : Operand} {cs : List AVal} {c : Bool} (ht : tyi P T = some i) (hx : look e x = some (c, .ptr b off)) (hc : c = true) (hb : h.get b = some (.box T' cs)) (ho : Nat.ble off cs.length = true) (hl : aload i (cs.drop off) = some v) (hd : e.get d = some (true, v)) : reload P h e ⟨some d, .load T x, none⟩ := by
  have h1 : aread P h e true (.load T x) = some (true = true → condsL e (Op.load T x).operands.toList ∧ True, v) :=
    aread_of (g := true) (by simp) (by simp only [ard, ht, lookv_of hx, ACellsAt, hb, if_pos (Nat.le_of_ble_eq_true ho), hl]; rfl)
  simp only [reload, gcond, h1]
  exact ⟨fun _ => ⟨fun _ => ⟨condsB_iff (c1 hx (fun _ => hc) (g := true) rfl), trivial⟩, hd⟩, fun hf => by cases hf⟩

theorem s_call {f : Operand} {args : Array Operand} {Ts : Array TypeId} {k : FuncId} {first cap l : List AVal} {dd : Option Nat} (hf : look e f = some (true, .func (.func k) first cap)) (ha : avals (lookv e) args.toList = some l) (hc : condsB e args.toList = true) (hk : Callable P k)
    (hx : ACalls P G k (first ++ l ++ cap) h (Back P G Q dd chk r e)) : aops P G Q ((⟨dd, .call ⟨.value f, args, Ts⟩, none⟩, chk) :: r) e h := by
  refine s_eff (by rfl) ?_ ?_
  · have e1 : (Op.call ⟨.value f, args, Ts⟩).operands.toList = f :: args.toList := by simp [Op.operands, Call.operands]
    rw [e1]
    simp only [condsB, lookc_of hf, hc, Bool.and_self]
  · simp only [aeff, lookv_of hf, ha]
    refine ⟨hk, hx.mono fun out h' ho => ?_⟩
    cases out with
    | ret v => exact ho
    | panic v => exact ho

end

/-! ### managed memory -/
section
variable {h : AHeap} {b b' : Nat} {o o' : AObj} {r : Option AObj}
theorem hs_self : (h.set b o).get b = some o := by simp [AHeap.set]
theorem hs_ne (hb : b' ≠ b) (hh : h.get b' = r) : (h.set b o).get b' = r := by simp [AHeap.set, hb, hh]
theorem hn_self : (h.new b o).get b = some o := by simp [AHeap.new]
theorem hn_ne (hb : b' ≠ b) (hh : h.get b' = r) : (h.new b o).get b' = r := by simp [AHeap.new, hb, hh]
theorem hm_self {c : Nat} : (h.move c b o).get b = some o := by simp [AHeap.move]
theorem hm_ne {c : Nat} (hb : b' ≠ b) (hc : b' ≠ c) (hh : h.get b' = r) : (h.move c b o).get b' = r := by simp [AHeap.move, hb, hc, hh]
theorem set_set : (h.set b o).set b o' = h.set b o' := by
  simp only [AHeap.set]
  congr 1
  funext x
  by_cases hx : x = b <;> simp [hx]
end
/-! ### the quiet operations at once -/

/-- What an operation without a guard reads of the frame alone, by a table of types; sums must fit. -/
def ardT (τ : TypeId → Option TI) (e : Env) : Op → Option (Prop × AVal)
  | .move x => (lookv e x).map fun v => (True, v)
  | .assign x => (lookv e x).map fun v => (True, v)
  | .build t parts => match τ t, aparts (lookv e) parts.toList with
    | some { kind := .st fs, zero := some z, .. }, some ps => (afill fs z ps).map fun cs => (True, .agg cs)
    | some { kind := .arr n el, zero := some z, .. }, some ps => (match τ el with
      | some ie => (afill (arrFs n el ie.size) z ps).map fun cs => (True, .agg cs)
      | none => none)
    | _, _ => none
  | .indexAddr T x i => match τ T, lookv e x, lookv e i with
    | some { kind := .arr len el, .. }, some (.ptr g o), some (.int _ n) => (match τ el with
      | some ti => some (0 ≤ n ∧ n < len, .ptr g (o + n.toNat * ti.size))
      | none => none)
    | _, _, _ => none
  | .buildSlice t len parts => match τ t, aparts (lookv e) parts.toList with
    | some { kind := .sl el, .. }, some ps => (match τ el with
      | some { size := sz, zero := some z, .. } => if ps.length = len ∧ len * sz ≤ 16777216 ∧ z.length = sz ∧ 0 < sz then (aelems sz 0 ps).map fun es => (True, .sl sz es .full) else none
      | _ => none)
    | _, _ => none
  | .load T a => match τ T, lookv e a with
    | some i, some (.cptr cs) => (aload i cs).map fun v => (True, v)
    | _, _ => none
  | .nilCheck x => match lookv e x with
    | some v => bif nilOk v then some (True, v) else none
    | none => none
  | .binOp op T x y _ => match lookv e x, lookv e y with
    | some (.int .i64 a), some (.int .i64 b) => (match op with
      | .add => some (-9223372036854775808 ≤ a + b ∧ a + b ≤ 9223372036854775807, .int .i64 (a + b))
      | .sub => some (-9223372036854775808 ≤ a - b ∧ a - b ≤ 9223372036854775807, .int .i64 (a - b))
      | .mul => some (-9223372036854775808 ≤ a * b ∧ a * b ≤ 9223372036854775807, .int .i64 (a * b))
      | .shl => none
      | .shr => none
      | op => aint op .i64 a b)
    | some (.int k a), some (.int k' b) => (match op with
      | .add => none
      | .sub => none
      | .mul => none
      | .shl => none
      | .shr => none
      | op => if k = k' then aint op k a b else none)
    | some (.str a), some (.str b) => astr op a b
    | some (.bool a), some (.bool b) => (match τ T with
      | some { kind := .bool, .. } => (match op with
        | .eql => some (True, .bool (a == b))
        | .neq => some (True, .bool !(a == b))
        | _ => none)
      | _ => none)
    | _, _ => none
  | .unOp op _ x => match lookv e x with
    | some (.bool b) => (match op with
      | .not => some (True, .bool !b)
      | _ => none)
    | some (.int .i64 n) => (match op with
      | .neg => some (-9223372036854775807 ≤ n ∧ n ≤ 9223372036854775807, .int .i64 (-n))
      | _ => none)
    | _ => none
  | .makeInterface T x => match τ T, lookv e x with
    | some i, some v => bif isIfc i.kind then none else some (True, .iface T v)
    | _, _ => none
  | .makeFunc fn first captured => match avals (lookv e) first.toList, avals (lookv e) captured.toList with
    | some a, some c => some (True, .func fn a c)
    | _, _ => none
  | .slice T x lo hi none => match lookv e x, aidx (lo.bind (lookv e)), aidx (hi.bind (lookv e)) with
    | some (.str s), some l, some u => (match τ T with
      | some { kind := .str, .. } => bif (!lo.isSome || l.isSome) && (!hi.isSome || u.isSome) then some (0 ≤ l.getD 0 ∧ l.getD 0 ≤ u.getD s.length ∧ u.getD s.length ≤ s.length, .str ((s.take (u.getD s.length).toNat).drop (l.getD 0).toNat)) else none
      | _ => none)
    | some (.sl sz es _), some l, some u => (match τ T with
      | some { kind := .sl el, .. } => (match τ el with
        | some i => bif ((!lo.isSome || l.isSome) && (!hi.isSome || u.isSome)) && Nat.beq i.size sz then some (0 ≤ l.getD 0 ∧ l.getD 0 ≤ u.getD es.length ∧ u.getD es.length ≤ es.length, .sl sz ((es.take (u.getD es.length).toNat).drop (l.getD 0).toNat) .frz) else none
        | none => none)
      | _ => none)
    | _, _, _ => none
  | .fieldAddr T x f => match τ T, lookv e x with
    | some { kind := .st fs, .. }, some a => (match fs[f]?, a with
      | some (_, off, size), .ptr g o => if size ≠ 0 then some (True, .ptr g (o + off)) else none
      | some (_, off, size), .cptr cs => if size ≠ 0 ∧ off ≤ cs.length then some (True, .cptr (cs.drop off)) else none
      | _, _ => none)
    | _, _ => none
  | .field T x f => match τ T, lookv e x with
    | some { kind := .st fs, .. }, some (.agg cs) => (match fs[f]? with
      | some (ft, off, _) => (match τ ft with
        | some i => (apart i cs off).map fun v => (True, v)
        | none => none)
      | none => none)
    | _, _ => none
  | .index T x i => match τ T, lookv e x, lookv e i with
    | some { kind := .str, .. }, some (.str s), some (.int _ n) => some (0 ≤ n ∧ n < s.length, .int .u8 (s.getD n.toNat 0).toNat)
    | some { kind := .arr len el, .. }, some (.agg cs), some (.int _ n) => (match τ el with
      | some i => (apart i cs (n.toNat * i.size)).map fun v => (0 ≤ n ∧ n < len, v)
      | none => none)
    | _, _, _ => none
  | .extract x i => match lookv e x with
    | some (.tuple vs) => (vs[i]?).map fun v => (True, v)
    | _ => none
  | .call { callee := .builtin .len, args, argTypes } => match args.toList, argTypes.toList with
    | [x], [t] => (match lookv e x, τ t with
      | some (.sl _ elems _), some { kind := .sl _, .. } => some (True, .int .i64 elems.length)
      | some (.str s), some { kind := .str, .. } => some (True, .int .i64 s.length)
      | _, _ => none)
    | _, _ => none
  | .call { callee := .builtin .min, args, .. } => match args.toList with
    | [x, y] => (match lookv e x, lookv e y with
      | some (.int k a), some (.int k' b) => if k = k' then some (True, .int k (min a b)) else none
      | _, _ => none)
    | _ => none
  | .call { callee := .builtin .max, args, .. } => match args.toList with
    | [x, y] => (match lookv e x, lookv e y with
      | some (.int k a), some (.int k' b) => if k = k' then some (True, .int k (max a b)) else none
      | _, _ => none)
    | _ => none
  | _ => none

theorem ardT_ok {P : Program} {τ : TypeId → Option TI} {e : Env} {h : AHeap} {op : Op} {p : Prop} {v : AVal} (hle : ∀ T i, τ T = some i → tyi P T = some i) (hx : ardT τ e op = some (p, v)) (hp : p) : ∃ p', ard P h (lookv e) op = some (p', v) ∧ p' := by
  cases op <;> simp only [ardT, reduceCtorEq] at hx
  case move x => exact ⟨p, hx, hp⟩
  case assign x => exact ⟨p, hx, hp⟩
  case build t parts =>
    split at hx
    · rename_i fs z ps h1 h2
      exact ⟨p, by simp only [ard, hle _ _ h1, h2]; exact hx, hp⟩
    · rename_i n el z ps h1 h2
      split at hx
      · rename_i ie h3
        exact ⟨p, by simp only [ard, hle _ _ h1, h2, hle _ _ h3]; exact hx, hp⟩
      · cases hx
    · cases hx
  case indexAddr T x i =>
    split at hx
    · rename_i len el g o k n h1 h2 h3
      split at hx
      · rename_i ie h4
        exact ⟨p, by simp only [ard, hle _ _ h1, h2, h3, hle _ _ h4]; exact hx, hp⟩
      · cases hx
    · cases hx
  case buildSlice t len parts =>
    cases h1 : τ t with
    | none => simp [h1] at hx
    | some i =>
      rw [h1] at hx
      refine ⟨p, ?_, hp⟩
      simp only [ard, hle _ _ h1]
      split at hx
      · rename_i sz by' el z ps heq hps
        injection heq with heq
        subst heq
        simp only [hps]
        cases h2 : τ el with
        | none => simp [h2] at hx
        | some j => rw [h2] at hx; simp only [hle _ _ h2]; exact hx
      · cases hx
  case load T a =>
    cases h1 : τ T with
    | none => simp [h1] at hx
    | some i =>
      rw [h1] at hx
      refine ⟨p, ?_, hp⟩
      split at hx
      · rename_i hi hl
        injection hi with hi
        subst hi
        simp only [ard, hle _ _ h1, hl, ACellsAt]
        exact hx
      · cases hx
  case nilCheck x =>
    split at hx
    · rename_i u hu
      cases hn : nilOk u with
      | false => rw [hn] at hx; cases hx
      | true =>
        rw [hn] at hx
        simp only [cond_true] at hx
        refine ⟨p, ?_, hp⟩
        simp only [ard, hu]
        cases u with
        | func f a c => cases f with
          | func f => exact hx
          | _ => cases hn
        | ptr => exact hx
        | cptr => exact hx
        | _ => cases hn
    · cases hx
  case binOp op T x y T' =>
    split at hx
    · rename_i a b hx1 hy1
      simp only [ard, hx1, hy1, abin]
      cases op <;> first
        | exact ⟨p, by simp only [if_true]; exact hx, hp⟩
        | (simp only [Option.some.injEq, Prod.mk.injEq] at hx; obtain ⟨rfl, rfl⟩ := hx; exact ⟨True, by simp only [if_true, aint, wrap64 hp], trivial⟩)
        | cases hx
    · rename_i k a k' b _ hx1 hy1
      simp only [ard, hx1, hy1, abin]
      cases op <;> first | exact ⟨p, hx, hp⟩ | cases hx
    · rename_i a b hx1 hy1
      exact ⟨p, by simp only [ard, hx1, hy1, abin]; exact hx, hp⟩
    · rename_i a b hx1 hy1
      cases h1 : τ T with
      | none => simp [h1] at hx
      | some i => rw [h1] at hx; exact ⟨p, by simp only [ard, hx1, hy1, abin, hle _ _ h1]; exact hx, hp⟩
    · cases hx
  case unOp op T x =>
    split at hx
    · rename_i b hx1
      cases op <;> simp only [reduceCtorEq] at hx
      exact ⟨p, by simp only [ard, hx1, aun]; exact hx, hp⟩
    · rename_i n hx1
      cases op <;> simp only [reduceCtorEq, Option.some.injEq, Prod.mk.injEq] at hx
      obtain ⟨rfl, rfl⟩ := hx
      exact ⟨True, by simp only [ard, hx1, aun]; rw [show (0 : Int) - n = -n by omega, wrap64 (by omega)], trivial⟩
    · cases hx
  case makeInterface T x =>
    cases h1 : τ T with
    | none => simp [h1] at hx
    | some i =>
      rw [h1] at hx
      split at hx
      · rename_i j u hj hu
        injection hj with hj
        subst hj
        refine ⟨p, ?_, hp⟩
        obtain ⟨sz, by', k, z⟩ := i
        simp only [ard, hu, hle _ _ h1]
        cases k <;> first | exact hx | (simp only [isIfc, cond_true, reduceCtorEq] at hx)
      · cases hx
  case makeFunc fn first cap => exact ⟨p, hx, hp⟩
  case slice T x lo hi max =>
    cases max with
    | some m => simp at hx
    | none =>
      simp only at hx
      split at hx
      · rename_i s l u hx1 hl hu
        split at hx
        · rename_i h1
          cases hz : ((!lo.isSome || l.isSome) && (!hi.isSome || u.isSome)) with
          | false => rw [hz] at hx; cases hx
          | true =>
            rw [hz] at hx
            simp only [cond_true] at hx
            refine ⟨p, ?_, hp⟩
            simp only [ard, hx1, hl, hu]
            rw [if_pos (by simp only [Bool.and_eq_true, Bool.or_eq_true, Bool.not_eq_true'] at hz; exact ⟨fun h1 => hz.1.resolve_left (by simp [h1]), fun h1 => hz.2.resolve_left (by simp [h1])⟩)]
            simp only [aslice, hle _ _ h1]
            exact hx
        · cases hx
      · rename_i sz es tg l u hx1 hl hu
        split at hx
        · rename_i el _ h1
          split at hx
          · rename_i i h2
            cases hz : (((!lo.isSome || l.isSome) && (!hi.isSome || u.isSome)) && Nat.beq i.size sz) with
            | false => rw [hz] at hx; cases hx
            | true =>
              rw [hz] at hx
              simp only [cond_true] at hx
              rw [Bool.and_eq_true] at hz
              obtain ⟨hz, hsz⟩ := hz
              refine ⟨p, ?_, hp⟩
              simp only [ard, hx1, hl, hu]
              rw [if_pos (by simp only [Bool.and_eq_true, Bool.or_eq_true, Bool.not_eq_true'] at hz; exact ⟨fun h1 => hz.1.resolve_left (by simp [h1]), fun h1 => hz.2.resolve_left (by simp [h1])⟩)]
              simp only [aslice, hle _ _ h1, hle _ _ h2, if_pos (show i.size = sz ∨ es = [] from .inl (Nat.eq_of_beq_eq_true hsz))]
              exact hx
          · cases hx
        · cases hx
      · cases hx
  case fieldAddr T x f =>
    cases h1 : τ T with
    | none => simp [h1] at hx
    | some i => rw [h1] at hx; exact ⟨p, by simp only [ard, hle _ _ h1]; exact hx, hp⟩
  case field T x f =>
    cases h1 : τ T with
    | none => simp [h1] at hx
    | some i =>
      rw [h1] at hx
      refine ⟨p, ?_, hp⟩
      simp only [ard, hle _ _ h1]
      split at hx
      · rename_i fs _ cs heq hx1
        injection heq with heq
        subst heq
        simp only [hx1]
        split at hx
        · rename_i ft off _ hf
          rw [hf]
          cases h2 : τ ft with
          | none => simp [h2] at hx
          | some j => rw [h2] at hx; simp only [hle _ _ h2]; exact hx
        · cases hx
      · cases hx
  case index T x i =>
    cases h1 : τ T with
    | none => simp [h1] at hx
    | some j =>
      rw [h1] at hx
      refine ⟨p, ?_, hp⟩
      simp only [ard, hle _ _ h1]
      split at hx
      · rename_i _ s _ n heq hx1 hy1
        injection heq with heq
        subst heq
        simp only [hx1, hy1]
        exact hx
      · rename_i len el _ cs _ n heq hx1 hy1
        injection heq with heq
        subst heq
        simp only [hx1, hy1]
        cases h2 : τ el with
        | none => simp [h2] at hx
        | some j => rw [h2] at hx; simp only [hle _ _ h2]; exact hx
      · cases hx
  case extract x i => exact ⟨p, hx, hp⟩
  case call c =>
    obtain ⟨callee, args, tys⟩ := c
    cases callee with
    | value f => simp at hx
    | invoke r m => simp at hx
    | builtin b =>
      cases b <;> simp only [reduceCtorEq] at hx
      case len =>
        refine ⟨p, ?_, hp⟩
        simp only [ard]
        split at hx
        · rename_i x t ha ht
          rw [ha, ht]
          simp only
          split at hx
          · rename_i hx1 h1; simp only [hx1, hle _ _ h1]; exact hx
          · rename_i hx1 h1; simp only [hx1, hle _ _ h1]; exact hx
          · cases hx
        · cases hx
      case min => exact ⟨p, hx, hp⟩
      case max => exact ⟨p, hx, hp⟩

theorem s_gen {P : Program} {G : Nat → Option Obj} {Q : AExit → Env → AHeap → Prop} {r : List (AOp × List AOp)} {e : Env} {h : AHeap} {d : Nat} {op : Op} {τ : TypeId → Option TI} {p : Prop} {v : AVal} (hle : ∀ T i, τ T = some i → tyi P T = some i) (hx : ardT τ e op = some (p, v))
    (hc : condsB e op.operands.toList = true) (hp : p) (hn : aops P G Q r ((d, true, v) :: e) h) : aops P G Q ((⟨some d, op, none⟩, []) :: r) e h := by
  obtain ⟨p', h1, h2⟩ := ardT_ok (h := h) hle hx hp
  exact s_ard (g := true) rfl (quiet_of_ard h1) (fun c a b hop => by subst hop; simp [ard] at h1) h1 (fun _ => hc) (fun _ => h2) hn

end Go.Abs
