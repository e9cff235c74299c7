/- Parse: the query, or the offset and number of the error. No conditions. -/
import Derived.Test.YtjnkbjloabnopaaGreatDoorZ24
import Derived.Test.YtjnkbjloabnopaaGreatDoorProg
import Derived.WalkKit
import Derived.Lib.Builder
import Derived.Lib.UnsafeStr
import Derived.Lib.Strings
import Derived.Lib.Slices
import Derived.Lib.Bytealg
import Derived.Lib.Walk
import Derived.Laws.Externs
import Derived.Shelf.RegionOpenPlain
import Derived.KernelRfl
namespace Go.Proofs
open Go.Abs Go.Q
attribute [local irreducible] awp aops Run BodyQ ACalls Back
section
variable {G : Nat → Option Obj} {h : AHeap} {s : Str} {w : World} {vs : List Value}

theorem o35 : (Code.oper (Code.fst bod35)).toArray = #[⟨some 6, .call ⟨.builtin .recover, #[], #[]⟩, (op13 (Code.fst bod35) 0).type, (op13 (Code.fst bod35) 0).pos, (op13 (Code.fst bod35) 0).after, none⟩, ⟨some 3, .assign (.tmp 6), (op13 (Code.fst bod35) 1).type, (op13 (Code.fst bod35) 1).pos, (op13 (Code.fst bod35) 1).after, none⟩] := by kernel_rfl
theorem l35b : (Code.oper (Code.fst (Code.snd bod35))).toArray.toList = [op13 (Code.fst (Code.snd bod35)) 0, op13 (Code.fst (Code.snd bod35)) 1] := by kernel_rfl
theorem o35b0 : (op13 (Code.fst (Code.snd bod35)) 0).op = .move (.tmp 3) ∧ (op13 (Code.fst (Code.snd bod35)) 0).dst = some 7 ∧ (op13 (Code.fst (Code.snd bod35)) 0).guard = none := ⟨by kernel_rfl, by kernel_rfl, by kernel_rfl⟩
theorem o35b1 : (op13 (Code.fst (Code.snd bod35)) 1).op = .binOp .neq 20 (.tmp 7) (.const .nilIface) 20 ∧ (op13 (Code.fst (Code.snd bod35)) 1).dst = some 8 ∧ (op13 (Code.fst (Code.snd bod35)) 1).guard = none := ⟨by kernel_rfl, by kernel_rfl, by kernel_rfl⟩

theorem run_move {P : Program} {a : Act} {o : Oper} {x : Operand} (ho : o.op = .move x) : (execOp a.eval o).run P w = .ok (.value (a.eval x)) w := by
  simp only [execOp, ho, Sem.run_pure]

theorem run_nil35 {a : Act} (ha : a.eval (.tmp 7) = .nilIface) : (execOp a.eval (op13 (Code.fst (Code.snd bod35)) 1)).run Tryz.prog w = .ok (.value (.bool false)) w := by
  simp only [execOp, o35b1.1, ha]
  simp [Act.eval, go_sem]
theorem run_some35 {a : Act} {T : TypeId} {v : Value} (ha : a.eval (.tmp 7) = .iface T v) : (execOp a.eval (op13 (Code.fst (Code.snd bod35)) 1)).run Tryz.prog w = .ok (.value (.bool true)) w := by
  simp only [execOp, o35b1.1, ha]
  simp [Act.eval, go_sem]

abbrev e35 (l : List AVal) (iv : AVal) : Env := (3, true, iv) :: (6, true, iv) :: envFrom 0 l

theorem eval_put {a : Act} {d : Nat} {v : Value} (hd : d < a.tmps.size) : (a.put (some d) v).eval (.tmp d) = v := by
  simp only [Act.eval, Act.put]
  rw [getD_set _ _ _ _ hd, if_pos rfl]
theorem eval_put_ne {a : Act} {d t : Nat} {v : Value} (hd : d < a.tmps.size) (hne : t ≠ d) : (a.put (some d) v).eval (.tmp t) = a.eval (.tmp t) := by
  simp only [Act.eval, Act.put]
  rw [getD_set _ _ _ _ hd, if_neg hne]
theorem size_put {a : Act} {d : Option Nat} {v : Value} : (a.put d v).tmps.size = a.tmps.size := by cases d <;> simp [Act.put]

theorem nil_ret {P : Program} {fn : Func} (hr : fn.results = #[]) (tmps : Array Value) (w : World) : (results fn tmps).run P w = .ok (.tuple #[]) w := by
  rw [results_eq, hr]
  simp

/-- The deferred function where nothing has panicked. -/
theorem c35r {args : List AVal} (hr : Rel G h w) (ha : Reps h w args vs) (hl : args.length = 3) : CallsD Tryz.prog 35 vs.toArray .returning w fun e u' w' => u' = .returning ∧ (∃ v, e = .returned v) ∧ Rel G h w' ∧ Step h w h w' := by
  have hvl : vs.length = 3 := by rw [ha.1, hl]
  have hn : Tryz.f35.ntmps = 22 := Tryz.ntmps35
  refine callsD_recover (v := .nilIface) Tryz.func35 b35 o35 (by rw [hn]; decide) (by rw [hn]; omega) (.inl ⟨rfl, rfl, rfl⟩) fun c₀ cs => ?_
  generalize hact : (({ tmps := vs.toArray ++ Array.replicate (Tryz.f35.ntmps - vs.toArray.size) undef, defers := [] } : Act).put (some 6) .nilIface) = a6
  have hs6 : a6.tmps.size = 22 := by rw [← hact, size_put]; simp [hn, hvl]
  have hd6 : a6.defers = [] := by rw [← hact]; rfl
  refine wp_seq (wp_region_list ?_)
  rw [l35b]
  refine pure_op o35b0.2.2 (run_move o35b0.1) ?_
  rw [o35b0.2.1, eval_put (by omega)]
  refine pure_op o35b1.2.2 (run_nil35 (eval_put (by rw [size_put]; omega))) ?_
  rw [o35b1.2.1]
  refine wp_cond (t := false) (eval_put (by rw [size_put, size_put]; omega)) ?_
  refine wp_skip ⟨hd6, .returning, rfl, _, nil_ret (by kernel_rfl) _ _, rfl, ⟨_, rfl⟩, hr, .refl hr⟩

noncomputable abbrev P35 : Code := Code.fst (Code.fst (Code.snd (Code.snd bod35)))
theorem l35x : (Code.oper P35).toArray.toList = op13 P35 0 :: op13 P35 1 :: ((Code.oper P35).drop 2 ++ []) := by kernel_rfl
theorem o35x0 : (op13 P35 0).op = .move (.tmp 3) ∧ (op13 P35 0).dst = some 10 ∧ (op13 P35 0).guard = none := ⟨by kernel_rfl, by kernel_rfl, by kernel_rfl⟩
theorem o35x1 : (op13 P35 1).op = .typeAssert (.tmp 10) 20 71 true ∧ (op13 P35 1).dst = some 11 ∧ (op13 P35 1).guard = none := ⟨by kernel_rfl, by kernel_rfl, by kernel_rfl⟩
theorem run_assert35 {a : Act} {v : Value} (ha : a.eval (.tmp 10) = .iface 71 v) : (execOp a.eval (op13 P35 1)).run Tryz.prog w = .ok (.value (.tuple #[v, .bool true])) w := by
  simp only [execOp, o35x1.1, ha]
  simp [Instr.typeAssert, run_underlying Tryz.underlying71, go_sem]

/-- What the deferred function leaves where a fault has been raised. -/
def After35 (h : AHeap) (b2 b3 b4 pos : Nat) (x : Int) (h' : AHeap) : Prop :=
  h'.get b2 = some (.box 38 zQ) ∧ h'.get b3 = some (.box 3 [.int .i64 pos]) ∧ h'.get b4 = some (.box 39 [.int .i64 x]) ∧ ∀ hb : AHeap, hb.next ≤ b2 → hb.next ≤ b3 → hb.next ≤ b4 → Sub hb h → Sub hb h'

theorem only_n {P : Program} {K : Env → AHeap → Prop} {e : Env} {h : AHeap} (hk : K e h) : Run P G (Only K) [] .normal e h := by unfold Run; exact hk

set_option maxHeartbeats 1000000 in
theorem c35p {b2 b3 b4 pos : Nat} {x : Int} {v : Value} (h2 : h.get b2 = some (.box 38 zQ)) (h3 : h.get b3 = some (.box 3 [.int .i64 0])) (h4 : h.get b4 = some (.box 39 [.int .i64 0])) (hne : b2 ≠ b3 ∧ b2 ≠ b4 ∧ b3 ≠ b4)
    (hr : Rel G h w) (ha : Reps h w [.ptr b2 0, .ptr b3 0, .ptr b4 0] vs) (hv : Rep h w (fault pos x) v) :
    CallsD Tryz.prog 35 vs.toArray (.panicking [{ v := v, recovered := false }]) w fun e u' w' => u' = .panicking [{ v := v, recovered := true }] ∧ (∃ v, e = .returned v) ∧ ∃ h', After35 h b2 b3 b4 pos x h' ∧ Rel G h' w' ∧ Step h w h' w' := by
  have hvl : vs.length = 3 := by rw [ha.1]; rfl
  have hn : Tryz.f35.ntmps = 22 := Tryz.ntmps35
  obtain ⟨v', rfl, hv'⟩ : ∃ v', v = .iface 71 v' ∧ Rep h w (.agg [.int .i64 pos, .int .i64 x]) v' := by
    unfold fault at hv
    cases hv with
    | iface _ _ v' hv' => exact ⟨v', rfl, hv'⟩
  refine callsD_recover (v := .iface 71 v') Tryz.func35 b35 o35 (by rw [hn]; decide) (by rw [hn]; omega) (.inr ⟨rfl, rfl⟩) fun c₀ cs => ?_
  have he0 := enter_env (n := Tryz.f35.ntmps) (by rw [hn]; show 3 ≤ 22; decide) ha
  generalize hact0 : ({ tmps := vs.toArray ++ Array.replicate (Tryz.f35.ntmps - vs.toArray.size) undef, defers := [] } : Act) = a0
  have he0' : EnvRep h w 22 (envFrom 0 [.ptr b2 0, .ptr b3 0, .ptr b4 0]) a0.tmps := by rw [← hact0, ← hn]; exact he0
  have hd0 : a0.defers = [] := by rw [← hact0]
  have he6 := EnvB.put1 he0' (d := 6) (by decide) hv
  have he3 := EnvB.put1 he6 (d := 3) (by decide) hv
  generalize ha3 : (a0.put (some 6) (.iface 71 v')).put (some 3) (.iface 71 v') = a3 at he3 ⊢
  have hs3 : a3.tmps.size = 22 := he3.1
  have hd3 : a3.defers = [] := by rw [← ha3]; exact hd0
  have hev3 : a3.eval (.tmp 3) = .iface 71 v' := by rw [← ha3]; exact eval_put (by rw [size_put]; have := he0'.1; omega)
  refine wp_seq (wp_region_list ?_)
  rw [l35b]
  refine pure_op o35b0.2.2 (run_move o35b0.1) ?_
  rw [o35b0.2.1, hev3]
  have he7 := EnvB.put1 he3 (d := 7) (by decide) hv
  refine pure_op o35b1.2.2 (run_some35 (eval_put (by omega))) ?_
  rw [o35b1.2.1]
  have he8 := EnvB.put1 he7 (d := 8) (by decide) (.bool true)
  refine wp_cond (t := true) (eval_put (by rw [size_put]; omega)) ?_
  rw [if_pos rfl]
  refine wp_seq (wp_region_list ?_)
  rw [l35x]
  refine pure_op o35x0.2.2 (run_move o35x0.1) ?_
  have hev8 : ((a3.put (some 7) (.iface 71 v')).put (some 8) (.bool true)).eval (.tmp 3) = .iface 71 v' := by
    rw [eval_put_ne (by rw [size_put]; omega) (by decide), eval_put_ne (by omega) (by decide)]
    exact hev3
  rw [o35x0.2.1, hev8]
  have he10 := EnvB.put1 he8 (d := 10) (by decide) hv
  refine pure_op o35x1.2.2 (run_assert35 (eval_put (by rw [size_put, size_put]; omega))) ?_
  rw [o35x1.2.1]
  have htup : Rep h w (.tuple [.agg [.int .i64 pos, .int .i64 x], .bool true]) (.tuple #[v', .bool true]) := by
    have := Rep.tuple (h := h) (w := w) [.agg [.int .i64 pos, .int .i64 x], .bool true] [v', .bool true] rfl (fun i c v h1 h2 => by
      match i, h1, h2 with
      | 0, h1, h2 => simp at h1 h2; subst h1 h2; exact hv'
      | 1, h1, h2 => simp at h1 h2; subst h1 h2; exact .bool true
      | i + 2, h1, h2 => simp at h1)
    exact this
  have he11 := EnvB.put1 he10 (d := 11) (by decide) htup
  refine abs_ops (K := fun e h' => awp Tryz.prog G ir35y (Run Tryz.prog G (Only fun _ h' => After35 h b2 b3 b4 pos x h') []) e h') [] _ r35x tr35x _ h _ w ?_ hr (.refl hr) he11 (D := []) hd3 ?_
  · refine g1 ?_
    refine s_alloc (tt rfl) fun b5 hb5 => ⟨trivial, ?_⟩
    try simp only [set_next, new_next] at hb5
    refine g1 ?_
    have hw2 := hr.wf _ _ h2
    have hw3 := hr.wf _ _ h3
    have hw4 := hr.wf _ _ h4
    obtain ⟨n1, n2, n3⟩ := hne
    (refine s_store (tt rfl) rfl rfl hpp rfl rfl rfl rfl ⟨⟨rk_load (T' := 71) (cs := [.int .i64 pos, .int .i64 x]) (tt rfl) rfl rfl hpp rfl rfl rfl, rk_load (T' := 71) (cs := [.int .i64 pos, .int .i64 x]) (tt rfl) rfl rfl hpp rfl rfl rfl, trivial⟩, ?_⟩)
    (refine s_store (tt rfl) rfl rfl hpp rfl rfl rfl rfl ⟨⟨rk_load (T' := 71) (cs := [.int .i64 pos, .int .i64 x]) (tt rfl) rfl rfl hpp rfl rfl rfl, trivial⟩, ?_⟩)
    refine g1 ?_
    refine only_i ?_
    refine ⟨by exact hpp, by exact hpp, by exact hpp, fun hb k2 k3 k4 hs => ?_⟩
    exact .setl (.setl (.setl (.setl (.new hs hb5 _) (by have := hs.next; omega) _) k2 _) k3 _) k4 _
  · intro e' h' a' w' hk k1 k2 k3 k4
    refine wp_mono (awp_ok mixed _ ir35y tr35y _ e' h' a' w' hk k1 k3 k4) ?_
    rintro ex a2 w2 ⟨ax, e2, h2', q1, q2, q3, q4, q5, q6⟩
    cases ax with
    | normal =>
      obtain rfl := q2
      unfold Run at q1
      exact ⟨q6, _, rfl, _, nil_ret (by kernel_rfl) _ _, rfl, ⟨_, rfl⟩, h2', q1, q3, k2.trans q4⟩
    | exit i => unfold Run at q1; exact q1.elim
    | ret => unfold Run at q1; exact q1.elim
    | panic v => unfold Run at q1; exact q1.elim

/-- What Parse returns for what the reader comes to. -/
def outQ : R Qry → Qry × Int × Int
  | .ok q _ => (q, 0, 0)
  | .bad p e => (⟨.zero, .zero, [], 0⟩, p, e)

abbrev D13 : Code → Code := fun c => Code.fst (Code.snd (Code.snd c))
noncomputable abbrev E13 : Code := Code.fst (Code.snd (Code.snd (Code.snd bod13)))
noncomputable abbrev F13 : Code := Code.fst (Code.snd (Code.snd bod13))
theorem l13d : (Code.oper F13).toArray.toList = (Code.oper F13).take 1 ++ [op13 F13 1] := by kernel_rfl
theorem o13d : (op13 F13 1).op = .defer ⟨.value (.tmp 9), #[], #[]⟩ ∧ (op13 F13 1).dst = none ∧ (op13 F13 1).guard = none := ⟨by kernel_rfl, by kernel_rfl, by kernel_rfl⟩
theorem l13e : (Code.oper E13).toArray.toList = (Code.oper E13).take 3 ++ (op13 E13 3 :: ((Code.oper E13).drop 4 ++ [])) := by kernel_rfl
theorem t13e : trOp 14 (Code.oper E13).toArray (op13 E13 3) = some ⟨some 13, .call ⟨.value (.func 36), #[.tmp 12], #[73]⟩, none⟩ := by kernel_rfl
theorem ca35 : Callable Tryz.prog 35 := ⟨_, Tryz.func35, by kernel_rfl, by kernel_rfl⟩

def Post13 (s : Str) (x : Qry × Int × Int) : AVal := .tuple [encQa x.1, .int .i64 x.2.1, .int .i64 x.2.2]

set_option maxHeartbeats 2000000 in
theorem c13 (hs : s.length ≤ 1000) (x : Qry × Int × Int) (hx : (400 < s.length ∧ x = (⟨.zero, .zero, [], 0⟩, 0, 2)) ∨ (s.length ≤ 400 ∧ ∃ n r, n ≤ 100000 ∧ queryP s n = some r ∧ x = outQ r)) : ACalls Tryz.prog G 13 [.str s] h (Gives (Post13 s x) h) := by
  refine ACalls.fin (acalls_of fun w vs hr ha => ?_)
  have hn : Tryz.f13.ntmps = 14 := Tryz.ntmps13
  have hvl : vs.length = 1 := by rw [ha.1]; rfl
  refine calls_of_wp_defers Tryz.func13 b13 ?_
  have he0 := enter_env (n := Tryz.f13.ntmps) (by rw [hn]; show 1 ≤ 14; decide) ha
  have hw := hr.wf
  refine wp_seq (wp_mono (awp_ok mixed _ ir13a tr13a (Run Tryz.prog G (Only fun e h' => ∃ b2 b3 b4, h.next ≤ b2 ∧ b2 + 1 ≤ b3 ∧ b3 + 1 ≤ b4 ∧ e = [(4, true, .ptr b4 0), (3, true, .ptr b3 0), (2, true, .ptr b2 0), (0, true, .str s)] ∧ h' = ((h.new b2 (.box 38 zQ)).new b3 (.box 3 [.int .i64 0])).new b4 (.box 39 [.int .i64 0])) []) _ h _ w ?_ hr (by rw [← hn]; exact he0) rfl) ?_)
  · refine g1 ?_
    refine s_alloc (tt rfl) fun b2 hb2 => ⟨trivial, ?_⟩
    try simp only [set_next, new_next] at hb2
    refine s_alloc (tt rfl) fun b3 hb3 => ⟨trivial, ?_⟩
    try simp only [set_next, new_next] at hb3
    refine s_alloc (tt rfl) fun b4 hb4 => ⟨trivial, ?_⟩
    try simp only [set_next, new_next] at hb4
    refine g1 ?_
    refine only_i ?_
    exact ⟨b2, b3, b4, hb2, hb3, hb4, rfl, rfl⟩
  rintro ex a1 w1 ⟨ax, e1, h1, q1, q2, q3, q4, q5, q6⟩
  cases ax with
  | exit i => unfold Run at q1; exact q1.elim
  | ret => unfold Run at q1; exact q1.elim
  | panic v => unfold Run at q1; exact q1.elim
  | normal =>
  obtain rfl := q2
  unfold Run at q1
  obtain ⟨b2, b3, b4, hb2, hb3, hb4, rfl, rfl⟩ := q1
  -- where the text is too long
  have hres : ∀ {N : Nat} {e2 : Env} {h2 : AHeap} {w2 : World} {tmps : Array Value} {x : Qry × Int × Int} {cs : List AVal}, e2.get 4 = some (true, .ptr b4 0) → e2.get 3 = some (true, .ptr b3 0) → e2.get 2 = some (true, .ptr b2 0) → EnvRep h2 w2 N e2 tmps → Rel G h2 w2 → h2.get b2 = some (.box 38 cs) → cs.length = 26 → WeakL cs (encQ x.1) → h2.get b3 = some (.box 3 [.int .i64 x.2.1]) → h2.get b4 = some (.box 39 [.int .i64 x.2.2]) → Sub h h2 →
      Step h w h2 w2 → ∃ v, (results Tryz.f13 tmps).run Tryz.prog w2 = .ok v w2 ∧ ∃ out h', Abs.Fin (Gives (Post13 s x) h) out h' ∧ Rel G h' w2 ∧ Step h w h' w2 ∧ RepOut h' w2 out (.returned v) := by
    intro N e2 h2 w2 tmps x cs k4 k3 k2 he hr2 g2 hl2 hwk g3 g4 hsub hstep
    have har : aret Tryz.prog h2 e2 Tryz.f13.results.toList (fun l => l = [.agg cs, .int .i64 x.2.1, .int .i64 x.2.2]) := by
      rw [show Tryz.f13.results.toList = [.cell 2 38, .cell 3 3, .cell 4 39] by kernel_rfl]
      have e1 : ∀ z, aload ⟨26, 376, .st [(32, 0, 13), (35, 13, 11), (36, 24, 1), (3, 25, 1)], z⟩ cs = some (.agg cs) := fun z => by
        simp only [aload, AK.agg, if_true]
        rw [if_pos (by omega), List.take_of_length_le (by omega)]
      simp only [aret, k4, k3, k2, tt (T := 38) rfl, tt (T := 3) rfl, tt (T := 39) rfl, ACellsAt, g2, g3, g4, if_pos (Nat.zero_le _), List.drop_zero, e1]
      exact ⟨trivial, trivial, trivial, rfl⟩
    obtain ⟨xs, v, rfl, h2, h3⟩ := ret_ok hr2 he har
    refine ⟨v, h2, .ret (.tuple [.agg cs, .int .i64 x.2.1, .int .i64 x.2.2]), _, fin_sub hsub (.ret _ _ ?_) ⟨rfl, rfl⟩, hr2, hstep, v, rfl, h3⟩
    exact WeakL.tuple (.cons (WeakL.agg hwk) (.refl _))
  refine wp_seq (wp_mono (awp_ok mixed _ ir13b tr13b (Run Tryz.prog G (fun ax e h' => (ax = .normal ∧ s.length ≤ 400 ∧ h' = (((h.new b2 (.box 38 zQ)).new b3 (.box 3 [.int .i64 0])).new b4 (.box 39 [.int .i64 0])) ∧ EnvLe [(4, true, .ptr b4 0), (3, true, .ptr b3 0), (2, true, .ptr b2 0), (0, true, .str s)] e) ∨
      (ax = .ret ∧ 400 < s.length ∧ e.get 4 = some (true, .ptr b4 0) ∧ e.get 3 = some (true, .ptr b3 0) ∧ e.get 2 = some (true, .ptr b2 0) ∧ h'.get b2 = some (.box 38 zQ) ∧ h'.get b3 = some (.box 3 [.int .i64 0]) ∧ h'.get b4 = some (.box 39 [.int .i64 2]) ∧ Sub h h')) []) _ _ _ _ ?_ q3 q5 q6) ?_)
  · refine g2 ?_ ?_ <;> (repeat intro hb hc)
    · refine .inr ⟨rfl, by omega, rfl, rfl, rfl, by exact hpp, by exact hpp, by exact hpp, ?_⟩
      exact .setl (.setl (.setl (.new (.new (.new (.refl hw) hb2 _) hb3 _) hb4 _) hb2 _) (by omega) _) (by omega) _
    · exact .inl ⟨rfl, by omega, rfl, by exact envv⟩
  rintro ex a2 w2 ⟨ax2, e2, h2, r1, r2, r3, r4, r5, r6⟩
  unfold Run at r1
  rcases r1 with ⟨rfl, hlen, rfl, hle⟩ | ⟨rfl, hlen, k4, k3, k2, g2, g3, g4, hsub⟩
  · obtain rfl := r2
    obtain ⟨n, r, hn1, hq, rfl⟩ : ∃ n r, n ≤ 100000 ∧ queryP s n = some r ∧ x = outQ r := by
      rcases hx with ⟨h1, _⟩ | ⟨_, h2⟩
      · omega
      · exact h2
    have r5' := hle.rep r5
    refine wp_seq (wp_region_list ?_)
    rw [l13d]
    refine abs_ops (D := []) (K := fun e h' => h' = (((h.new b2 (.box 38 zQ)).new b3 (.box 3 [.int .i64 0])).new b4 (.box 39 [.int .i64 0])) ∧ e = [(9, true, .func (.func 35) [] [.ptr b2 0, .ptr b3 0, .ptr b4 0]), (4, true, .ptr b4 0), (3, true, .ptr b3 0), (2, true, .ptr b2 0), (0, true, .str s)]) [op13 F13 1] _ r13d tr13d _ _ a2 w2 ?_ r3 (.refl r3) r5' r6 ?_
    · refine g1 ?_
      exact only_i ⟨rfl, rfl⟩
    rintro _ _ a3 w3 ⟨rfl, rfl⟩ k1 k2 k3 k4
    obtain ⟨vf, vc, hv9, hvf, hvc⟩ := func_inv (eval_rep k3 (t := 9) rfl)
    have hvf0 : vf = [] := List.eq_nil_of_length_eq_zero hvf.1
    subst hvf0
    refine defer_op o13d.2.2 (run_defer o13d.1 hv9) ?_
    rw [o13d.2.1]
    show (Code.seq (.region 4 (Code.oper E13).toArray false) .ret).wp Tryz.prog _ { tmps := a3.tmps, defers := { target := .fn (.func 35) vc.toArray, args := #[] } :: a3.defers } w3
    rw [k4]
    generalize hdd : ({ target := .fn (.func 35) vc.toArray, args := #[] } : Deferred) = dd
    refine wp_seq (wp_region_list ?_)
    rw [l13e]
    have k3' : EnvRep (((h.new b2 (.box 38 zQ)).new b3 (.box 3 [.int .i64 0])).new b4 (.box 39 [.int .i64 0])) w3 14 [(4, true, .ptr b4 0), (3, true, .ptr b3 0), (2, true, .ptr b2 0), (0, true, .str s)] a3.tmps := EnvLe.rep envv k3
    refine abs_ops (D := [dd]) (K := fun e h' => ∃ b5, b4 + 1 ≤ b5 ∧ h' = ((((h.new b2 (.box 38 zQ)).new b3 (.box 3 [.int .i64 0])).new b4 (.box 39 [.int .i64 0])).new b5 (rdr s (⟨0, [], 0⟩, 0))) ∧ EnvLe [(12, true, .ptr b5 0), (4, true, .ptr b4 0), (3, true, .ptr b3 0), (2, true, .ptr b2 0)] e) _ _ r13c tr13c _ _ _ w3 ?_ k1 (.refl k1) k3' rfl ?_
    · refine g1 ?_
      refine s_box rfl rfl fun b5 hb5 => ⟨trivial, ?_⟩
      try simp only [set_next, new_next] at hb5
      refine g1 ?_
      refine only_i ⟨b5, hb5, rfl, by exact envv⟩
    rintro e4 _ a4 w4 ⟨b5, hb5, rfl, hle4⟩ m1 m2 m3 m4
    have m3' := hle4.rep m3
    have hst : Step h w ((((h.new b2 (.box 38 zQ)).new b3 (.box 3 [.int .i64 0])).new b4 (.box 39 [.int .i64 0])).new b5 (rdr s (⟨0, [], 0⟩, 0))) w4 := ((q4.trans r4).trans k2).trans m2
    have hvc4 := hvc.step m2
    have hsub5 : Sub h ((((h.new b2 (.box 38 zQ)).new b3 (.box 3 [.int .i64 0])).new b4 (.box 39 [.int .i64 0])).new b5 (rdr s (⟨0, [], 0⟩, 0))) := .new (.new (.new (.new (.refl hw) hb2 _) hb3 _) hb4 _) hb5 _
    refine abs_one (Qx := Run Tryz.prog G (fun ax e h' => match ax with
      | .normal => ∃ q st, r = .ok q st ∧ h' = ((((h.new b2 (.box 38 zQ)).new b3 (.box 3 [.int .i64 0])).new b4 (.box 39 [.int .i64 0])).new b5 (rdr s (⟨0, [], 0⟩, 0))).set b5 (rdr s st) ∧ EnvLe [(13, true, encQa q), (4, true, .ptr b4 0), (3, true, .ptr b3 0), (2, true, .ptr b2 0)] e
      | .panic v => ∃ p y st, r = .bad p y ∧ v = fault p y ∧ h' = ((((h.new b2 (.box 38 zQ)).new b3 (.box 3 [.int .i64 0])).new b4 (.box 39 [.int .i64 0])).new b5 (rdr s (⟨0, [], 0⟩, 0))).set b5 (rdr s st)
      | _ => False) []) t13e m1 m3' ?_ ?_ ?_
    · refine s_call rfl rfl rfl ca36 ?_
      refine call_r (c36 hs n hn1 r hn_self hq) (fun q st hr hl => back trivial ?_) (fun p y st hr => ?_)
      · refine g1 ?_
        exact ⟨q, st, hr, rfl, by exact envv⟩
      · exact ⟨p, y, st, hr, rfl, rfl⟩
    · intro e5 h5 a5 w5 hk t1 t2 t3 t4
      unfold Run at hk
      obtain ⟨q, st, rfl, rfl, hle5⟩ := hk
      have t3' := hle5.rep t3
      obtain ⟨⟨op', ⟨o2, nm, ag, vl, lb, fd, kd2⟩, lab, reg, lo, hi, kd⟩, ⟨gop, ga, gb, gn, garg, gv, gf, glo, ghi, gargs, gkd⟩, fs, ks⟩ := q
      refine abs_ops (D := [dd]) (K := fun e h' => h'.get b2 = some (.box 38 (encQ ⟨.mk op' (.mk o2 nm ag vl lb fd kd2) lab reg lo hi kd, .mk gop ga gb gn garg gv gf glo ghi gargs gkd, fs, ks⟩)) ∧ h'.get b3 = some (.box 3 [.int .i64 0]) ∧ h'.get b4 = some (.box 39 [.int .i64 0]) ∧ Sub h h' ∧ EnvLe [(4, true, .ptr b4 0), (3, true, .ptr b3 0), (2, true, .ptr b2 0)] e) [] _ r13e tr13e _ _ _ w5 ?_ t1 (.refl t1) t3' (t4.trans m4) ?_
      · refine g1 ?_
        refine only_i ⟨by exact hpp, by exact hpp, by exact hpp, ?_, by exact envv⟩
        exact .setl (.setl (.setl (.setl hsub5 (by omega) _) hb2 _) (by omega) _) (by omega) _
      rintro e6 h6 a6 w6 ⟨g2, g3, g4, hsub6, hle6⟩ y1 y2 y3 y4
      show (Code.ret).wp Tryz.prog _ a6 w6
      refine wp_ret ?_
      show Leaves Tryz.prog Tryz.f13 a6.tmps _ a6.defers .returning w6
      rw [y4, ← hdd]
      refine leaves_one (by simp) ca35 ((c35r y1 ((hvc4.step t2).step y2) rfl).mono ?_)
      rintro e7 u7 w7 ⟨rfl, ⟨v7, rfl⟩, z1, z2⟩
      exact ⟨rfl, ⟨_, rfl⟩, hres (x := outQ (.ok _ st)) (N := 14) (e2 := [(4, true, .ptr b4 0), (3, true, .ptr b3 0), (2, true, .ptr b2 0)]) rfl rfl rfl ((hle6.rep y3).step z2) z1 g2 rfl (.refl _) g3 g4 hsub6 (((hst.trans t2).trans y2).trans z2)⟩
    · intro v h5 w5 u hk t1 t2 t3
      unfold Run at hk
      obtain ⟨p, y, st, rfl, rfl, rfl⟩ := hk
      show Leaves Tryz.prog Tryz.f13 a4.tmps _ a4.defers (.panicking [{ v := u, recovered := false }]) w5
      rw [m4, ← hdd]
      refine leaves_one (by simp) ca35 ((c35p (b2 := b2) (b3 := b3) (b4 := b4) hpp hpp hpp (by omega) t1 (hvc4.step t2) t3).mono ?_)
      rintro e6 u6 w6 ⟨rfl, ⟨v6, rfl⟩, h6, ⟨g2, g3, g4, hsub6⟩, z1, z2⟩
      refine ⟨rfl, ⟨_, rfl⟩, hres (x := outQ (.bad p y)) (cs := zQ) (N := 14) (e2 := [(12, true, .ptr b5 0), (4, true, .ptr b4 0), (3, true, .ptr b3 0), (2, true, .ptr b2 0)]) rfl rfl rfl ((m3'.step t2).step z2) z1 g2 rfl ?_ g3 g4 ?_ ((hst.trans t2).trans z2)⟩
      · exact wkk
      · exact hsub6 h hb2 (by omega) (by omega) (.setl hsub5 (by omega) _)
  · obtain rfl := r2
    show Leaves Tryz.prog Tryz.f13 a2.tmps _ a2.defers .returning w2
    have hx' : x = (⟨.zero, .zero, [], 0⟩, 0, 2) := by
      rcases hx with ⟨_, h2⟩ | ⟨h1, _⟩
      · exact h2
      · omega
    rw [r6]
    subst hx'
    exact hres k4 k3 k2 r5 r3 g2 rfl wkk g3 g4 hsub (q4.trans r4)
end
end Go.Proofs

/- Four functions of Go's library that the abstract steps do not reach, walked over the world: a Builder's copy check and its String, and Count of one byte. No conditions. -/
namespace Go.Proofs
open Go.RowKit

theorem vul110 : Tryz.prog.underlying 110 = some (.pointer 112) := by kernel_rfl
theorem vul173 : Tryz.prog.underlying 173 = some .unsafePointer := by kernel_rfl

set_option maxHeartbeats 1000000 in
set_option maxRecDepth 100000 in
/-- copyCheck at a builder that has been used: nothing turns. -/
theorem wCopyUsed (b : Nat) (w : World) (h0 : w.cell? ⟨b, 0, none⟩ = some (.pointer (some ⟨b, 0, none⟩))) :
    Calls Tryz.prog 137 #[.pointer (some ⟨b, 0, none⟩)] w fun e w' => e = .returned (.tuple #[]) ∧ w' = w := by
  obtain ⟨j, hj, _⟩ := Option.map_eq_some_iff.1 (show (Tryz.prog.info? 112).map (·.size) = some 2 by kernel_rfl)
  go_enter Tryz.func137, Tryz.ntmps137
  go_wp2
  rw [Lib.run_neq_ptr_same w _ vul110 hj]
  go_wp2
  go_end0
  exact ⟨rfl, rfl⟩

set_option maxHeartbeats 1000000 in
set_option maxRecDepth 100000 in
/-- copyCheck at a fresh builder in a writer: it stores its own address. -/
theorem wCopyFresh (b : Nat) (T : TypeId) (hT : liesAt Tryz.prog Tryz.prog.depth T (2 / Tryz.prog.cellsOf T) 0 112 1 = true) (w : World) (h0 : w.cell? ⟨b, 0, none⟩ = some (.pointer none)) (hsh : w.shape? b = some (T, 2)) (hfz : w.frozen? ⟨b, 0, none⟩ = false) :
    Calls Tryz.prog 137 #[.pointer (some ⟨b, 0, none⟩)] w fun e w' => e = .returned (.tuple #[]) ∧ w' = w.setCell ⟨b, 0, none⟩ (.pointer (some ⟨b, 0, none⟩)) := by
  obtain ⟨j, hj, hjs⟩ := Option.map_eq_some_iff.1 (show (Tryz.prog.info? 112).map (·.size) = some 2 by kernel_rfl)
  go_enter Tryz.func137, Tryz.ntmps137
  go_wp2
  rw [Lib.run_to_unsafe w ⟨b, 0, none⟩ vul110 vul173 hj (by rw [hjs]; decide) hsh (Nat.zero_lt_succ 1)]
  simp only [Result.andThen]
  rw [Oper.upon_value]
  go_wp2
  rw [run_callFunc_extern Tryz.func175 (by kernel_rfl) (by kernel_rfl) (by kernel_rfl) (e := Extern.AbiNoEscape.same) (by kernel_rfl)]
  rw [Lib.run_noEscape]
  simp only [Result.andThen]
  rw [Oper.upon_value]
  go_wp2
  rw [Lib.run_from_unsafe w ⟨b, 0, none⟩ vul173 vul110 hj hsh hT]
  simp only [Result.andThen]
  rw [Oper.upon_value]
  go_wp2
  go_end0
  exact ⟨rfl, rfl⟩

set_option maxHeartbeats 1000000 in
set_option maxRecDepth 100000 in
/-- Count of one byte. -/
theorem wCount (s : ByteArray) (c : UInt8) (w : World) : Calls Tryz.prog 261 #[.string s, .string ⟨#[c]⟩] w fun e w' => e = .returned (.int .i64 (Lib.countByte s.data.toList c)) ∧ w' = w := by
  go_enter Tryz.func261, Tryz.ntmps261
  go_wp2
  rw [run_callFunc_extern Tryz.func291 (by kernel_rfl) (by kernel_rfl) (by kernel_rfl) (e := Extern.BytealgCount.count) (by kernel_rfl), Lib.run_countString]
  simp only [Result.andThen]
  rw [Oper.upon_value]
  go_wp2
  go_ret
  exact ⟨rfl, rfl⟩

theorem vmixed : Tryz.prog.follows Departure.mixedOrders = true := by kernel_rfl
theorem vul50 : Tryz.prog.underlying 50 = some (.slice 5) := by kernel_rfl
theorem vul156 : Tryz.prog.underlying 156 = some (.pointer 5) := by kernel_rfl
theorem vcells5 : Tryz.prog.cellsOf 5 = 1 := by kernel_rfl

set_option maxHeartbeats 2000000 in
set_option maxRecDepth 100000 in
/-- String of a builder that holds something: its bytes; the row is frozen. -/
theorem wString (b g cap : Nat) (l : List UInt8) (h0 : l ≠ []) (cur : Array Value) (w : World) (c1 : w.cell? ⟨b, 1, none⟩ = some (.slice (some ⟨g, 0, none⟩) l.length cap)) (hg : w.heap[g]? = some (.cells cur 5 (0, 0)))
    (hcap : l.length ≤ cap) (hcm : cap ≤ maxLen) (hcs : cur.size = cap) (hb : ∀ j x, l[j]? = some x → w.cell? ((⟨g, 0, none⟩ : Addr).add j) = some (.int .u8 x.toNat)) :
    Calls Tryz.prog 72 #[.pointer (some ⟨b, 0, none⟩)] w fun e w' => e = .returned (.string ⟨l.toArray⟩) ∧ w' = w.drew.freeze ⟨g, 0, none⟩ l.length := by
  have hl0 : l.length ≠ 0 := by simpa using h0
  have c1 : w.drew.cell? ⟨b, 1, none⟩ = some (.slice (some ⟨g, 0, none⟩) l.length cap) := c1
  have hSD : (Builtin.unsafeSliceData_ #[50] 156 #[.slice (some ⟨g, 0, none⟩) l.length cap]).run Tryz.prog w.drew = .ok (.pointer (some ⟨g, 0, none⟩)) w.drew :=
    Lib.run_unsafeSliceData_row _ _ _ _ _ _ (by omega)
  have hUS : (Builtin.unsafeString_ #[156, 3] 9 #[.pointer (some ⟨g, 0, none⟩), .int .i64 l.length]).run Tryz.prog w.drew = .ok (.string ⟨l.toArray⟩) (w.drew.freeze ⟨g, 0, none⟩ l.length) := by
    refine Lib.run_unsafeString_row w.drew 156 3 9 5 vul156 vcells5 g cur.size (by have hg' : w.drew.heap[g]? = some (.cells cur 5 (0, 0)) := hg; simp [World.shape?, hg']) l h0 (by omega) (by unfold maxLen at hcm; omega) ?_
    intro j x hx
    exact hb j x hx
  have mixed := vmixed
  go_enter Tryz.func72, Tryz.ntmps72
  go_wp2
  go_region_o
  all_goals (go_wp2; go_ret; exact ⟨rfl, rfl⟩)
end Go.Proofs

/- The Builder's copy check and its String, and Count of one byte, said of abstract values. No conditions. -/
namespace Go.Proofs
open Go.Abs Go.Q
section
variable {G : Nat → Option Obj} {h : AHeap}

theorem acalls_wf {P : Program} {f : FuncId} {args : List AVal} {Post : AOut → AHeap → Prop} (hc : ACalls P G f args h Post) : ACalls P G f args h (fun out h' => Post out h' ∧ h'.Wf) :=
  fun w vs hr ha => (hc w vs hr ha).mono fun _ _ ⟨out, h', h1, h2, h3⟩ => ⟨out, h', ⟨h1, h2.wf⟩, h2, h3⟩

/-- A loop that ends in its first round. -/
theorem w_once {P : Program} {Q : AExit → Env → AHeap → Prop} {l : List Abs.Frame} {e : Env} {a : ACode} (hr : awp P G a (Run P G Q (.loop (fun e' h' n => n = 0 ∧ e' = e ∧ h' = h) 0 :: l)) e h) : awp P G (.loop a) (Run P G Q l) e h :=
  w_loop (fun e' h' n => n = 0 ∧ e' = e ∧ h' = h) e 0 (.refl e) ⟨rfl, rfl, rfl⟩ (by rintro _ _ _ ⟨rfl, rfl, rfl⟩; exact hr)

theorem reps_one {w : World} {x : AVal} {vs : List Value} (hr : Reps h w [x] vs) : ∃ v, vs = [v] ∧ Rep h w x v := by
  obtain ⟨hl, hr⟩ := hr
  match vs, hl with
  | [v], _ => exact ⟨v, rfl, hr 0 x v rfl rfl⟩
theorem reps_two {w : World} {x y : AVal} {vs : List Value} (hr : Reps h w [x, y] vs) : ∃ u v, vs = [u, v] ∧ Rep h w x u ∧ Rep h w y v := by
  obtain ⟨hl, hr⟩ := hr
  match vs, hl with
  | [u, v], _ => exact ⟨u, v, rfl, hr 0 x u rfl rfl, hr 1 y v rfl rfl⟩
theorem rep_tuple0 {w : World} : Rep h w (.tuple []) (.tuple #[]) := .tuple [] [] rfl fun i c v hc => by simp at hc

theorem c137u {g : Nat} {T : TypeId} {cs : List AVal} (hg : h.get g = some (.box T (.ptr g 0 :: cs))) : ACalls Tryz.prog G 137 [.ptr g 0] h (Gives (.tuple []) h) := by
  refine acalls_of fun w vs hr ha => ?_
  obtain ⟨v, rfl, hv⟩ := reps_one ha
  cases hv
  obtain ⟨us, hb, hc, _⟩ := hr.box g T _ hg
  have h0 : w.cell? ⟨g, 0, none⟩ = some (.pointer (some ⟨g, 0, none⟩)) := by
    obtain ⟨u, hu⟩ : ∃ u, us[0]? = some u := ⟨_, List.getElem?_eq_getElem (by rw [hc.1]; simp)⟩
    have h1 := hc.2 0 _ u rfl hu
    cases h1
    rw [cell_of rfl hb]
    simpa using hu
  refine (wCopyUsed g w h0).mono ?_
  rintro e w' ⟨rfl, rfl⟩
  exact ⟨_, h, ⟨rfl, rfl⟩, hr, .refl hr, _, rfl, rep_tuple0⟩

theorem c137f {g : Nat} {T : TypeId} {x : AVal} (hT : liesAt Tryz.prog Tryz.prog.depth T (2 / Tryz.prog.cellsOf T) 0 112 1 = true) (hg : h.get g = some (.box T [.nilptr, x])) :
    ACalls Tryz.prog G 137 [.ptr g 0] h (fun out h' => out = .ret (.tuple []) ∧ h' = h.set g (.box T [.ptr g 0, x])) := by
  refine acalls_of fun w vs hr ha => ?_
  obtain ⟨v, rfl, hv⟩ := reps_one ha
  cases hv
  obtain ⟨us, hb, hc, ho⟩ := hr.box g T _ hg
  obtain ⟨u0, u1, rfl, h0, h1⟩ := reps_two hc
  cases h0
  refine (wCopyFresh g T hT w (by rw [cell_of rfl hb]; rfl) (by simp [World.shape?, hb]) (by simp [World.frozen?, hb])).mono ?_
  rintro e w' ⟨rfl, rfl⟩
  rw [setCell_eq_setRow w g 0 _ T (0, 0) _ hb]
  refine ⟨_, _, ⟨rfl, rfl⟩, set_rel (us := [.pointer (some ⟨g, 0, none⟩), u1]) hr hg hb ⟨rfl, fun i c v hi hv => ?_⟩ (fun c hm => ?_), set_step hr hg hb _, _, rfl, rep_tuple0⟩
  · rcases i with _ | _ | i
    · obtain rfl : AVal.ptr g 0 = c := by simpa using hi
      obtain rfl := (by simpa using hv : Value.pointer (some ⟨g, 0, none⟩) = v)
      exact .ptr g 0
    · obtain rfl : x = c := by simpa using hi
      obtain rfl : u1 = v := by simpa using hv
      exact h1
    · simp at hi
  · rcases List.mem_cons.1 hm with rfl | hm
    · rfl
    · exact ho c (List.mem_cons_of_mem _ hm)

theorem freeze_ok {w : World} (hr : Rel G h w) {b : Nat} {T : TypeId} {l : Nat} (hb : h.get b = some (.row T l)) (n : Nat) : Rel G (h.erase b) (w.freeze ⟨b, 0, none⟩ n) ∧ Step h w (h.erase b) (w.freeze ⟨b, 0, none⟩ n) := by
  obtain ⟨vs, hv, hl⟩ := hr.row b T l hb
  have hother : ∀ x, x ≠ b → (w.freeze ⟨b, 0, none⟩ n).heap[x]? = w.heap[x]? := fun x hx => by
    unfold World.freeze
    split
    · rfl
    · simp only [Array.getElem?_modify]
      rw [if_neg (by simpa using fun e => hx e.symm)]
  have hself : ∃ f, (w.freeze ⟨b, 0, none⟩ n).heap[b]? = some (.cells vs T f) := by
    unfold World.freeze
    split
    · exact ⟨_, hv⟩
    · simp only [Array.getElem?_modify, if_true, hv, Option.map_some]
      exact ⟨_, rfl⟩
  have hget : ∀ x o, (h.erase b).get x = some o → x ≠ b ∧ h.get x = some o := fun x o hx => by
    simp only [AHeap.erase] at hx
    split at hx
    · cases hx
    · exact ⟨‹_›, hx⟩
  have hs : Step h w (h.erase b) (w.freeze ⟨b, 0, none⟩ n) := by
    refine ⟨?_, ?_, ?_, ?_, fun x _ hn => ?_, fun x T' len _ hh => ?_, fun x T' cs _ hh => ?_⟩
    · unfold World.freeze; split <;> rfl
    · unfold World.freeze; split <;> rfl
    · unfold World.freeze; split <;> rfl
    · unfold World.freeze; split <;> simp
    · have hne : x ≠ b := fun e => by rw [e, hb] at hn; cases hn
      exact ⟨hother x hne, by simp [AHeap.erase, hn]⟩
    · by_cases hne : x = b
      · subst hne
        rw [hb] at hh
        injection hh with hh
        injection hh with h1 h2
        subst h1; subst h2
        obtain ⟨f, hf⟩ := hself
        exact ⟨vs, vs, f, hv, hf, rfl, fun _ _ => rfl, .inl (by simp [AHeap.erase])⟩
      · obtain ⟨us, h1, _⟩ := hr.row x T' len hh
        exact ⟨us, us, (0, 0), h1, (hother x hne).trans h1, rfl, fun _ _ => rfl, .inr ⟨rfl, len, Nat.le_refl _, by simp [AHeap.erase, hne, hh]⟩⟩
    · have hne : x ≠ b := fun e => by rw [e, hb] at hh; cases hh
      exact .inr ⟨cs, by simp [AHeap.erase, hne, hh]⟩
  refine ⟨⟨fun x o hx => hr.wf x o (hget x o hx).2, Nat.le_trans hr.nxt hs.size, fun x T' cells hx => ?_, fun x T' len hx => ?_, fun x o hx => ?_⟩, hs⟩
  · obtain ⟨hne, hx⟩ := hget x _ hx
    obtain ⟨us, h1, h2, h3⟩ := hr.box x T' cells hx
    exact ⟨us, (hother x hne).trans h1, h2.step hs, h3⟩
  · obtain ⟨hne, hx⟩ := hget x _ hx
    obtain ⟨us, h1, h2⟩ := hr.row x T' len hx
    exact ⟨us, (hother x hne).trans h1, h2⟩
  · obtain ⟨h1, h2⟩ := hr.glob x o hx
    have hne : x ≠ b := fun e => by rw [e, hb] at h2; cases h2
    exact ⟨(hother x hne).trans h1, by simp [AHeap.erase, h2]⟩

theorem c72 {g b T l : Nat} {x : AVal} {s : Str} (hs : s ≠ []) (hg : h.get g = some (.box T [x, .sl 1 (bytesE s) (.own b)])) (hb : h.get b = some (.row 5 l)) :
    ACalls Tryz.prog G 72 [.ptr g 0] h (fun out h' => out = .ret (.str s) ∧ h' = h.erase b) := by
  refine acalls_of fun w vs hr ha => ?_
  obtain ⟨v, rfl, hv⟩ := reps_one ha
  cases hv
  obtain ⟨us, hub, hc, ho⟩ := hr.box g T _ hg
  obtain ⟨u0, u1, rfl, h0, h1⟩ := reps_two hc
  obtain ⟨cur, hcur, _⟩ := hr.row b 5 l hb
  have hlen := bytesE_length s
  generalize hes : bytesE s = es at h1 hlen
  cases h1 with
  | sl _ _ _ a cap ha hcap hsz hcells hrep hone hT =>
    obtain ⟨rfl, hcm, ⟨cur', T', f, hc', hcs⟩, _⟩ := hT
    rw [hcur] at hc'
    injection hc' with hc'
    injection hc' with e1 e2 e3
    subst e1; subst e2; subst e3
    rw [hlen] at hcap hcells hub
    have hdr := drew_rel hr
    have hfz := freeze_ok hdr hb s.length
    have hst : Step h w (h.erase b) (w.drew.freeze ⟨b, 0, none⟩ s.length) := (drew_step hr).trans hfz.2
    refine (wString g b cap s hs cur w (by rw [cell_of rfl hub]; rfl) hcur hcap hcm (by omega) fun j y hy => ?_).mono ?_
    · have hjl : j < s.length := (List.getElem?_eq_some_iff.1 hy).1
      obtain ⟨⟨u, hu⟩, _⟩ := hcells j (by omega)
      have h3 := hrep j 0 [.int .u8 y.toNat] (.int .u8 y.toNat) u (by rw [← hes]; simp [bytesE, hy]) rfl (by simpa using hu)
      cases h3
      exact hu
    · rintro e w' ⟨rfl, rfl⟩
      exact ⟨_, _, ⟨rfl, rfl⟩, hfz.1, hst, _, rfl, by have := Rep.str (h := h.erase b) (w := w.drew.freeze ⟨b, 0, none⟩ s.length) ⟨s.toArray⟩; simpa using this⟩

theorem c261 {s : Str} {c : UInt8} : ACalls Tryz.prog G 261 [.str s, .str [c]] h (Gives (.int .i64 (Lib.countByte s c)) h) := by
  refine acalls_of fun w vs hr ha => ?_
  obtain ⟨u, v, rfl, hu, hv⟩ := reps_two ha
  obtain ⟨t, rfl, rfl⟩ := hu.str_inv
  obtain ⟨t', rfl, ht'⟩ := hv.str_inv
  obtain rfl : t' = ⟨#[c]⟩ := by
    obtain ⟨⟨l⟩⟩ := t'
    simp only at ht'
    rw [ht']
  refine (wCount t c w).mono ?_
  rintro e w' ⟨rfl, rfl⟩
  exact ⟨_, h, ⟨rfl, rfl⟩, hr, .refl hr, _, rfl, .int _ _⟩
end
end Go.Proofs

/- Writing to a Builder in a writer. No conditions. -/
namespace Go.Proofs
open Go.Abs Go.Q
attribute [local irreducible] awp aops Run BodyQ ACalls Back

theorem ca137 : Callable Tryz.prog 137 := ⟨_, Tryz.func137, by kernel_rfl, by kernel_rfl⟩
theorem ca72 : Callable Tryz.prog 72 := ⟨_, Tryz.func72, by kernel_rfl, by kernel_rfl⟩
theorem ca261 : Callable Tryz.prog 261 := ⟨_, Tryz.func261, by kernel_rfl, by kernel_rfl⟩
theorem lies114 : liesAt Tryz.prog Tryz.prog.depth 114 (2 / Tryz.prog.cellsOf 114) 0 112 1 = true := by kernel_rfl

section
variable {G : Nat → Option Obj} {h : AHeap}

theorem s_append_g {P : Program} {Q : AExit → Env → AHeap → Prop} {r : List (AOp × List AOp)} {e : Env} {d : Nat} {chk : List AOp} {x y : Operand} {t u E s1 b1 s2 b2 sz by' : Nat} {k : AK} {es : List (List AVal)} {s : List UInt8} {tg : Tag} {z : List AVal} {z1 z2 : Option (List AVal)} (hx : Abs.look e x = some (true, .sl sz es tg)) (hy : Abs.look e y = some (true, .str s)) (hT : tyi P t = some ⟨s1, b1, .sl E, z1⟩) (hU : tyi P u = some ⟨s2, b2, .str, z2⟩) (hE : tyi P E = some ⟨1, by', k, some z⟩)
    (hz : (Nat.beq z.length 1 && Nat.blt 0 by') = true) (hs : s ≠ []) (hsz : sz = 1 ∨ tg = .nl) (hby : (es.length + s.length) * by' ≤ 140737488355328)
    (hn : growTo h E es.length (es.length + s.length) tg fun tg' h' => recheck P h' ((d, true, .sl 1 (es ++ bytesE s) tg') :: e) chk ∧ aops P G Q r ((d, true, .sl 1 (es ++ bytesE s) tg') :: e) h') :
    aops P G Q ((⟨some d, .call ⟨.builtin .append, #[x, y], #[t, u]⟩, none⟩, chk) :: r) e h := by
  simp only [Bool.and_eq_true] at hz
  have h1 := Nat.eq_of_beq_eq_true hz.1
  have h3 := Nat.le_of_ble_eq_true hz.2
  refine s_eff rfl (c2 hx hy (fun _ => rfl) (g := true) rfl) ?_
  obtain ⟨c, l, rfl⟩ : ∃ c l, s = c :: l := by
    cases s with
    | nil => exact absurd rfl hs
    | cons c l => exact ⟨c, l, rfl⟩
  simp only [aeff, hT, hU, lookv_of hx, lookv_of hy, aappend, hE, srcElems, if_true, List.map_cons, bytesE] at hn ⊢
  have hl : ∀ (l : List UInt8), (List.map (fun b => [AVal.int .u8 b.toNat]) l).length = l.length := fun l => List.length_map ..
  simp only [List.length_cons, List.length_append, hl, Nat.mul_one] at hby hn ⊢
  have hlen : es.length + (l.length + 1) ≤ 9223372036854775807 := by
    have : es.length + (l.length + 1) ≤ (es.length + (l.length + 1)) * by' := Nat.le_mul_of_pos_right _ h3
    omega
  exact ⟨hsz, Nat.one_pos, h1, hby, hlen, hn⟩

/-- A writer at g that holds s; what is its own lies from B on. -/
def Wr (B g : Nat) (s : Str) (h : AHeap) : Prop :=
  B ≤ g ∧ ((s = [] ∧ h.get g = some (.box 114 [.nilptr, .sl 0 [] .nl])) ∨ ∃ b, B ≤ b ∧ b ≠ g ∧ h.get g = some (.box 114 [.ptr g 0, .sl 1 (bytesE s) (.own b)]) ∧ h.get b = some (.row 5 s.length))

/-- All variables but g stand, and all that lies ahead of B. -/
structure Keep (B g : Nat) (h h' : AHeap) : Prop where
  next : h.next ≤ h'.next
  box : ∀ x T cs, x ≠ g → h.get x = some (.box T cs) → h'.get x = some (.box T cs)
  old : ∀ x o, x < B → h.get x = some o → h'.get x = some o

theorem Keep.refl {B g : Nat} : Keep B g h h := ⟨Nat.le_refl _, fun _ _ _ _ hx => hx, fun _ _ _ hx => hx⟩
theorem Keep.trans {B g : Nat} {h1 h2 h3 : AHeap} (a : Keep B g h1 h2) (b : Keep B g h2 h3) : Keep B g h1 h3 := ⟨Nat.le_trans a.next b.next, fun x T cs hx hh => b.box x T cs hx (a.box x T cs hx hh), fun x o hx hh => b.old x o hx (a.old x o hx hh)⟩
theorem Keep.new {B g b : Nat} {o : AObj} (hw : h.Wf) (hb : h.next ≤ b) : Keep B g h (h.new b o) := ⟨by simp only [new_next]; omega, fun x T cs _ hh => hn_ne (by have := hw x _ hh; omega) hh, fun x o _ hh => hn_ne (by have := hw x _ hh; omega) hh⟩
theorem Wr.lt {B g : Nat} {s : Str} (hw : h.Wf) (hW : Wr B g s h) : g < h.next := by
  rcases hW with ⟨_, ⟨_, hg⟩ | ⟨b, _, _, hg, _⟩⟩ <;> exact hw _ _ hg
theorem Wr.new {B g b : Nat} {s : Str} {o : AObj} (hw : h.Wf) (hb : h.next ≤ b) (hW : Wr B g s h) : Wr B g s (h.new b o) := by
  obtain ⟨hB, hW⟩ := hW
  refine ⟨hB, ?_⟩
  rcases hW with ⟨hs, hg⟩ | ⟨b', hBb, hne, hg, hr⟩
  · exact .inl ⟨hs, hn_ne (by have := hw _ _ hg; omega) hg⟩
  · exact .inr ⟨b', hBb, hne, hn_ne (by have := hw _ _ hg; omega) hg, hn_ne (by have := hw _ _ hr; omega) hr⟩
theorem Wr.set {B g b T : Nat} {s : Str} {cs cs' : List AVal} (hne : b ≠ g) (hbx : h.get b = some (.box T cs)) (hW : Wr B g s h) : Wr B g s (h.set b (.box T cs')) := by
  obtain ⟨hB, hW⟩ := hW
  refine ⟨hB, ?_⟩
  rcases hW with ⟨hs, hg⟩ | ⟨b', hBb, hb', hg, hr⟩
  · exact .inl ⟨hs, hs_ne (Ne.symm hne) hg⟩
  · exact .inr ⟨b', hBb, hb', hs_ne (Ne.symm hne) hg, hs_ne (fun e => by rw [e, hbx] at hr; cases hr) hr⟩

/-- What a writing function does. -/
def WP (B g : Nat) (s t : Str) (v : AVal) (h : AHeap) : AOut → AHeap → Prop := fun out h' => out = .ret v ∧ Wr B g (s ++ t) h' ∧ Keep B g h h'

set_option maxHeartbeats 1000000 in
theorem c68 {B g : Nat} {s t : Str} (hW : Wr B g s h) (ht : t ≠ []) (hl : s.length + t.length ≤ 1000000000) : ACalls Tryz.prog G 68 [.ptr g 0, .str t] h (WP B g s t (.tuple [.int .i64 t.length, .niliface]) h) := by
  refine en68 (by simp) fun hw => ?_
  have hlt := hW.lt hw
  obtain ⟨hB, hW⟩ := hW
  rcases hW with ⟨rfl, hg⟩ | ⟨b0, hB0, hne, hg, hr⟩
  · refine g1 ?_
    refine s_call rfl rfl rfl ca137 ?_
    refine (c137f lies114 hg).mono ?_
    rintro _ _ ⟨rfl, rfl⟩
    refine back trivial ?_
    refine g1 ?_
    refine s_append_g rfl rfl (tt rfl) (tt rfl) (tt rfl) rfl ht (.inr rfl) (by simp; omega) ?_
    refine fun b hb => ⟨trivial, ?_⟩
    simp only [set_next] at hb
    refine g1 ?_
    refine ⟨rfl, ⟨hB, .inr ⟨b, by omega, by omega, hs_self, ?_⟩⟩, ?_, fun x T cs hx hh => ?_, fun x o hx hh => ?_⟩
    · refine hs_ne (by omega) ?_
      rw [hn_self]
      simp
    · simp only [set_next, new_next]; omega
    · have := hw _ _ hh
      exact hs_ne hx (hn_ne (by omega) (hs_ne hx hh))
    · have := hw _ _ hh
      exact hs_ne (by omega) (hn_ne (by omega) (hs_ne (by omega) hh))
  · refine g1 ?_
    refine s_call rfl rfl rfl ca137 ?_
    refine (c137u hg).mono ?_
    rintro _ _ ⟨rfl, hh⟩
    obtain rfl := hh.symm
    refine back trivial ?_
    refine g1 ?_
    have hlen := bytesE_length s
    refine s_append_g rfl rfl (tt rfl) (tt rfl) (tt rfl) rfl ht (.inl rfl) (by omega) ?_
    have hb0 := hw _ _ hr
    simp only [growTo, hr, hlen]
    refine ⟨trivial, trivial, fun b hb => ⟨trivial, ?_⟩⟩
    have hgb : g ≠ b := by omega
    have hg2 : (h.move b0 b (.row 5 (s.length + t.length))).get g = some (.box 114 [.ptr g 0, .sl 1 (bytesE s) (.own b0)]) := hm_ne hgb (Ne.symm hne) hg
    refine g1 ?_
    refine ⟨rfl, ⟨hB, .inr ⟨b, by omega, Ne.symm hgb, ?_, ?_⟩⟩, ?_, fun x T cs hx hh => ?_, fun x o hx hh => ?_⟩
    · rw [hs_self]
      simp [bytesE, setCells, AVal.cells]
    · rw [hs_ne (Ne.symm hgb) hm_self]
      simp
    · simp only [set_next, AHeap.move]; omega
    · have := hw _ _ hh
      have hx0 : x ≠ b0 := fun e => by rw [e, hr] at hh; cases hh
      have hxb : x ≠ b := by
        rcases hb with rfl | hb
        · exact hx0
        · omega
      exact hs_ne hx (hm_ne hxb hx0 hh)
    · have := hw _ _ hh
      exact hs_ne (by omega) (hm_ne (by omega) (by omega) hh)

theorem wfw_new {b : Nat} {o : AObj} (hw : h.Wf) (hb : h.next ≤ b) : (h.new b o).Wf := fun x o' hx => by
  simp only [AHeap.new] at hx ⊢
  split at hx
  · omega
  · have := hw x o' hx; omega
theorem wfw_set {b T : Nat} {cs cs' : List AVal} (hw : h.Wf) (hb : h.get b = some (.box T cs)) : (h.set b (.box T cs')).Wf := fun x o' hx => by
  simp only [AHeap.set] at hx ⊢
  split at hx
  · rename_i he; rw [he]; exact hw b _ hb
  · exact hw x o' hx
theorem Keep.set {B g b T : Nat} {cs' : List AVal} {h0 : AHeap} (hw : h0.Wf) (hb : h0.next ≤ b) (k : Keep B g h0 h) : Keep B g h0 (h.set b (.box T cs')) :=
  ⟨k.next, fun x T' cs hx hh => hs_ne (by have := hw _ _ hh; omega) (k.box x T' cs hx hh), fun x o hx hh => hs_ne (by have := hw _ _ hh; omega) (k.old x o hx hh)⟩

section
variable {P : Program} {Q : AExit → Env → AHeap → Prop} {r : List (AOp × List AOp)} {e : Env} {d : Nat} {chk : List AOp} {v : AVal}
/-- A variable beside a writer. -/
theorem s_boxw {B g T : Nat} {s : Str} {x : Operand} (hw : h.Wf) (hW : Wr B g s h) (hx : Abs.look e x = some (true, v)) (hv : isTuple v = false)
    (hn : ∀ b h1, b ≠ g → h.next ≤ b → h1.Wf → Wr B g s h1 → Keep B g h h1 → h1.get b = some (.box T v.cells) → recheck P h1 ((d, true, .ptr b 0) :: e) chk ∧ aops P G Q r ((d, true, .ptr b 0) :: e) h1) :
    aops P G Q ((⟨some d, .box T x, none⟩, chk) :: r) e h :=
  s_box hx hv fun b hb => hn b _ (by have := hW.lt hw; omega) hb (wfw_new hw hb) (hW.new hw hb) (.new hw hb) hn_self
theorem s_allocw {B g T sz by' : Nat} {k : AK} {s : Str} {zz : List AVal} (hw : h.Wf) (hW : Wr B g s h) (ht : tyi P T = some ⟨sz, by', k, some zz⟩)
    (hn : ∀ b h1, b ≠ g → h.next ≤ b → h1.Wf → Wr B g s h1 → Keep B g h h1 → h1.get b = some (.box T zz) → recheck P h1 ((d, true, .ptr b 0) :: e) chk ∧ aops P G Q r ((d, true, .ptr b 0) :: e) h1) :
    aops P G Q ((⟨some d, .alloc T, none⟩, chk) :: r) e h :=
  s_alloc ht fun b hb => hn b _ (by have := hW.lt hw; omega) hb (wfw_new hw hb) (hW.new hw hb) (.new hw hb) hn_self
end
end
end Go.Proofs

/- Writing a quoted text, a condition, a token. No conditions. -/
namespace Go.Proofs
open Go.Abs Go.Q
attribute [local irreducible] awp aops Run BodyQ ACalls Back
section
variable {G : Nat → Option Obj} {h : AHeap}

/-- Replacing what is not there. -/
theorem c240 {s : Str} (h0 : Lib.countByte s 34 = 0) : ACalls Tryz.prog G 240 [.str s, .str [34], .str [34, 34], .int .i64 (-1)] h (Gives (.str s) h) := by
  have hc : ∀ h, ACalls Tryz.prog G 261 [.str s, .str [34]] h (Gives (.int .i64 0) h) := fun h => by
    have := c261 (G := G) (h := h) (s := s) (c := 34)
    rw [h0] at this
    exact this
  refine en240 (by simp) fun hw => ?_
  refine g1 ?_
  refine s_call rfl rfl rfl ca261 ?_
  refine (hc _).mono ?_
  rintro _ _ ⟨rfl, hh⟩
  obtain rfl := hh.symm
  refine back trivial ?_
  refine g1 ?_
  exact ⟨rfl, rfl⟩
theorem c213 {s : Str} (h0 : Lib.countByte s 34 = 0) : ACalls Tryz.prog G 213 [.str s, .str [34], .str [34, 34]] h (Gives (.str s) h) := by
  refine en213 (by simp) fun hw => ?_
  refine g1 ?_
  refine s_call rfl rfl rfl ca240 ?_
  refine (c240 h0).mono ?_
  rintro _ _ ⟨rfl, hh⟩
  obtain rfl := hh.symm
  refine back trivial ?_
  refine g1 ?_
  exact ⟨rfl, rfl⟩

theorem c176 {B g : Nat} {s x : Str} (hW : Wr B g s h) (h0 : Lib.countByte x 34 = 0) (hl : s.length + (x.length + 2) ≤ 1000000000) : ACalls Tryz.prog G 176 [.ptr g 0, .str x] h (WP B g s ([34] ++ x ++ [34]) (.tuple []) h) := by
  refine en176 (by simp) fun hw => ?_
  refine g1 ?_
  refine s_call rfl rfl rfl ca213 ?_
  refine (c213 h0).mono ?_
  rintro _ _ ⟨rfl, hh⟩
  obtain rfl := hh.symm
  refine back trivial ?_
  refine g1 ?_
  refine s_call rfl rfl rfl ca68 ?_
  refine (acalls_wf (c68 hW (by simp) (by simp; omega))).mono ?_
  rintro _ h2 ⟨⟨rfl, W2, k2⟩, w2⟩
  refine back trivial ?_
  refine g1 ?_
  exact ⟨rfl, W2, k2⟩

/-- A quoted text and the sign of folding. -/
def valueF (x : Str) (fold : Bool) : Str := [34] ++ x ++ [34] ++ (if fold then [37, 99] else [])

theorem c138 {B g : Nat} {s x : Str} {fold : Bool} (hW : Wr B g s h) (h0 : Lib.countByte x 34 = 0) (hl : s.length + (x.length + 4) ≤ 1000000000) : ACalls Tryz.prog G 138 [.ptr g 0, .str x, .bool fold] h (WP B g s (valueF x fold) (.tuple []) h) := by
  refine en138 (by simp) fun hw => ?_
  refine g1 ?_
  refine s_call rfl rfl rfl ca176 ?_
  refine (acalls_wf (c176 hW h0 (by omega))).mono ?_
  rintro _ h2 ⟨⟨rfl, W2, k2⟩, w2⟩
  refine back trivial ?_
  cases fold with
  | true =>
    refine g1 ?_
    refine s_call rfl rfl rfl ca68 ?_
    refine (acalls_wf (c68 W2 (by simp) (by simp; omega))).mono ?_
    rintro _ h3 ⟨⟨rfl, W3, k3⟩, w3⟩
    refine back trivial ?_
    refine g1 ?_
    exact ⟨rfl, by simpa [valueF] using W3, k2.trans k3⟩
  | false =>
    refine g1 ?_
    exact ⟨rfl, by simpa [valueF] using W2, k2⟩

set_option maxHeartbeats 1000000 in
/-- A comparison with a value. -/
theorem c173v {B g : Nat} {s name x : Str} {fold : Bool} (hW : Wr B g s h) (hn : name ≠ []) (h0 : Lib.countByte x 34 = 0) (hl : s.length + (name.length + x.length + 5) ≤ 1000000000) :
    ACalls Tryz.prog G 173 [.ptr g 0, encCa (.mk 2 name [] x [] fold [])] h (WP B g s (name ++ [61] ++ valueF x fold) (.tuple []) h) := by
  refine en173 (by simp) fun hw => ?_
  have e1 : (name != []) = true := by simp [hn]
  refine g1 ?_
  refine s_boxw hw hW rfl rfl fun b1 h1 n1 hbb1 w1 W1 k1 gb1 => ⟨trivial, ?_⟩
  refine g1 ?_
  refine s_boxw w1 W1 rfl rfl fun b2 h2 n2 hbb2 w2 W2 k2 gb2 => ⟨trivial, ?_⟩
  have gb1 := k2.box _ _ _ n1 gb1
  refine g1 ?_
  refine s_call rfl rfl rfl ca68 ?_
  refine (acalls_wf (c68 W2 (by simp) (by simp; omega))).mono ?_
  rintro _ h3 ⟨⟨rfl, W3, k3⟩, w3⟩
  refine back trivial ?_
  have gb1 := k3.box _ _ _ n1 gb1
  have gb2 := k3.box _ _ _ n2 gb2
  refine g1 ?_
  refine s_call rfl rfl rfl ca138 ?_
  refine (acalls_wf (c138 W3 h0 (by simp; omega))).mono ?_
  rintro _ h4 ⟨⟨rfl, W4, k4⟩, w4⟩
  refine back trivial ?_
  refine g1 ?_
  exact ⟨rfl, by simpa using W4, ((k1.trans k2).trans k3).trans k4⟩

def tokF (name x : Str) (fold : Bool) : Str := [91] ++ (name ++ [61] ++ valueF x fold) ++ [93]

set_option maxHeartbeats 1000000 in
/-- A token pattern that compares with a value. -/
theorem c132v {B g : Nat} {s name x : Str} {fold : Bool} (hW : Wr B g s h) (hn : name ≠ []) (h0 : Lib.countByte x 34 = 0) (hl : s.length + (name.length + x.length + 7) ≤ 1000000000) :
    ACalls Tryz.prog G 132 [.ptr g 0, encPa (.mk 1 (.mk 2 name [] x [] fold []) [] [] 0 0 [])] h (WP B g s (tokF name x fold) (.tuple []) h) := by
  refine en132 (by simp) fun hw => ?_
  have e1 : (name == []) = false := by simp [hn]
  refine g1 ?_
  refine s_boxw hw hW rfl rfl fun b1 h1 n1 hbb1 w1 W1 k1 gb1 => ⟨trivial, ?_⟩
  refine g1 ?_
  refine s_call rfl rfl rfl ca68 ?_
  refine (acalls_wf (c68 W1 (by simp) (by simp; omega))).mono ?_
  rintro _ h2 ⟨⟨rfl, W2, k2⟩, w2⟩
  refine back trivial ?_
  have gb1 := k2.box _ _ _ n1 gb1
  refine g1 ?_
  refine s_call rfl rfl rfl ca173 ?_
  refine (acalls_wf (c173v W2 hn h0 (by simp; omega))).mono ?_
  rintro _ h3 ⟨⟨rfl, W3, k3⟩, w3⟩
  refine back trivial ?_
  refine g1 ?_
  refine s_call rfl rfl rfl ca68 ?_
  refine (acalls_wf (c68 W3 (by simp) (by simp [valueF]; cases fold <;> simp <;> omega))).mono ?_
  rintro _ h4 ⟨⟨rfl, W4, k4⟩, w4⟩
  refine back trivial ?_
  refine g1 ?_
  exact ⟨rfl, by simpa [tokF] using W4, ((k1.trans k2).trans k3).trans k4⟩
end
end Go.Proofs
