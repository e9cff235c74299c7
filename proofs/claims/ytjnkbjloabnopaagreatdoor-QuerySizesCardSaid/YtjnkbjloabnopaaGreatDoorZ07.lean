/- From a body to a call; forgetting at the end what nobody needs. Over any program that follows mixed orders; no conditions. -/
import Derived.Test.YtjnkbjloabnopaaGreatDoorZ06
import Derived.Test.YtjnkbjloabnopaaGreatDoorProg
import Derived.KernelRfl
namespace Go.Abs

def envFrom : Nat → List AVal → Env
  | _, [] => []
  | i, v :: r => (i, true, v) :: envFrom (i + 1) r

def aret (P : Program) (h : AHeap) (e : Env) : List ResultVar → (List AVal → Prop) → Prop
  | [], K => K []
  | .tmp t :: r, K => match e.get t with
    | some (c, v) => c = true ∧ aret P h e r fun l => K (v :: l)
    | none => False
  | .cell a T :: r, K => match e.get a, tyi P T with
    | some (c, x), some i => c = true ∧ (match ACellsAt h x with
      | some cs => (match aload i cs with
        | some v => aret P h e r fun l => K (v :: l)
        | none => False)
      | none => False)
    | _, _ => False

def tupleOf : List AVal → AVal
  | [v] => v
  | l => .tuple l

/-- What a body must come to. -/
def BodyQ (P : Program) (rs : List ResultVar) (Post : AOut → AHeap → Prop) : AExit → Env → AHeap → Prop
  | .normal, e, h => aret P h e rs fun l => Post (.ret (tupleOf l)) h
  | .ret, e, h => aret P h e rs fun l => Post (.ret (tupleOf l)) h
  | .panic v, _, h => Post (.panic v) h
  | .exit _, _, _ => False

inductive WeakOut : AOut → AOut → Prop where
  | ret (x y : AVal) (h : Weak x y) : WeakOut (.ret x) (.ret y)
  | panic (x y : AVal) (h : Weak x y) : WeakOut (.panic x) (.panic y)

/-- What a call may be said to end in. -/
def Fin (Post : AOut → AHeap → Prop) (out : AOut) (h : AHeap) : Prop := ∃ out' h', WeakOut out out' ∧ Sub h' h ∧ Post out' h'

section
variable {P : Program} {G : Nat → Option Obj} {h h' : AHeap} {w : World}

theorem Sub.refl (hw : h.Wf) : Sub h h := ⟨Nat.le_refl _, hw, fun g o hg => by
  cases o with
  | row T l => exact .inl ⟨T, l, rfl, hg⟩
  | box T cs => exact .inr ⟨T, cs, cs, rfl, hg, .refl cs⟩⟩

theorem Sub.new (hs : Sub h' h) {g : Nat} (hg : h.next ≤ g) (o : AObj) : Sub h' (h.new g o) where
  next := by have := hs.next; simp [AHeap.new]; omega
  wf := hs.wf
  get := fun x o' hx => by
    have : x ≠ g := by have := hs.wf x o' hx; have := hs.next; omega
    simpa [AHeap.new, this] using hs.get x o' hx

theorem Sub.move (hs : Sub h' h) {g0 g : Nat} (hg : g = g0 ∨ h.next ≤ g) (h0 : h'.next ≤ g0) (o : AObj) : Sub h' (h.move g0 g o) where
  next := by have := hs.next; simp only [AHeap.move]; omega
  wf := hs.wf
  get := fun x o' hx => by
    have h1 : x ≠ g := by have := hs.wf x o' hx; have := hs.next; omega
    have h2 : x ≠ g0 := by have := hs.wf x o' hx; omega
    simpa [AHeap.move, h1, h2] using hs.get x o' hx

theorem Sub.setl (hs : Sub h' h) {g : Nat} (hg : h'.next ≤ g) (o : AObj) : Sub h' (h.set g o) where
  next := hs.next
  wf := hs.wf
  get := fun x o' hx => by
    have : x ≠ g := by have := hs.wf x o' hx; omega
    simpa [AHeap.set, this] using hs.get x o' hx

theorem Sub.erasel (hs : Sub h' h) {g : Nat} (hg : h'.next ≤ g) : Sub h' (h.erase g) where
  next := hs.next
  wf := hs.wf
  get := fun x o' hx => by
    have : x ≠ g := by have := hs.wf x o' hx; omega
    simpa [AHeap.erase, this] using hs.get x o' hx

theorem Sub.set (hs : Sub h' h) {g : Nat} {T : TypeId} {cs cs' : List AVal} (hg : g < h'.next) (hw : WeakL cs cs') : Sub (h'.set g (.box T cs')) (h.set g (.box T cs)) where
  next := hs.next
  wf := fun x o hx => by
    simp only [AHeap.set] at hx ⊢
    split at hx
    · rename_i he; rw [he]; exact hg
    · exact hs.wf x o hx
  get := fun x o hx => by
    simp only [AHeap.set] at hx ⊢
    split at hx
    · rename_i he
      injection hx with hx
      subst hx
      exact .inr ⟨T, cs, cs', rfl, by rw [if_pos he], hw⟩
    · rename_i he
      rw [if_neg he]
      exact hs.get x o hx

theorem Sub.erase (hs : Sub h' h) (g : Nat) : Sub (h'.erase g) h where
  next := hs.next
  wf := fun x o hx => by
    simp only [AHeap.erase] at hx ⊢
    split at hx
    · cases hx
    · exact hs.wf x o hx
  get := fun x o hx => by
    simp only [AHeap.erase] at hx
    split at hx
    · cases hx
    · exact hs.get x o hx

theorem RepOut.fin {out out' : AOut} {e : Ending} (hw : WeakOut out out') (hr : RepOut h w out e) : RepOut h w out' e := by
  cases hw with
  | ret x y hxy => obtain ⟨v, h1, h2⟩ := hr; exact ⟨v, h1, h2.weak hxy⟩
  | panic x y hxy => obtain ⟨v, h1, h2⟩ := hr; exact ⟨v, h1, h2.weak hxy⟩

theorem RepOut.step {out : AOut} {e : Ending} {w' : World} (hs : Step h w h' w') (hr : RepOut h w out e) : RepOut h' w' out e := by
  cases out with
  | ret x => obtain ⟨v, h1, h2⟩ := hr; exact ⟨v, h1, h2.step hs⟩
  | panic x => obtain ⟨v, h1, h2⟩ := hr; exact ⟨v, h1, h2.step hs⟩

theorem ACalls.fin {f : FuncId} {args : List AVal} {Post : AOut → AHeap → Prop} (hc : ACalls P G f args h (Fin Post)) : ACalls P G f args h Post :=
  fun w vs hr ha => (hc w vs hr ha).mono fun e w' ⟨out, h1, ⟨out', h2, hw, hs, hp⟩, k1, k2, k3⟩ =>
    ⟨out', h2, hp, hs.rel k1, k2.trans (hs.step k1), (k3.fin hw).step (hs.step k1)⟩

/-- The heap of a call is in order, and may be told with less. -/
theorem ACalls.wf {f : FuncId} {args : List AVal} {Post : AOut → AHeap → Prop} (hc : h.Wf → ACalls P G f args h Post) : ACalls P G f args h Post :=
  fun w vs hr ha => hc hr.wf w vs hr ha

theorem ACalls.sub {f : FuncId} {args : List AVal} {Post : AOut → AHeap → Prop} (hs : Sub h' h) (hc : ACalls P G f args h' Post) : ACalls P G f args h Post :=
  fun w vs hr ha => (hc w vs (hs.rel hr) (ha.step (hs.step hr))).mono fun e w' ⟨out, h1, hp, k1, k2, k3⟩ => ⟨out, h1, hp, k1, (hs.step hr).trans k2, k3⟩

theorem envFrom_get : ∀ (xs : List AVal) (i t : Nat) (c : Bool) (v : AVal), (envFrom i xs).get t = some (c, v) → ∃ j, t = i + j ∧ c = true ∧ xs[j]? = some v
  | [], i, t, c, v, h => by simp [envFrom, Env.get] at h
  | x :: r, i, t, c, v, h => by
    simp only [envFrom, Env.get] at h
    split at h
    · rename_i he
      injection h with h
      simp only [Prod.mk.injEq] at h
      obtain ⟨rfl, rfl⟩ := h
      exact ⟨0, by omega, rfl, rfl⟩
    · obtain ⟨j, h1, h2, h3⟩ := envFrom_get r (i + 1) t c v h
      exact ⟨j + 1, by omega, h2, by simpa using h3⟩

theorem enter_env {args : List AVal} {vs : List Value} {n : Nat} (hn : args.length ≤ n) (ha : Reps h w args vs) : EnvRep h w n (envFrom 0 args) (vs.toArray ++ Array.replicate (n - vs.toArray.size) undef) := by
  have hl := ha.1
  refine ⟨by simp; omega, fun t c v ht => ?_⟩
  obtain ⟨j, rfl, rfl, hj⟩ := envFrom_get args 0 t c v ht
  have hlt := (List.getElem?_eq_some_iff.1 hj).1
  refine ⟨by omega, .inr ⟨fun _ => ?_, fun hc => by cases hc⟩⟩
  have hv : (vs.toArray ++ Array.replicate (n - vs.toArray.size) undef).getD (0 + j) undef = vs[j]'(by omega) := by
    rw [Array.getD_eq_getD_getElem?, Array.getElem?_append_left (by simp; omega)]
    simp [List.getElem?_eq_getElem (show j < vs.length by omega)]
  rw [hv]
  exact ha.2 j v _ hj (List.getElem?_eq_getElem (by omega))

def resOf (tmps : Array Value) : ResultVar → Sem Value
  | .tmp t => pure (tmps.getD t undef)
  | .cell a t => do loadVar t (← asAddr (tmps.getD a undef))

theorem results_eq (fn : Func) (tmps : Array Value) : results fn tmps = (do let vs ← fn.results.mapM (resOf tmps); pure (if h : vs.size = 1 then vs[0] else .tuple vs)) := by
  unfold results
  congr

theorem aret_ok {N : Nat} {e : Env} {tmps : Array Value} (hr : Rel G h w) (he : EnvRep h w N e tmps) : ∀ (rs : List ResultVar) (K : List AVal → Prop), aret P h e rs K →
    ∃ (xs : List AVal) (vs : List Value), K xs ∧ Reps h w xs vs ∧ (rs.mapM (resOf tmps)).run P w = .ok vs w
  | [], K, hk => ⟨[], [], hk, ⟨rfl, fun i c v hi => by simp at hi⟩, rfl⟩
  | .tmp t :: r, K, hk => by
    simp only [aret] at hk
    split at hk
    · rename_i c v ht
      obtain ⟨hc, hk⟩ := hk
      obtain ⟨xs, vs, h1, h2, h3⟩ := aret_ok hr he r _ hk
      have hv := ((he.2 t c v ht).2.resolve_left (fun h => h)).1 hc
      refine ⟨v :: xs, tmps.getD t undef :: vs, h1, ⟨by simp [h2.1], fun i c u hi hu => ?_⟩, ?_⟩
      · cases i with
        | zero => simp at hi hu; subst hi; subst hu; simpa using hv
        | succ i => exact h2.2 i c u (by simpa using hi) (by simpa using hu)
      · have hres : (resOf tmps (.tmp t)).run P w = .ok (tmps.getD t undef) w := rfl
        simp only [List.mapM_cons, Sem.run_bind, Sem.run_pure, Result.andThen_ok, hres, h3]
    · exact hk.elim
  | .cell a T :: r, K, hk => by
    simp only [aret] at hk
    split at hk
    · rename_i c x i ht hti
      obtain ⟨hc, hk⟩ := hk
      split at hk
      · rename_i cs hcs
        split at hk
        · rename_i y hy
          obtain ⟨xs, vs, h1, h2, h3⟩ := aret_ok hr he r _ hk
          have hv := ((he.2 a c x ht).2.resolve_left (fun h => h)).1 hc
          obtain ⟨u, hu1, hu2⟩ := load_ok (P := P) hti hr hcs hv hy
          obtain ⟨A, hA, _⟩ := cellsAt_rep hr hcs hv
          refine ⟨y :: xs, u :: vs, h1, ⟨by simp [h2.1], fun i c v hi hv => ?_⟩, ?_⟩
          · cases i with
            | zero => simp at hi hv; subst hi; subst hv; exact hu2
            | succ i => exact h2.2 i c v (by simpa using hi) (by simpa using hv)
          · rw [hA] at hu1
            simp only [Instr.loadAt, Instr.sureAddr, Sem.run_bind, Sem.run_pure, Result.andThen_ok] at hu1
            have hres : (resOf tmps (.cell a T)).run P w = .ok u w := by
              simp only [resOf, hA, asAddr, Sem.run_bind, Sem.run_pure, Result.andThen_ok, hu1]
            simp only [List.mapM_cons, Sem.run_bind, Sem.run_pure, Result.andThen_ok, hres, h3]
        · exact hk.elim
      · exact hk.elim
    · exact hk.elim

/-- FROM A BODY TO A CALL. -/
theorem acalls_enter {f : FuncId} {fn : Func} {c : Code} {ac : ACode} {n : Nat} {rs : List ResultVar} {args : List AVal} {Post : AOut → AHeap → Prop} (hm : P.follows .mixedOrders = true) (hf : P.funcs[f]? = some fn) (hb : fn.body = some c) (hn : fn.ntmps = n)
    (hrs : fn.results.toList = rs) (ht : trCode n c = some ac) (hl : args.length ≤ n) (hx : h.Wf → awp P G ac (BodyQ P rs Post) (envFrom 0 args) h) : ACalls P G f args h Post := by
  subst hn
  subst hrs
  intro w vs hr ha
  refine calls_of_wp hf hb (wp_mono (awp_ok hm c ac ht _ _ h _ w (hx hr.wf) hr (enter_env hl ha) rfl) fun ex a' w' hc => ?_)
  obtain ⟨axt, e', h', q1, q2, q3, q4, q5, q6⟩ := hc
  have hret : aret P h' e' fn.results.toList (fun l => Post (.ret (tupleOf l)) h') → a'.defers = [] ∧ ∃ v, (results fn a'.tmps).run P w' = .ok v w' ∧ ∃ out h', Post out h' ∧ Rel G h' w' ∧ Step h w h' w' ∧ RepOut h' w' out (.returned v) := by
    intro hk
    obtain ⟨xs, us, k1, k2, k3⟩ := aret_ok q3 q5 _ _ hk
    refine ⟨q6, if h1 : us.toArray.size = 1 then us.toArray[0] else .tuple us.toArray, ?_, .ret (tupleOf xs), h', k1, q3, q4, _, rfl, ?_⟩
    · rw [results_eq, Array.mapM_eq_mapM_toList]
      simp only [Sem.run_bind, Sem.run_map, k3, Result.andThen_ok, Sem.run_pure]
    · have hlen := k2.1
      match xs, us, hlen, k2 with
      | [], [], _, k2 => simpa [tupleOf] using Rep.tuple [] [] rfl k2.2
      | [x], [u], _, k2 => simpa [tupleOf] using k2.2 0 x u rfl rfl
      | x :: y :: r, u :: v :: s, _, k2 => simpa [tupleOf] using Rep.tuple _ _ k2.1 k2.2
  cases axt with
  | normal => obtain rfl := q2; exact hret q1
  | ret => obtain rfl := q2; exact hret q1
  | exit i => exact q1.elim
  | panic v =>
    obtain ⟨u, rfl, hu⟩ := q2
    exact ⟨q6, .panic v, h', q1, q3, q4, u, rfl, hu⟩

end
/-! ### what is left to do, as a list -/

inductive Frame where
  | code (b : ACode)
  | block (id : Nat)
  | loop (I : Env → AHeap → Nat → Prop) (n : Nat)

/-- What must hold behind a piece of code: the frames that are left, the innermost first, then Q. -/
def Run (P : Program) (G : Nat → Option Obj) (Q : AExit → Env → AHeap → Prop) : List Frame → AExit → Env → AHeap → Prop
  | [], x, e, h => Q x e h
  | .code b :: l, x, e, h => match x with
    | .normal => awp P G b (Run P G Q l) e h
    | x => Run P G Q l x e h
  | .block id :: l, x, e, h => match x with
    | .exit i => if i = id then Run P G Q l .normal e h else Run P G Q l (.exit i) e h
    | x => Run P G Q l x e h
  | .loop I n :: l, x, e, h => match x with
    | .normal => ∃ e0 h0 m, m < n ∧ EnvLe e0 e ∧ (h0 = h ∨ Sub h0 h) ∧ I e0 h0 m
    | x => Run P G Q l x e h

section
variable {P : Program} {G : Nat → Option Obj} {Q : AExit → Env → AHeap → Prop} {l : List Frame} {e : Env} {h : AHeap} {v : AVal}

theorem run_nil : Run P G Q [] = Q := rfl
theorem run_code {b : ACode} : Run P G Q (.code b :: l) = AExit.then (awp P G b (Run P G Q l)) (Run P G Q l) := by
  funext x e h; cases x <;> rfl
theorem run_block {id : Nat} : Run P G Q (.block id :: l) = AExit.inBlock id (Run P G Q l) := by
  funext x e h; cases x <;> rfl
theorem run_loop {I : Env → AHeap → Nat → Prop} {n : Nat} : Run P G Q (.loop I n :: l) = AExit.then (fun e' h' => ∃ e0 h0 m, m < n ∧ EnvLe e0 e' ∧ (h0 = h' ∨ Sub h0 h') ∧ I e0 h0 m) (Run P G Q l) := by
  funext x e h; cases x <;> rfl

theorem run_ret (hq : Q .ret e h) : Run P G Q l .ret e h := by
  induction l with
  | nil => exact hq
  | cons f l ih => cases f <;> exact ih
theorem run_panic (hq : Q (.panic v) e h) : Run P G Q l (.panic v) e h := by
  induction l with
  | nil => exact hq
  | cons f l ih => cases f <;> exact ih

/-- The frames behind the block that an exit leaves. -/
def leave (i : Nat) : List Frame → Option (List Frame)
  | [] => none
  | .block id :: l => bif Nat.beq i id then some l else leave i l
  | _ :: l => leave i l

theorem run_exit {i : Nat} {l' : List Frame} (hl : leave i l = some l') (hq : Run P G Q l' .normal e h) : Run P G Q l (.exit i) e h := by
  induction l with
  | nil => cases hl
  | cons f l ih =>
    cases f with
    | code b => exact ih hl
    | loop I n => exact ih hl
    | block id =>
      simp only [leave] at hl
      cases hb : Nat.beq i id with
      | true =>
        rw [hb] at hl
        injection hl with hl
        subst hl
        have := Nat.eq_of_beq_eq_true hb
        subst this
        simpa [Run] using hq
      | false =>
        rw [hb] at hl
        have hne : i ≠ id := fun h => by subst h; simp at hb
        simpa [Run, hne] using ih hl
end

end Go.Abs

/- Words that tie our codes to the loaded program of this seat. No conditions. -/
namespace Go.Proofs
open Go.Abs

theorem mixed : Tryz.prog.follows .mixedOrders = true := by kernel_rfl

theorem acalls_enter_b {G : Nat → Option Obj} {f : FuncId} {fn : Func} {ac : ACode} {n : Nat} {rs : List ResultVar} {args : List AVal} {h : AHeap} {Post : AOut → AHeap → Prop} {P : Program} (hm : P.follows .mixedOrders = true) (hf : P.funcs[f]? = some fn) (hn : fn.ntmps = n)
    (hrs : fn.results.toList = rs) (ht : fn.body.bind (trCode n) = some ac) (hl : args.length ≤ n) (hx : h.Wf → awp P G ac (Run P G (BodyQ P rs Post) []) (envFrom 0 args) h) : ACalls P G f args h Post := by
  obtain ⟨c, hb, hc⟩ := Option.bind_eq_some_iff.1 ht
  exact acalls_enter hm hf hb hn hrs hc hl hx

end Go.Proofs
