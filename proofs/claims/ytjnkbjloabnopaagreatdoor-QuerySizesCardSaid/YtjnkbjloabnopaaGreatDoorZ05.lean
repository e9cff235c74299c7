/- A region that draws its order comes, in every order, to what our one order says: operations that turn memory stand in a chain, all others may wait. Over any program; no conditions. -/
import Derived.Test.YtjnkbjloabnopaaGreatDoorZ04
namespace Go.Abs

instance : Inhabited AOp := ⟨{ dst := none, op := .alloc 0, guard := none }⟩

def okPair (xs : List AOp) (cl : List Nat) (i j : Nat) : Bool :=
  match (xs.getD j default).dst with
  | none => true
  | some d => !(readsOf (xs.getD i default)).contains d || bef cl j i || (isEff xs (xs.getD j default) && bef cl i j)

def okDst (xs : List AOp) (i j : Nat) : Bool :=
  i == j || (match (xs.getD i default).dst, (xs.getD j default).dst with
  | some a, some b => a != b
  | _, _ => true)

def okOrd (xs : List AOp) (cl : List Nat) : List Nat → Bool
  | [] => true
  | i :: r => r.all (fun k => !bef cl k i && k != i) && (!isEff xs (xs.getD i default) || r.all (fun k => bef cl i k)) && okOrd xs cl r

def drawOk (xs : List AOp) (cl ord : List Nat) : Bool :=
  ord.all (fun i => decide (i < xs.length)) && (List.range xs.length).all (fun i => ord.contains i) &&
  (List.range xs.length).all (fun i => (List.range xs.length).all fun j => okPair xs cl i j && okDst xs i j) && okOrd xs cl ord && xs.all (fun x => !quietOp x.op || x.dst.isSome)

def items (xs : List AOp) (cl : List Nat) : List Nat → List Nat → List (AOp × List AOp)
  | _, [] => []
  | prev, i :: r => (xs.getD i default, bif isEff xs (xs.getD i default) then (prev.filter fun k => isLoad (xs.getD k default).op && !bef cl k i).map (xs.getD · default) else []) :: items xs cl (i :: prev) r

/-- It reads as it did, or is not wanted. -/
def Reval (P : Program) (h : AHeap) (e : Env) (x : AOp) : Prop :=
  ∃ g d, gcond e x.guard = some g ∧ x.dst = some d ∧ (g = true → ∃ p v, aread P h e true x.op = some (p, v) ∧ p ∧ e.get d = some (true, v)) ∧ (g = false → ∃ v, e.get d = some (false, v))

theorem reval_of_reload {P : Program} {h : AHeap} {e : Env} {x : AOp} (hx : reload P h e x) : Reval P h e x := by
  unfold reload at hx
  split at hx
  · rename_i g d hg hd
    refine ⟨g, d, hg, hd, fun ht => ?_, hx.2⟩
    have := hx.1 ht
    split at this
    · rename_i p v hr
      exact ⟨p, v, hr, this.1, this.2⟩
    · exact this.elim
  · exact hx.elim

theorem reload_of_recheck {P : Program} {h : AHeap} {e : Env} : ∀ {l : List AOp}, recheck P h e l → ∀ x, x ∈ l → reload P h e x
  | [], _, _, hx => absurd hx List.not_mem_nil
  | y :: r, hc, x, hx => by
    rcases List.mem_cons.1 hx with rfl | hx
    · exact hc.1
    · exact reload_of_recheck hc.2 x hx

/-! ### what an operation reads -/

theorem look_put {e : Env} {d : Option Nat} {c : Bool} {v : AVal} {x : Operand} (hx : ∀ t, x = .tmp t → d ≠ some t) : look (e.put d c v) x = look e x := by
  cases x with
  | tmp t =>
    cases d with
    | none => rfl
    | some d =>
      have : t ≠ d := fun h => hx t rfl (by rw [h])
      simp [look, Env.put, Env.get, this]
  | const _ => rfl
  | func _ => rfl
  | global _ => rfl

theorem avals_congr {ρ ρ' : Operand → Option AVal} : ∀ {l : List Operand}, (∀ y, y ∈ l → ρ' y = ρ y) → avals ρ' l = avals ρ l
  | [], _ => rfl
  | x :: r, h => by simp only [avals]; rw [h x List.mem_cons_self, avals_congr (fun y hy => h y (List.mem_cons_of_mem _ hy))]

theorem aparts_congr {ρ ρ' : Operand → Option AVal} : ∀ {l : List (Nat × Operand)}, (∀ y, y ∈ l.map (·.2) → ρ' y = ρ y) → aparts ρ' l = aparts ρ l
  | [], _ => rfl
  | (i, x) :: r, h => by simp only [aparts]; rw [h x List.mem_cons_self, aparts_congr (fun y hy => h y (List.mem_cons_of_mem _ hy))]

theorem ard_congr {P : Program} {h h' : AHeap} {ρ ρ' : Operand → Option AVal} {op : Op} (hq : quietOp op = true) (hp : ∀ c a b, op ≠ .pick c a b) (hh : h' = h ∨ isLoad op = false) (hρ : ∀ y, y ∈ op.operands.toList → ρ' y = ρ y) : ard P h' ρ' op = ard P h ρ op := by
  cases op <;> (try (exact absurd hq Bool.false_ne_true)) <;> (try (exact absurd rfl (hp _ _ _))) <;> simp only [ard]
  case move x => rw [hρ x (by simp [Op.operands])]
  case assign x => rw [hρ x (by simp [Op.operands])]
  case build t ps => rw [aparts_congr (fun y hy => hρ y (by simpa [Op.operands] using hy))]
  case buildSlice t n ps => rw [aparts_congr (fun y hy => hρ y (by simpa [Op.operands] using hy))]
  case load T a =>
    rcases hh with rfl | hl
    · rw [hρ a (by simp [Op.operands])]
    · cases hl
  case nilCheck x => rw [hρ x (by simp [Op.operands])]
  case binOp op T x y yT => rw [hρ x (by simp [Op.operands]), hρ y (by simp [Op.operands])]
  case unOp op T x => rw [hρ x (by simp [Op.operands])]
  case convert s d x => rw [hρ x (by simp [Op.operands])]
  case makeInterface T x => rw [hρ x (by simp [Op.operands])]
  case makeFunc fn a c =>
    rw [avals_congr (ρ := ρ) (ρ' := ρ') (l := a.toList) (fun y hy => hρ y (by simp [Op.operands]; exact .inl (by simpa using hy))), avals_congr (ρ := ρ) (ρ' := ρ') (l := c.toList) (fun y hy => hρ y (by simp [Op.operands]; exact .inr (by simpa using hy)))]
  case slice T x lo hi mx =>
    cases mx with
    | some m => rfl
    | none =>
      simp only
      rw [hρ x (by simp [Op.operands])]
      have e1 : lo.bind ρ' = lo.bind ρ := by cases lo with | none => rfl | some y => exact hρ y (by simp [Op.operands])
      have e2 : hi.bind ρ' = hi.bind ρ := by cases hi with | none => rfl | some y => exact hρ y (by simp [Op.operands])
      rw [e1, e2]
  case fieldAddr T x f => rw [hρ x (by simp [Op.operands])]
  case field T x f => rw [hρ x (by simp [Op.operands])]
  case indexAddr T x i => rw [hρ x (by simp [Op.operands]), hρ i (by simp [Op.operands])]
  case index T x i => rw [hρ x (by simp [Op.operands]), hρ i (by simp [Op.operands])]
  case extract x i => rw [hρ x (by simp [Op.operands])]
  case call c =>
    obtain ⟨callee, args, tys⟩ := c
    cases callee with
    | value f => exact absurd hq Bool.false_ne_true
    | invoke r m => exact absurd hq Bool.false_ne_true
    | builtin b =>
      have hm : ∀ y, y ∈ args.toList → ρ' y = ρ y := fun y hy => hρ y (by simp [Op.operands, Call.operands]; simpa using hy)
      cases b <;> (try (exact absurd hq Bool.false_ne_true)) <;> simp only
      case len =>
        split
        · rename_i x t h1 h2
          simp only [h1] at hm
          rw [hm x List.mem_cons_self]
        · rfl
      case min =>
        split
        · rename_i x y h1
          simp only [h1] at hm
          rw [hm x List.mem_cons_self, hm y (List.mem_cons_of_mem _ List.mem_cons_self)]
        · rfl
      case max =>
        split
        · rename_i x y h1
          simp only [h1] at hm
          rw [hm x List.mem_cons_self, hm y (List.mem_cons_of_mem _ List.mem_cons_self)]
        · rfl

theorem condsL_congr {e e' : Env} : ∀ {l : List Operand}, (∀ y, y ∈ l → look e' y = look e y) → condsL e' l = condsL e l
  | [], _ => rfl
  | x :: r, h => by simp only [condsL, lookc]; rw [h x List.mem_cons_self, condsL_congr (fun y hy => h y (List.mem_cons_of_mem _ hy))]

theorem aread_congr {P : Program} {h h' : AHeap} {e e' : Env} {g : Bool} {op : Op} (hq : quietOp op = true) (hh : h' = h ∨ isLoad op = false) (hl : ∀ y, y ∈ op.operands.toList → look e' y = look e y) : aread P h' e' g op = aread P h e g op := by
  by_cases hp : ∃ c a b, op = .pick c a b
  · obtain ⟨c, a, b, rfl⟩ := hp
    simp only [aread]
    rw [hl c (by simp [Op.operands]), hl a (by simp [Op.operands]), hl b (by simp [Op.operands])]
  · have hp' : ∀ c a b, op ≠ .pick c a b := fun c a b h => hp ⟨c, a, b, h⟩
    have e1 : ∀ (h : AHeap) (e : Env), aread P h e g op = match ard P h (lookv e) op with
        | some (p, v) => some (g = true → condsL e op.operands.toList ∧ p, v)
        | none => none := fun h e => by cases op <;> first | rfl | exact absurd rfl (hp' _ _ _)
    rw [e1, e1, ard_congr (ρ := lookv e) (ρ' := lookv e') (h := h) hq hp' hh (fun y hy => by simp only [lookv, hl y hy]), condsL_congr hl]

theorem gcond_congr {e e' : Env} {g : Option (Nat × Bool)} (h : ∀ d w, g = some (d, w) → e'.get d = e.get d) : gcond e' g = gcond e g := by
  cases g with
  | none => rfl
  | some q => obtain ⟨d, w⟩ := q; simp only [gcond, h d w rfl]

theorem get_put {e : Env} {d : Option Nat} {c : Bool} {v : AVal} {t : Nat} (h : d ≠ some t) : (e.put d c v).get t = e.get t := by
  cases d with
  | none => rfl
  | some d => have : t ≠ d := fun h' => h (by rw [h']); simp [Env.put, Env.get, this]

/-- Writing another slot leaves it as it is. -/
theorem Reval.put {P : Program} {h h' : AHeap} {e : Env} {x : AOp} {d : Option Nat} {c : Bool} {v : AVal} (hx : Reval P h e x) (hq : quietOp x.op = true) (hh : h' = h ∨ isLoad x.op = false) (hr : ∀ t, t ∈ readsOf x → d ≠ some t) (hd : d = none ∨ d ≠ x.dst) :
    Reval P h' (e.put d c v) x := by
  obtain ⟨g, dx, h1, h2, h3, h4⟩ := hx
  have hdx : d ≠ some dx := by rcases hd with rfl | hd; simp; rw [← h2]; exact hd
  have hl : ∀ y, y ∈ x.op.operands.toList → look (e.put d c v) y = look e y := fun y hy => look_put fun t ht => hr t (by rw [ht] at hy; simp [readsOf, mem_opTmps.2 hy])
  refine ⟨g, dx, ?_, h2, fun ht => ?_, fun hf => ?_⟩
  · rw [gcond_congr (e := e) fun t w' hg => get_put (hr t (by simp [readsOf, hg]))]
    exact h1
  · obtain ⟨p, u, a1, a2, a3⟩ := h3 ht
    exact ⟨p, u, by rw [aread_congr hq hh hl]; exact a1, a2, by rw [get_put hdx]; exact a3⟩
  · obtain ⟨u, a1⟩ := h4 hf
    exact ⟨u, by rw [get_put hdx]; exact a1⟩

section
variable {P : Program} {G : Nat → Option Obj} {h : AHeap} {w : World} {e : Env} {N : Nat} {a : Act} {B : Nat → Prop}

theorem EnvB.fill {d : Nat} {c : Bool} {x : AVal} {v : Value} (he : EnvB h w N B e a.tmps) (hd : d < N) (hg : e.get d = some (c, x)) (h1 : c = true → Rep h w x v) (h2 : c = false → v = undef) : EnvB h w N (fun t => B t ∧ t ≠ d) e (a.put (some d) v).tmps := by
  refine ⟨by simp [Act.put, he.1], fun t c' v' ht => ?_⟩
  simp only [Act.put, getD_set _ _ _ _ (by rw [he.1]; exact hd)]
  by_cases heq : t = d
  · subst heq
    rw [hg] at ht
    injection ht with ht
    simp only [Prod.mk.injEq] at ht
    obtain ⟨rfl, rfl⟩ := ht
    rw [if_pos rfl]
    exact ⟨hd, .inr ⟨h1, h2⟩⟩
  · rw [if_neg heq]
    exact ⟨(he.2 t c' v' ht).1, (he.2 t c' v' ht).2.imp (fun h => ⟨h, heq⟩) id⟩

/-- A quiet operation that has waited. -/
theorem reval_ok {ops : Array Oper} {o : Oper} {x : AOp} {Kc : Act → World → Prop} {Q : Exit → Act → World → Prop} (hi : OpIs ops N o x) (hr : Rel G h w) (he : EnvB h w N B e a.tmps) (hB : ∀ t, t ∈ readsOf x → ¬ B t) (hx : Reval P h e x)
    (hK : ∀ a' w', Rel G h w' → Step h w h w' → EnvB h w' N (fun t => B t ∧ some t ≠ x.dst) e a'.tmps → a'.defers = a.defers → Kc a' w') :
    if Region.wanted o (yielded ops a.tmps) then o.wp P a w Kc Q else Kc (a.put o.dst undef) w := by
  obtain ⟨g, d, hg, hd, ht, hf⟩ := hx
  have hdo : o.dst = some d := by rw [← hi.dst, hd]
  have hconv : ∀ {w' : World} {tmps : Array Value}, EnvB h w' N (fun t => B t ∧ t ≠ d) e tmps → EnvB h w' N (fun t => B t ∧ some t ≠ x.dst) e tmps := fun he =>
    ⟨he.1, fun t c v h => ⟨(he.2 t c v h).1, (he.2 t c v h).2.imp (fun h => ⟨h.1, by rw [hd]; simpa using h.2⟩) id⟩⟩
  rw [wanted_eq hi he hB hg]
  cases g with
  | true =>
    rw [if_pos rfl]
    obtain ⟨p, v, h1, h2, h3⟩ := ht rfl
    rw [hi.op] at h1
    obtain ⟨u, w', k1, k2, k3, k4⟩ := aread_ok (o := o) hr he (fun t ht => hB t (by rw [← hi.op] at ht; simp [readsOf, ht])) h1 h2
    refine eff_value k1 (hK _ _ k2 k3 ?_ (defers_put _ _ _))
    rw [hdo]
    exact hconv ((he.step k3).fill (hi.lt d hdo) h3 (fun _ => k4) (fun hc => by cases hc))
  | false =>
    rw [if_neg (by simp)]
    obtain ⟨v, h3⟩ := hf rfl
    refine hK _ _ hr (.refl hr) ?_ (defers_put _ _ _)
    rw [hdo]
    exact hconv (he.fill (hi.lt d hdo) h3 (fun hc => by cases hc) (fun _ => rfl))


theorem growTo_mono {T : TypeId} {n len : Nat} {tg : Tag} {K K' : Tag → AHeap → Prop} (hK : ∀ v h, K v h → K' v h) (hx : growTo h T n len tg K) : growTo h T n len tg K' := by
  unfold growTo at hx ⊢
  cases tg with
  | nl => exact fun g hg => hK _ _ (hx g hg)
  | full => exact fun g hg => hK _ _ (hx g hg)
  | frz => exact hx
  | own g0 =>
    simp only at hx ⊢
    split at hx
    · exact ⟨hx.1, hx.2.1, fun g hg => hK _ _ (hx.2.2 g hg)⟩
    · exact hx.elim

theorem aappend_mono {T : TypeId} {s x : AVal} {K K' : AVal → AHeap → Prop} (hK : ∀ v h, K v h → K' v h) (hx : aappend P h T s x K) : aappend P h T s x K' := by
  unfold aappend at hx ⊢
  split at hx
  · split at hx
    · rename_i heq; exact hK _ _ hx
    · rename_i heq; exact ⟨hx.1, hx.2.1, hx.2.2.1, hx.2.2.2.1, hx.2.2.2.2.1, growTo_mono (fun _ _ => hK _ _) hx.2.2.2.2.2⟩
    · exact hx.elim
  · exact hx.elim

theorem aeff_mono {ρ : Operand → Option AVal} {op : Op} {K K' Kp : AVal → AHeap → Prop} (hK : ∀ v h, K v h → K' v h) (hx : aeff P G h ρ K Kp op) : aeff P G h ρ K' Kp op := by
  cases op <;> simp only [aeff] at hx ⊢
  case alloc T =>
    split at hx
    · exact fun g hg => hK _ _ (hx g hg)
    · exact hx.elim
  case box T x =>
    split at hx
    · exact ⟨hx.1, fun g hg => hK _ _ (hx.2 g hg)⟩
    · exact hx.elim
  case store T y z =>
    split at hx
    · split at hx
      · exact ⟨hx.1, hx.2.1, hx.2.2.1, hK _ _ hx.2.2.2⟩
      · exact hx.elim
    · exact hx.elim
  case panic x => exact hx
  case call c =>
    obtain ⟨callee, args, tys⟩ := c
    cases callee with
    | invoke r m => exact hx
    | value f =>
      simp only at hx ⊢
      split at hx
      · refine ⟨hx.1, hx.2.mono fun out h' ho => ?_⟩
        cases out with
        | ret v => exact hK _ _ ho
        | panic v => exact ho
      · exact hx.elim
    | builtin b =>
      cases b <;> simp only at hx ⊢ <;> (try exact hx)
      case append =>
        split at hx
        · split at hx
          · exact ⟨hx.1, hx.2.1, aappend_mono hK hx.2.2⟩
          · exact aappend_mono hK hx
          · exact hx.elim
        · exact hx.elim

theorem aop1_put {x : AOp} {K : Env → AHeap → Prop} {Kp : AVal → AHeap → Prop} (hx : aop1 P G h e x K Kp) : aop1 P G h e x (fun e' h' => (∃ c v, e' = e.put x.dst c v) ∧ K e' h') Kp := by
  unfold aop1 at hx ⊢
  split at hx
  · exact hx.elim
  · cases hq : quietOp x.op with
    | true =>
      rw [hq] at hx
      simp only [cond_true] at hx ⊢
      rcases hx with ⟨p, v, hv, hx⟩ | hx
      · exact .inl ⟨p, v, hv, hx.1, ⟨_, _, rfl⟩, hx.2⟩
      · exact .inr ⟨hx.1, ⟨_, _, rfl⟩, hx.2⟩
    | false =>
      rw [hq] at hx
      simp only [cond_false] at hx ⊢
      exact ⟨fun hg => ⟨(hx.1 hg).1, aeff_mono (fun v h hk => ⟨⟨_, _, rfl⟩, hk⟩) (hx.1 hg).2⟩, fun hg => ⟨⟨_, _, rfl⟩, hx.2 hg⟩⟩

end
end Go.Abs
