/- The theorem on regions that draw their order, and the theorem on whole codes. Over any program that follows mixed orders; no conditions. -/
import Derived.Test.YtjnkbjloabnopaaGreatDoorZ05
namespace Go.Abs

section
variable {D : List Deferred} {P : Program} {G : Nat → Option Obj} {N : Nat} {ops : Array Oper} {E : Nat → List Nat} {cl : List Nat} {xs : List AOp} {Q : AExit → Env → AHeap → Prop}

theorem mem_reads_op {x : AOp} {t : Nat} (h : t ∈ opTmps x.op) : t ∈ readsOf x := List.mem_append_left _ h
theorem mem_reads_guard {x : AOp} {t : Nat} {w : Bool} (h : x.guard = some (t, w)) : t ∈ readsOf x := List.mem_append_right _ (by rw [h]; exact List.mem_cons_self)

abbrev xat (xs : List AOp) (i : Nat) : AOp := xs.getD i default

/-- What has run is closed under the edges. -/
def ClosedE (E : Nat → List Nat) (L : Nat → Bool) : Prop := ∀ i, L i = true → ∀ k, k ∈ E i → L k = true

/-- Where a run of the region stands: what has run (L), what our order has passed (done), what is still before it (todo). -/
structure Inv (D : List Deferred) (P : Program) (G : Nat → Option Obj) (N : Nat) (ops : Array Oper) (E : Nat → List Nat) (cl : List Nat) (xs : List AOp) (Q : AExit → Env → AHeap → Prop) (h0 : AHeap) (w0 : World) (L : Nat → Bool) (a : Act) (w : World) (done todo : List Nat) (e : Env) (h : AHeap) : Prop where
  rel : Rel G h w
  step : Step h0 w0 h w
  defers : a.defers = D
  closed : ClosedE E L
  sub : ∀ i, L i = true → i ∈ done
  eff : ∀ i, i ∈ done → isEff xs (xat xs i) = true → L i = true
  all : ∀ i, i < ops.size → i ∈ done ∨ i ∈ todo
  lt : ∀ i, i ∈ done ∨ i ∈ todo → i < ops.size
  apart : ∀ i, i ∈ done → ∀ k, k ∈ todo → k ≠ i ∧ bef (cl) k i = false ∧ (isEff xs (xat xs i) = true → bef (cl) i k = true)
  ord : okOrd xs (cl) todo = true
  env : EnvB h w N (fun t => ∃ i, i ∈ done ∧ L i = false ∧ (xat xs i).dst = some t) e a.tmps
  wait : ∀ i, i ∈ done → L i = false → Reval P h e (xat xs i)
  rest : aops P G Q (items xs (cl) done todo) e h

/-- What is checked once and for all. -/
structure Good (ops : Array Oper) (N : Nat) (E : Nat → List Nat) (cl : List Nat) (xs : List AOp) : Prop where
  len : xs.length = ops.size
  is : ∀ i o, ops[i]? = some o → OpIs ops N o (xat xs i)
  bit : ∀ L : Nat → Bool, ClosedE E L → ∀ i, (∀ k, k ∈ E i → L k = true) → ∀ k, bef cl k i = true → L k = true
  irr : ∀ i, bef (cl) i i = false
  pair : ∀ i j, i < ops.size → j < ops.size → okPair xs (cl) i j = true
  dst : ∀ i j, i < ops.size → j < ops.size → okDst xs i j = true
  quiet : ∀ i, i < ops.size → quietOp (xat xs i).op = true → (xat xs i).dst.isSome = true

theorem pair_spec (hg : Good ops N E cl xs) {i j d : Nat} (hi : i < ops.size) (hj : j < ops.size) (hd : (xat xs j).dst = some d) (hr : d ∈ readsOf (xat xs i)) :
    bef (cl) j i = true ∨ (isEff xs (xat xs j) = true ∧ bef (cl) i j = true) := by
  have := hg.pair i j hi hj
  unfold okPair at this
  rw [hd] at this
  simp only [Bool.or_eq_true, Bool.not_eq_true', Bool.and_eq_true] at this
  rcases this with (h1 | h1) | h1
  · have : (readsOf (xs.getD i default)).contains d = true := by simpa using hr
    rw [this] at h1; cases h1
  · exact .inl h1
  · exact .inr h1

theorem dst_spec (hg : Good ops N E cl xs) {i j d : Nat} (hi : i < ops.size) (hj : j < ops.size) (h1 : (xat xs i).dst = some d) (h2 : (xat xs j).dst = some d) : i = j := by
  have := hg.dst i j hi hj
  unfold okDst at this
  rw [h1, h2] at this
  simpa using this

variable {h0 : AHeap} {w0 : World} {L : Nat → Bool} {a : Act} {w : World} {done todo : List Nat} {e : Env} {h : AHeap}

/-- A waiting operation, or the next one, may run: nothing that it reads is waiting. -/
theorem Inv.reads_ok (hg : Good ops N E cl xs) (hv : Inv D P G N ops E cl xs Q h0 w0 L a w done todo e h) {i : Nat} (hi : i < ops.size) (hL : L i = false) (hready : ∀ k, bef (cl) k i = true → L k = true) :
    ∀ t, t ∈ readsOf (xat xs i) → ¬ ∃ j, j ∈ done ∧ L j = false ∧ (xat xs j).dst = some t := by
  rintro t ht ⟨j, hj, hLj, hd⟩
  rcases pair_spec hg hi (hv.lt j (.inl hj)) hd ht with h1 | ⟨h1, h2⟩
  · rw [hready j h1] at hLj; cases hLj
  · rw [hv.eff j hj h1] at hLj; cases hLj

theorem ready_bef (hg : Good ops N E cl xs) {i : Nat} (hc : ClosedE E L) (hr : ∀ k, k ∈ E i → L k = true) : ∀ k, bef cl k i = true → L k = true := hg.bit L hc i hr

def setL (L : Nat → Bool) (i : Nat) : Nat → Bool := fun k => if k = i then true else L k

theorem closed_set {i : Nat} (hc : ClosedE E L) (hr : ∀ k, k ∈ E i → L k = true) : ClosedE E (setL L i) := by
  intro k hk j hj
  unfold setL at hk ⊢
  split
  · rfl
  · split at hk
    · rename_i he
      subst he
      exact hr j hj
    · exact hc k hk j hj

/-- OUR ORDER GOES ON OVER AN OPERATION THAT TURNS NO MEMORY: it waits. -/
theorem Inv.pass (hg : Good ops N E cl xs) {k : Nat} {r : List Nat} (hv : Inv D P G N ops E cl xs Q h0 w0 L a w done (k :: r) e h) (hne : isEff xs (xat xs k) = false) : ∃ e', Inv D P G N ops E cl xs Q h0 w0 L a w (k :: done) r e' h := by
  have hkn : k ∉ done := fun hk => ((hv.apart k hk k List.mem_cons_self).1 rfl)
  have hLk : L k = false := by
    cases hL : L k with
    | false => rfl
    | true => exact absurd (hv.sub k hL) hkn
  have hklt := hv.lt k (.inr List.mem_cons_self)
  have hq : quietOp (xat xs k).op = true := by
    unfold isEff at hne
    simp only [Bool.or_eq_false_iff, Bool.not_eq_false'] at hne
    exact hne.1
  obtain ⟨d, hd⟩ := Option.isSome_iff_exists.1 (hg.quiet k hklt hq)
  have hord := hv.ord
  simp only [okOrd, Bool.and_eq_true, List.all_eq_true] at hord
  have hrest := hv.rest
  simp only [items, aops] at hrest
  unfold aop1 at hrest
  -- what the step leaves
  have key : ∃ (g : Bool) (v : AVal), gcond e (xat xs k).guard = some g ∧ (g = true → ∃ p, aread P h e true (xat xs k).op = some (p, v) ∧ p) ∧ aops P G Q (items xs (cl) (k :: done) r) (e.put (xat xs k).dst g v) h := by
    split at hrest
    · exact hrest.elim
    · rename_i g hgc
      rw [show quietOp (xs.getD k default).op = true from hq] at hrest
      simp only [cond_true] at hrest
      rcases hrest with ⟨p, v, hv1, hrest⟩ | hrest
      · refine ⟨g, v, hgc, fun ht => ?_, hrest.2.2⟩
        subst ht
        exact ⟨p, hv1, hrest.1⟩
      · obtain ⟨rfl, h2⟩ := hrest
        exact ⟨false, default, hgc, (fun hf => by cases hf), h2.2⟩
  obtain ⟨g, v, hgc, hread, hrest'⟩ := key
  have hother : ∀ i, i ∈ done → L i = false → (∀ t, t ∈ readsOf (xat xs i) → (xat xs k).dst ≠ some t) ∧ ((xat xs k).dst = none ∨ (xat xs k).dst ≠ (xat xs i).dst) := by
    intro i hi hLi
    have hilt := hv.lt i (.inl hi)
    refine ⟨fun t ht he => ?_, .inr fun he => ?_⟩
    · rcases pair_spec hg hilt hklt he ht with h1 | ⟨h1, _⟩
      · rw [(hv.apart i hi k List.mem_cons_self).2.1] at h1; cases h1
      · rw [hne] at h1; cases h1
    · rw [hd] at he
      exact hkn (by rw [dst_spec hg hklt hilt hd he.symm]; exact hi)
  have hself : ∀ t, t ∈ readsOf (xat xs k) → (xat xs k).dst ≠ some t := by
    intro t ht he
    rcases pair_spec hg hklt hklt he ht with h1 | ⟨h1, _⟩
    · rw [hg.irr] at h1; cases h1
    · rw [hne] at h1; cases h1
  refine ⟨e.put (xat xs k).dst g v, ⟨hv.rel, hv.step, hv.defers, hv.closed, fun i hi => List.mem_cons_of_mem _ (hv.sub i hi), fun i hi he => ?_, fun i hi => ?_, fun i hi => ?_, fun i hi j hj => ?_, hord.2, ?_, fun i hi hLi => ?_, hrest'⟩⟩
  · rcases List.mem_cons.1 hi with rfl | hi
    · rw [hne] at he; cases he
    · exact hv.eff i hi he
  · rcases hv.all i hi with h1 | h1
    · exact .inl (List.mem_cons_of_mem _ h1)
    · rcases List.mem_cons.1 h1 with rfl | h1
      · exact .inl List.mem_cons_self
      · exact .inr h1
  · rcases hi with h1 | h1
    · rcases List.mem_cons.1 h1 with rfl | h1
      · exact hklt
      · exact hv.lt i (.inl h1)
    · exact hv.lt i (.inr (List.mem_cons_of_mem _ h1))
  · rcases List.mem_cons.1 hi with rfl | hi
    · have h1 := hord.1.1 j hj
      simp only [Bool.not_eq_true', bne_iff_ne, ne_eq] at h1
      exact ⟨h1.2, h1.1, fun he => by rw [hne] at he; cases he⟩
    · exact hv.apart i hi j (List.mem_cons_of_mem _ hj)
  · refine ⟨hv.env.1, fun t c u ht => ?_⟩
    by_cases hdt : (xat xs k).dst = some t
    · refine ⟨?_, .inl ⟨k, List.mem_cons_self, hLk, hdt⟩⟩
      obtain ⟨o, ho⟩ : ∃ o, ops[k]? = some o := ⟨_, Array.getElem?_eq_getElem hklt⟩
      exact (hg.is k o ho).lt t (by rw [← (hg.is k o ho).dst]; exact hdt)
    · rw [get_put hdt] at ht
      obtain ⟨h1, h2⟩ := hv.env.2 t c u ht
      exact ⟨h1, h2.imp (fun ⟨i, q1, q2, q3⟩ => ⟨i, List.mem_cons_of_mem _ q1, q2, q3⟩) id⟩
  · rcases List.mem_cons.1 hi with rfl | hi
    · refine ⟨g, d, ?_, hd, fun ht => ?_, fun hf => ?_⟩
      · rw [gcond_congr (e := e) fun t w' hgd => get_put (hself t (mem_reads_guard hgd))]
        exact hgc
      · obtain ⟨p, h1, h2⟩ := hread ht
        refine ⟨p, v, ?_, h2, ?_⟩
        · rw [aread_congr (h := h) (e := e) hq (.inl rfl) (fun y hy => look_put fun t ht => hself t (by rw [ht] at hy; exact mem_reads_op (mem_opTmps.2 hy)))]
          exact h1
        · rw [hd]; subst ht; simp [Env.put, Env.get]
      · exact ⟨v, by rw [hd]; subst hf; simp [Env.put, Env.get]⟩
    · have hqi : quietOp (xat xs i).op = true := by
        cases hqq : quietOp (xat xs i).op with
        | true => rfl
        | false =>
          have : isEff xs (xat xs i) = true := by unfold isEff; rw [hqq]; rfl
          rw [hv.eff i hi this] at hLi; cases hLi
      exact (hv.wait i hi hLi).put hqi (.inl rfl) (hother i hi hLi).1 (hother i hi hLi).2


/-- What a quiet operation leaves. -/
def stepOut (P : Program) (ops : Array Oper) (o : Oper) (a : Act) (w : World) : Act × World :=
  if Region.wanted o (yielded ops a.tmps) then (match (execOp a.eval o).run P w with
    | .ok (.value v) w' => (a.put o.dst v, w')
    | _ => (a, w))
  else (a.put o.dst undef, w)

theorem reval_out {B : Nat → Prop} {o : Oper} {x : AOp} (hi : OpIs ops N o x) (hr : Rel G h w) (he : EnvB h w N B e a.tmps) (hB : ∀ t, t ∈ readsOf x → ¬ B t) (hx : Reval P h e x) :
    (∀ (Kc : Act → World → Prop) (Qc : Exit → Act → World → Prop), Kc (stepOut P ops o a w).1 (stepOut P ops o a w).2 → if Region.wanted o (yielded ops a.tmps) then o.wp P a w Kc Qc else Kc (a.put o.dst undef) w) ∧
    Rel G h (stepOut P ops o a w).2 ∧ Step h w h (stepOut P ops o a w).2 ∧ EnvB h (stepOut P ops o a w).2 N (fun t => B t ∧ some t ≠ x.dst) e (stepOut P ops o a w).1.tmps ∧ (stepOut P ops o a w).1.defers = a.defers := by
  obtain ⟨g, d, hg, hd, ht, hf⟩ := hx
  have hdo : o.dst = some d := by rw [← hi.dst, hd]
  have hconv : ∀ {w' : World} {tmps : Array Value}, EnvB h w' N (fun t => B t ∧ t ≠ d) e tmps → EnvB h w' N (fun t => B t ∧ some t ≠ x.dst) e tmps := fun he =>
    ⟨he.1, fun t c v h => ⟨(he.2 t c v h).1, (he.2 t c v h).2.imp (fun h => ⟨h.1, by rw [hd]; simpa using h.2⟩) id⟩⟩
  have hwn := wanted_eq hi he hB hg
  cases g with
  | true =>
    obtain ⟨p, v, h1, h2, h3⟩ := ht rfl
    rw [hi.op] at h1
    obtain ⟨u, w', k1, k2, k3, k4⟩ := aread_ok (o := o) hr he (fun t ht => hB t (by rw [← hi.op] at ht; simp [readsOf, ht])) h1 h2
    have hs : stepOut P ops o a w = (a.put o.dst u, w') := by
      unfold stepOut
      rw [if_pos hwn, k1]
    rw [hs]
    refine ⟨fun Kc Qc hk => by rw [if_pos hwn]; exact eff_value k1 hk, k2, k3, ?_, defers_put _ _ _⟩
    rw [hdo]
    exact hconv ((he.step k3).fill (hi.lt d hdo) h3 (fun _ => k4) (fun hc => by cases hc))
  | false =>
    obtain ⟨v, h3⟩ := hf rfl
    have hs : stepOut P ops o a w = (a.put o.dst undef, w) := by
      unfold stepOut
      rw [if_neg (by rw [hwn]; simp)]
    rw [hs]
    refine ⟨fun Kc Qc hk => by rw [if_neg (by rw [hwn]; simp)]; exact hk, hr, .refl hr, ?_, defers_put _ _ _⟩
    rw [hdo]
    exact hconv (he.fill (hi.lt d hdo) h3 (fun hc => by cases hc) (fun _ => rfl))

/-- WHAT HAS WAITED RUNS. -/
theorem Inv.wait_out (hg : Good ops N E cl xs) (hv : Inv D P G N ops E cl xs Q h0 w0 L a w done todo e h) {i : Nat} {o : Oper} (ho : ops[i]? = some o) (hi : i ∈ done) (hL : L i = false) (hr : ∀ k, k ∈ E i → L k = true) :
    (∀ (Kc : Act → World → Prop) (Qc : Exit → Act → World → Prop), Kc (stepOut P ops o a w).1 (stepOut P ops o a w).2 → if Region.wanted o (yielded ops a.tmps) then o.wp P a w Kc Qc else Kc (a.put o.dst undef) w) ∧
    Inv D P G N ops E cl xs Q h0 w0 (setL L i) (stepOut P ops o a w).1 (stepOut P ops o a w).2 done todo e h := by
  have hilt := hv.lt i (.inl hi)
  have hB := hv.reads_ok hg hilt hL (ready_bef hg hv.closed hr)
  obtain ⟨k0, k1, k2, k3, k4⟩ := reval_out (P := P) (hg.is i o ho) hv.rel hv.env hB (hv.wait i hi hL)
  refine ⟨k0, ⟨k1, hv.step.trans k2, k4.trans hv.defers, closed_set hv.closed hr, fun j hj => ?_, fun j hj he => ?_, hv.all, hv.lt, hv.apart, hv.ord, ?_, fun j hj hLj => ?_, hv.rest⟩⟩
  · unfold setL at hj
    split at hj
    · rename_i he; rw [he]; exact hi
    · exact hv.sub j hj
  · unfold setL
    split
    · rfl
    · exact hv.eff j hj he
  · refine ⟨k3.1, fun t c v ht => ⟨(k3.2 t c v ht).1, (k3.2 t c v ht).2.imp (fun ⟨⟨j, q1, q2, q3⟩, q4⟩ => ⟨j, q1, ?_, q3⟩) id⟩⟩
    unfold setL
    rw [if_neg]
    · exact q2
    · rintro rfl
      exact q4 q3.symm
  · unfold setL at hLj
    split at hLj
    · cases hLj
    · exact hv.wait j hj hLj

/-- THE NEXT OPERATION THAT TURNS MEMORY RUNS. -/
theorem Inv.run_eff (hg : Good ops N E cl xs) {i : Nat} {r : List Nat} (hv : Inv D P G N ops E cl xs Q h0 w0 L a w done (i :: r) e h) {o : Oper} (ho : ops[i]? = some o) (hr : ∀ k, k ∈ E i → L k = true) (heff : isEff xs (xat xs i) = true)
    {Kc : Act → World → Prop} (hK : ∀ a' w' e' h', Inv D P G N ops E cl xs Q h0 w0 (setL L i) a' w' (i :: done) r e' h' → Kc a' w') :
    if Region.wanted o (yielded ops a.tmps) then o.wp P a w Kc (CQ D G h0 w0 N Q) else Kc (a.put o.dst undef) w := by
  have hin : i ∉ done := fun hk => ((hv.apart i hk i List.mem_cons_self).1 rfl)
  have hLi : L i = false := by
    cases hL : L i with
    | false => rfl
    | true => exact absurd (hv.sub i hL) hin
  have hilt := hv.lt i (.inr List.mem_cons_self)
  have hbef := ready_bef hg hv.closed hr
  have hB := hv.reads_ok hg hilt hLi hbef
  have hord := hv.ord
  simp only [okOrd, Bool.and_eq_true, List.all_eq_true] at hord
  have hlater : ∀ j, j ∈ r → bef (cl) i j = true := fun j hj => by
    have := hord.1.2
    rw [show isEff xs (xs.getD i default) = true from heff] at this
    simp only [Bool.not_true, Bool.false_or, List.all_eq_true] at this
    exact this j hj
  have hrest := hv.rest
  simp only [items, aops, show isEff xs (xs.getD i default) = true from heff, cond_true] at hrest
  -- an operation that waits is not a dependency of this one, and it does not read what this one writes
  have hother : ∀ j, j ∈ done → L j = false → (∀ t, t ∈ readsOf (xat xs j) → (xat xs i).dst ≠ some t) ∧ ((xat xs i).dst = none ∨ (xat xs i).dst ≠ (xat xs j).dst) := by
    intro j hj hLj
    have hjlt := hv.lt j (.inl hj)
    refine ⟨fun t ht he => ?_, ?_⟩
    · rcases pair_spec hg hjlt hilt he ht with h1 | ⟨_, h1⟩
      · rw [(hv.apart j hj i List.mem_cons_self).2.1] at h1; cases h1
      · rw [hbef j h1] at hLj; cases hLj
    · cases hd : (xat xs i).dst with
      | none => exact .inl rfl
      | some d =>
        refine .inr fun he => ?_
        exact hin (by rw [dst_spec hg hilt hjlt hd he.symm]; exact hj)
  have hbase : ∀ e' h' a' w', (recheck P h' e' ((done.filter fun k => isLoad (xs.getD k default).op && !bef (cl) k i).map (xs.getD · default)) ∧ aops P G Q (items xs (cl) (i :: done) r) e' h') →
      (∃ c v, e' = e.put (xat xs i).dst c v) → Rel G h' w' → Step h w h' w' →
      EnvB h' w' N (fun t => (∃ j, j ∈ done ∧ L j = false ∧ (xat xs j).dst = some t) ∧ some t ≠ (xat xs i).dst) e' a'.tmps → a'.defers = a.defers → Kc a' w' := by
    rintro e' h' a' w' ⟨hre, hres⟩ ⟨c, v, rfl⟩ k1 k2 k3 k4
    refine hK a' w' (e.put (xat xs i).dst c v) h' ⟨k1, hv.step.trans k2, k4.trans hv.defers, closed_set hv.closed hr, fun j hj => ?_, fun j hj he => ?_, fun j hj => ?_, fun j hj => ?_, fun j hj k hk => ?_, hord.2, ?_, fun j hj hLj => ?_, hres⟩
    · unfold setL at hj
      split at hj
      · rename_i he; rw [he]; exact List.mem_cons_self
      · exact List.mem_cons_of_mem _ (hv.sub j hj)
    · unfold setL
      split
      · rfl
      · rename_i hne
        exact hv.eff j ((List.mem_cons.1 hj).resolve_left hne) he
    · rcases hv.all j hj with h1 | h1
      · exact .inl (List.mem_cons_of_mem _ h1)
      · rcases List.mem_cons.1 h1 with rfl | h1
        · exact .inl List.mem_cons_self
        · exact .inr h1
    · rcases hj with h1 | h1
      · rcases List.mem_cons.1 h1 with rfl | h1
        · exact hilt
        · exact hv.lt j (.inl h1)
      · exact hv.lt j (.inr (List.mem_cons_of_mem _ h1))
    · rcases List.mem_cons.1 hj with rfl | hj
      · have h1 := hord.1.1 k hk
        simp only [Bool.not_eq_true', bne_iff_ne, ne_eq] at h1
        exact ⟨h1.2, h1.1, fun _ => hlater k hk⟩
      · exact hv.apart j hj k (List.mem_cons_of_mem _ hk)
    · refine ⟨k3.1, fun t c v ht => ⟨(k3.2 t c v ht).1, (k3.2 t c v ht).2.imp (fun ⟨⟨j, q1, q2, q3⟩, q4⟩ => ⟨j, List.mem_cons_of_mem _ q1, ?_, q3⟩) id⟩⟩
      unfold setL
      rw [if_neg]
      · exact q2
      · rintro rfl
        exact q4 q3.symm
    · unfold setL at hLj
      split at hLj
      · cases hLj
      · rename_i hne
        have hj' := (List.mem_cons.1 hj).resolve_left hne
        have hqj : quietOp (xat xs j).op = true := by
          cases hqq : quietOp (xat xs j).op with
          | true => rfl
          | false =>
            have : isEff xs (xat xs j) = true := by unfold isEff; rw [hqq]; rfl
            rw [hv.eff j hj' this] at hLj; cases hLj
        by_cases hload : isLoad (xat xs j).op = true
        · have hnb : bef (cl) j i = false := by
            cases hb : bef (cl) j i with
            | false => rfl
            | true => rw [hbef j hb] at hLj; cases hLj
          refine reval_of_reload (reload_of_recheck hre (xat xs j) (List.mem_map.2 ⟨j, List.mem_filter.2 ⟨hj', ?_⟩, rfl⟩))
          rw [hnb]
          simpa using hload
        · exact (hv.wait j hj' hLj).put hqj (.inr (by simpa using hload)) (hother j hj' hLj).1 (hother j hj' hLj).2
  -- run it
  exact aop1_ok (hg.is i o ho) hv.rel hv.env hB (aop1_put hrest) (fun e' h' a' w' hk k1 k2 k3 k4 => hbase e' h' a' w' hk.2 hk.1 k1 k2 k3 k4)
    (fun v h' w' u hk k1 k2 k3 => ⟨.panic v, [], h', hk, ⟨u, rfl, k3⟩, k1, hv.step.trans k2, ⟨hv.env.1, fun t c v ht => by cases ht⟩, hv.defers⟩)

/-- Our order comes to i. -/
theorem Inv.reach (hg : Good ops N E cl xs) {i : Nat} {o : Oper} (ho : ops[i]? = some o) (hL : L i = false) (hr : ∀ k, k ∈ E i → L k = true) : ∀ (todo done : List Nat) (e : Env), Inv D P G N ops E cl xs Q h0 w0 L a w done todo e h → i ∈ todo →
    ∃ done' todo' e', Inv D P G N ops E cl xs Q h0 w0 L a w done' todo' e' h ∧ (i ∈ done' ∨ ∃ r, todo' = i :: r ∧ isEff xs (xat xs i) = true)
  | [], done, e, _, hi => absurd hi List.not_mem_nil
  | k :: r, done, e, hv, hi => by
    by_cases hki : k = i
    · subst hki
      cases he : isEff xs (xat xs k) with
      | true => exact ⟨done, k :: r, e, hv, .inr ⟨r, rfl, rfl⟩⟩
      | false =>
        obtain ⟨e', hv'⟩ := hv.pass hg he
        exact ⟨_, _, e', hv', .inl List.mem_cons_self⟩
    · have hir : i ∈ r := (List.mem_cons.1 hi).resolve_left (fun h => hki h.symm)
      have hne : isEff xs (xat xs k) = false := by
        cases he : isEff xs (xat xs k) with
        | false => rfl
        | true =>
          exfalso
          have hord := hv.ord
          simp only [okOrd, Bool.and_eq_true, List.all_eq_true] at hord
          have h2 := hord.1.2
          rw [show isEff xs (xs.getD k default) = true from he] at h2
          simp only [Bool.not_true, Bool.false_or, List.all_eq_true] at h2
          have hLk := ready_bef hg hv.closed hr k (h2 i hir)
          exact (hv.apart k (hv.sub k hLk) k List.mem_cons_self).1 rfl
      obtain ⟨e', hv'⟩ := hv.pass hg hne
      exact Inv.reach hg ho hL hr r (k :: done) e' hv' hir

def unl (L : Nat → Bool) (n : Nat) : Nat := ((List.range n).filter fun i => !L i).length

theorem unl_set {i n : Nat} (hi : i < n) (hL : L i = false) : unl (setL L i) n + 1 ≤ unl L n := by
  have key : ∀ l : List Nat, l.Nodup → i ∈ l → (l.filter fun k => !setL L i k).length + 1 ≤ (l.filter fun k => !L k).length := by
    intro l
    induction l with
    | nil => intro _ h; cases h
    | cons k r ih =>
      intro hn hm
      rw [List.nodup_cons] at hn
      by_cases hk : k = i
      · subst hk
        have h1 : ((k :: r).filter fun j => !setL L k j) = r.filter fun j => !setL L k j := by rw [List.filter_cons, if_neg]; simp [setL]
        have h2 : ((k :: r).filter fun j => !L j) = k :: r.filter fun j => !L j := by rw [List.filter_cons, if_pos]; simp [hL]
        have h3 : (r.filter fun j => !setL L k j) = r.filter fun j => !L j := by
          apply List.filter_congr
          intro j hj
          have : j ≠ k := fun e => hn.1 (by rw [← e]; exact hj)
          simp [setL, this]
        rw [h1, h2, h3]
        simp
      · have := ih hn.2 ((List.mem_cons.1 hm).resolve_left (fun h => hk h.symm))
        have hs : setL L i k = L k := by simp [setL, hk]
        simp only [List.filter_cons, hs]
        split
        · simp; omega
        · exact this
  exact key _ List.nodup_range (List.mem_range.2 hi)

theorem getD_listed (listed : Array Bool) (i k : Nat) (hi : i < listed.size) : (listed.setIfInBounds i true).getD k false = if k = i then true else listed.getD k false := by
  simp only [Array.getD_eq_getD_getElem?, Array.getElem?_setIfInBounds]
  by_cases h1 : k = i
  · subst h1; simp [hi]
  · rw [if_neg h1, if_neg (fun h => h1 h.symm)]

theorem mem_edges {o : Oper} {k : Nat} : k ∈ edgesOf o ↔ ∃ ed, ed ∈ o.after.toList ∧ Region.binds .any ed = true ∧ ed.on = k := by
  unfold edgesOf
  rw [List.mem_map]
  constructor
  · rintro ⟨ed, h1, h2⟩
    rw [List.mem_filter] at h1
    exact ⟨ed, h1.1, h1.2, h2⟩
  · rintro ⟨ed, h1, h2, h3⟩
    exact ⟨ed, List.mem_filter.2 ⟨h1, h2⟩, h3⟩

theorem ready_iff {listed : Array Bool} {i : Nat} (hsz : listed.size = ops.size) : i ∈ Region.ready .any ops listed ↔ ∃ o, ops[i]? = some o ∧ listed.getD i false = false ∧ ∀ k, k ∈ edgesOf o → listed.getD k false = true := by
  unfold Region.ready
  rw [List.mem_filter, List.mem_range]
  constructor
  · rintro ⟨hlt, hc⟩
    rw [Array.getElem?_eq_getElem hlt] at hc
    simp only [Option.map_some, Option.getD_some, Bool.and_eq_true, Bool.not_eq_true'] at hc
    refine ⟨ops[i], Array.getElem?_eq_getElem hlt, ?_, fun k hk => ?_⟩
    · have : listed.getD i true = listed.getD i false := by simp [Array.getD_eq_getD_getElem?, Array.getElem?_eq_getElem (show i < listed.size by omega)]
      rw [← this]; exact hc.1
    · obtain ⟨ed, h1, h2, h3⟩ := mem_edges.1 hk
      have := (Array.all_eq_true_iff_forall_mem.1 hc.2) ed (by simpa using h1)
      rw [h2, h3] at this
      simpa using this
  · rintro ⟨o, ho, h1, h2⟩
    have hlt : i < ops.size := (Array.getElem?_eq_some_iff.1 ho).1
    refine ⟨hlt, ?_⟩
    rw [ho]
    simp only [Option.map_some, Option.getD_some, Bool.and_eq_true, Bool.not_eq_true']
    refine ⟨?_, Array.all_eq_true_iff_forall_mem.2 fun ed hed => ?_⟩
    · have : listed.getD i true = listed.getD i false := by simp [Array.getD_eq_getD_getElem?, Array.getElem?_eq_getElem (show i < listed.size by omega)]
      rw [this]; exact h1
    · cases hb : Region.binds .any ed with
      | false => rfl
      | true =>
        have := h2 ed.on (mem_edges.2 ⟨ed, by simpa using hed, hb, rfl⟩)
        rw [this]; rfl

/-- All has run. -/
theorem Inv.ends (hv : Inv D P G N ops E cl xs Q h0 w0 L a w done todo e h) (hall : ∀ i, i < ops.size → L i = true) : CQ D G h0 w0 N Q .normal a w := by
  have htodo : todo = [] := by
    cases todo with
    | nil => rfl
    | cons k r =>
      exfalso
      have hk := hv.sub k (hall k (hv.lt k (.inr List.mem_cons_self)))
      exact (hv.apart k hk k List.mem_cons_self).1 rfl
  subst htodo
  refine ⟨.normal, e, h, hv.rest, rfl, hv.rel, hv.step, hv.env.none fun t => ?_, hv.defers⟩
  rintro ⟨i, hi, hLi, _⟩
  rw [hall i (hv.lt i (.inl hi))] at hLi
  cases hLi

/-- Nothing is ready: all has run. -/
theorem all_listed (hb : ∀ i o, ops[i]? = some o → ∀ k, k ∈ edgesOf o → k < i) {listed : Array Bool} (hsz : listed.size = ops.size) (hnil : Region.ready .any ops listed = []) : ∀ i, i < ops.size → listed.getD i false = true := by
  intro i
  induction i using Nat.strongRecOn with
  | _ i ihi =>
    intro hi
    cases hL : listed.getD i false with
    | true => rfl
    | false =>
      exfalso
      have hmem : i ∈ Region.ready .any ops listed := (ready_iff hsz).2 ⟨ops[i], Array.getElem?_eq_getElem hi, hL, fun k hk => by
        have := hb i ops[i] (Array.getElem?_eq_getElem hi) k hk
        exact ihi k this (by omega)⟩
      rw [hnil] at hmem
      cases hmem

theorem all_zero {listed : Array Bool} (hf : unl (fun k => listed.getD k false) ops.size ≤ 0) : ∀ i, i < ops.size → listed.getD i false = true := fun i hi => by
  have h0 : ((List.range ops.size).filter fun i => !listed.getD i false) = [] := List.length_eq_zero_iff.1 (by simpa [unl] using hf)
  rw [List.filter_eq_nil_iff] at h0
  simpa using h0 i (List.mem_range.2 hi)

theorem ready_zero {listed : Array Bool} (hsz : listed.size = ops.size) (hall : ∀ i, i < ops.size → listed.getD i false = true) : Region.ready .any ops listed = [] := by
  apply List.eq_nil_iff_forall_not_mem.2
  intro i hi
  obtain ⟨o, ho, h1, _⟩ := (ready_iff hsz).1 hi
  rw [hall i (Array.getElem?_eq_some_iff.1 ho).1] at h1
  cases h1

theorem set_fun {listed : Array Bool} {i : Nat} (hi : i < listed.size) : (fun k => (listed.setIfInBounds i true).getD k false) = setL (fun k => listed.getD k false) i := by
  funext k
  rw [getD_listed _ _ _ hi]
  rfl

theorem wpOp_of {i : Nat} {o : Oper} (ho : ops[i]? = some o) {K : Act → World → Prop} {Qc : Exit → Act → World → Prop} (h : if Region.wanted o (yielded ops a.tmps) then o.wp P a w K Qc else K (a.put o.dst undef) w) : wpOp P ops Qc i K a w := by
  unfold wpOp
  rw [ho]
  simp only
  split
  · rename_i hw; rw [if_pos hw] at h; exact .inl h
  · rename_i hw; rw [if_neg hw] at h; exact h

/-- IN EVERY ORDER. -/
theorem draw_any (hg : Good ops N E cl xs) (hb : ∀ i o, ops[i]? = some o → ∀ k, k ∈ edgesOf o → k < i) : ∀ (fuel : Nat) (listed : Array Bool) (a : Act) (w : World) (done todo : List Nat) (e : Env) (h : AHeap), listed.size = ops.size → unl (fun k => listed.getD k false) ops.size ≤ fuel →
    (∀ i o, ops[i]? = some o → ∀ k, k ∈ E i → k ∈ edgesOf o ∨ listed.getD k false = true) →
    Inv D P G N ops E cl xs Q h0 w0 (fun k => listed.getD k false) a w done todo e h → wpAny P .any ops (CQ D G h0 w0 N Q) fuel listed a w := by
  intro fuel
  induction fuel with
  | zero =>
    intro listed a w done todo e h hsz hf _ hv
    exact ⟨ready_zero hsz (all_zero hf), hv.ends (all_zero hf)⟩
  | succ fuel ih =>
    intro listed a w done todo e h hsz hf hE hv
    refine ⟨fun hnil => hv.ends (all_listed hb hsz hnil), fun i hi => ?_⟩
    obtain ⟨o, ho, hL, hr'⟩ := (ready_iff hsz).1 hi
    have hr : ∀ k, k ∈ E i → listed.getD k false = true := fun k hk => (hE i o ho k hk).elim (hr' k) id
    have hilt : i < ops.size := (Array.getElem?_eq_some_iff.1 ho).1
    have hset := set_fun (listed := listed) (i := i) (by omega)
    have hnext : ∀ a' w' done' todo' e' h', Inv D P G N ops E cl xs Q h0 w0 (setL (fun k => listed.getD k false) i) a' w' done' todo' e' h' → wpAny P .any ops (CQ D G h0 w0 N Q) fuel (listed.setIfInBounds i true) a' w' := by
      intro a' w' done' todo' e' h' hv'
      refine ih _ a' w' done' todo' e' h' (by simp [hsz]) ?_ (fun j o hj k hk => (hE j o hj k hk).imp id fun h => ?_) (by rw [hset]; exact hv')
      · rw [hset]
        have := unl_set (L := fun k => listed.getD k false) hilt hL
        omega
      · rw [getD_listed _ _ _ (by omega)]
        split
        · rfl
        · exact h
    refine wpOp_of ho ?_
    have hin : ∃ done' todo' e', Inv D P G N ops E cl xs Q h0 w0 (fun k => listed.getD k false) a w done' todo' e' h ∧ (i ∈ done' ∨ ∃ r, todo' = i :: r ∧ isEff xs (xat xs i) = true) := by
      rcases hv.all i hilt with h1 | h1
      · exact ⟨done, todo, e, hv, .inl h1⟩
      · exact hv.reach hg ho hL hr todo done e h1
    obtain ⟨done', todo', e', hv', hcase⟩ := hin
    rcases hcase with h1 | ⟨r, rfl, heff⟩
    · obtain ⟨k1, k2⟩ := hv'.wait_out hg ho h1 hL hr
      exact k1 _ _ (hnext _ _ _ _ _ _ k2)
    · exact hv'.run_eff hg ho hr heff (fun a' w' e' h' k => hnext a' w' _ _ _ _ k)

/-- TWO OPERATIONS THAT TURN MEMORY, IN EITHER ORDER, AHEAD OF ALL OTHERS THAT DO. -/
theorem draw_two {E0 E1 E2 : Nat → List Nat} {cl1 cl2 : List Nat} (hg1 : Good ops N E1 cl1 xs) (hg2 : Good ops N E2 cl2 xs) (hb : ∀ i o, ops[i]? = some o → ∀ k, k ∈ edgesOf o → k < i) {i0 j0 : Nat} (hne : i0 ≠ j0)
    (hE : ∀ i o, ops[i]? = some o → E0 i = edgesOf o) (hE1 : ∀ i, E1 i = if i = j0 then i0 :: E0 i else E0 i) (hE2 : ∀ i, E2 i = if i = i0 then j0 :: E0 i else E0 i) (hi0 : i0 < ops.size)
    (heff : ∀ k, k < ops.size → isEff xs (xat xs k) = true → k = i0 ∨ k = j0 ∨ ∀ L : Nat → Bool, ClosedE E0 L → (∀ m, m ∈ E0 k → L m = true) → L i0 = true ∨ L j0 = true) :
    ∀ (fuel : Nat) (listed : Array Bool) (a : Act) (w : World) (d1 t1 d2 t2 : List Nat) (e1 e2 : Env) (h : AHeap), listed.size = ops.size → unl (fun k => listed.getD k false) ops.size ≤ fuel → listed.getD i0 false = false → listed.getD j0 false = false →
    Inv D P G N ops E1 cl1 xs Q h0 w0 (fun k => listed.getD k false) a w d1 t1 e1 h → Inv D P G N ops E2 cl2 xs Q h0 w0 (fun k => listed.getD k false) a w d2 t2 e2 h → wpAny P .any ops (CQ D G h0 w0 N Q) fuel listed a w := by
  intro fuel
  induction fuel with
  | zero =>
    intro listed a w d1 t1 d2 t2 e1 e2 h hsz hf hn1 hn2 hv1 hv2
    exact ⟨ready_zero hsz (all_zero hf), hv1.ends (all_zero hf)⟩
  | succ fuel ih =>
    intro listed a w d1 t1 d2 t2 e1 e2 h hsz hf hn1 hn2 hv1 hv2
    refine ⟨fun hnil => hv1.ends (all_listed hb hsz hnil), fun i hi => ?_⟩
    obtain ⟨o, ho, hL, hr'⟩ := (ready_iff hsz).1 hi
    have hr0 : ∀ k, k ∈ E0 i → listed.getD k false = true := fun k hk => hr' k (by rw [← hE i o ho]; exact hk)
    have hilt : i < ops.size := (Array.getElem?_eq_some_iff.1 ho).1
    have hset := set_fun (listed := listed) (i := i) (by omega)
    have hunl := unl_set (L := fun k => listed.getD k false) hilt hL
    refine wpOp_of ho ?_
    -- once one of the two has run, the order is one
    have one : ∀ {E : Nat → List Nat} {cl : List Nat} {x y : Nat}, Good ops N E cl xs → (∀ i, E i = if i = x then y :: E0 i else E0 i) → i = y → x ≠ y → ∀ {d t : List Nat} {e : Env}, Inv D P G N ops E cl xs Q h0 w0 (fun k => listed.getD k false) a w d t e h →
        if Region.wanted o (yielded ops a.tmps) then o.wp P a w (wpAny P .any ops (CQ D G h0 w0 N Q) fuel (listed.setIfInBounds i true)) (CQ D G h0 w0 N Q) else wpAny P .any ops (CQ D G h0 w0 N Q) fuel (listed.setIfInBounds i true) (a.put o.dst undef) w := by
      intro E cl x y hg hEx hiy hxy d t e hv
      have hr : ∀ k, k ∈ E i → listed.getD k false = true := fun k hk => by
        rw [hEx, if_neg (by rw [hiy]; exact fun h => hxy h.symm)] at hk
        exact hr0 k hk
      have hnext : ∀ a' w' done' todo' e' h', Inv D P G N ops E cl xs Q h0 w0 (setL (fun k => listed.getD k false) i) a' w' done' todo' e' h' → wpAny P .any ops (CQ D G h0 w0 N Q) fuel (listed.setIfInBounds i true) a' w' := by
        intro a' w' done' todo' e' h' hv'
        refine draw_any hg hb _ _ a' w' done' todo' e' h' (by simp [hsz]) ?_ (fun j o hj k hk => ?_) (by rw [hset]; exact hv')
        · rw [hset]; omega
        · rw [hEx] at hk
          split at hk
          · rcases List.mem_cons.1 hk with rfl | hk
            · refine .inr ?_
              rw [getD_listed _ _ _ (by omega), if_pos hiy.symm]
            · exact .inl (by rw [← hE j o hj]; exact hk)
          · exact .inl (by rw [← hE j o hj]; exact hk)
      have hin : ∃ done' todo' e', Inv D P G N ops E cl xs Q h0 w0 (fun k => listed.getD k false) a w done' todo' e' h ∧ (i ∈ done' ∨ ∃ r, todo' = i :: r ∧ isEff xs (xat xs i) = true) := by
        rcases hv.all i hilt with h1 | h1
        · exact ⟨d, t, e, hv, .inl h1⟩
        · exact hv.reach hg ho hL hr t d e h1
      obtain ⟨done', todo', e', hv', hcase⟩ := hin
      rcases hcase with h1 | ⟨r, rfl, heff⟩
      · obtain ⟨k1, k2⟩ := hv'.wait_out hg ho h1 hL hr
        exact k1 _ _ (hnext _ _ _ _ _ _ k2)
      · exact hv'.run_eff hg ho hr heff (fun a' w' e' h' k => hnext a' w' _ _ _ _ k)
    by_cases hi1 : i = i0
    · exact one hg1 hE1 hi1 (fun h => hne h.symm) hv1
    by_cases hi2 : i = j0
    · exact one hg2 hE2 hi2 hne hv2
    have hr1 : ∀ k, k ∈ E1 i → listed.getD k false = true := fun k hk => hr0 k (by rw [hE1, if_neg hi2] at hk; exact hk)
    have hr2 : ∀ k, k ∈ E2 i → listed.getD k false = true := fun k hk => hr0 k (by rw [hE2, if_neg hi1] at hk; exact hk)
    have hquiet : isEff xs (xat xs i) = false := by
      cases he : isEff xs (xat xs i) with
      | false => rfl
      | true =>
        exfalso
        rcases heff i hilt he with h1 | h1 | h1
        · exact hi1 h1
        · exact hi2 h1
        · rcases h1 (fun k => listed.getD k false) (fun m hm k hk => hv1.closed m hm k (by rw [hE1]; split; exact List.mem_cons_of_mem _ hk; exact hk)) hr0 with h1 | h1
          · exact absurd (h1.symm.trans hn1) (by simp)
          · exact absurd (h1.symm.trans hn2) (by simp)
    have hin : ∀ {E : Nat → List Nat} {cl : List Nat}, Good ops N E cl xs → (∀ k, k ∈ E i → listed.getD k false = true) → ∀ {d t : List Nat} {e : Env}, Inv D P G N ops E cl xs Q h0 w0 (fun k => listed.getD k false) a w d t e h →
        ∃ done' todo' e', Inv D P G N ops E cl xs Q h0 w0 (fun k => listed.getD k false) a w done' todo' e' h ∧ i ∈ done' := by
      intro E cl hg hr d t e hv
      rcases hv.all i hilt with h1 | h1
      · exact ⟨d, t, e, hv, h1⟩
      · obtain ⟨d', t', e', hv', h2 | ⟨r, _, h3⟩⟩ := hv.reach hg ho hL hr t d e h1
        · exact ⟨d', t', e', hv', h2⟩
        · rw [hquiet] at h3; cases h3
    obtain ⟨d1', t1', e1', hv1', hd1⟩ := hin hg1 hr1 hv1
    obtain ⟨d2', t2', e2', hv2', hd2⟩ := hin hg2 hr2 hv2
    obtain ⟨k1, k2⟩ := hv1'.wait_out hg1 ho hd1 hL hr1
    obtain ⟨_, k3⟩ := hv2'.wait_out hg2 ho hd2 hL hr2
    refine k1 _ _ (ih _ _ _ d1' t1' d2' t2' e1' e2' h (by simp [hsz]) ?_ ?_ ?_ (by rw [hset]; exact k2) (by rw [hset]; exact k3))
    · rw [hset]; omega
    · rw [getD_listed _ _ _ (by omega), if_neg (fun h => hi1 h.symm)]; exact hn1
    · rw [getD_listed _ _ _ (by omega), if_neg (fun h => hi2 h.symm)]; exact hn2

end

/-! ### the check, as a computation -/

def edgesAt (ops : Array Oper) (i : Nat) : List Nat := match ops[i]? with
  | some o => edgesOf o
  | none => []

def addE (E : Nat → List Nat) (x y : Nat) (i : Nat) : List Nat := if i = x then y :: E i else E i

/-- What comes before what: bits, taken up in an order. -/
def clo (E : Nat → List Nat) : List Nat → List Nat → List Nat
  | [], cl => cl
  | i :: r, cl => clo E r (cl.set i ((E i).foldl (fun s k => s ||| 2 ^ k ||| cl.getD k 0) 0))

def BitOk (E : Nat → List Nat) (cl : List Nat) : Prop := ∀ L : Nat → Bool, ClosedE E L → ∀ i, (∀ k, k ∈ E i → L k = true) → ∀ k, bef cl k i = true → L k = true

theorem bitOk_zero (E : Nat → List Nat) (n : Nat) : BitOk E (List.replicate n 0) := by
  intro L hc i hr k hk
  unfold bef at hk
  have : (List.replicate n 0).getD i 0 = 0 := by
    rw [List.getD_eq_getElem?_getD, List.getElem?_replicate]
    split <;> rfl
  rw [this] at hk
  simp at hk

theorem bitOk_clo (E : Nat → List Nat) : ∀ (ord cl : List Nat), BitOk E cl → BitOk E (clo E ord cl)
  | [], _, h => h
  | i :: r, cl, h => by
    refine bitOk_clo E r _ fun L hc x hr k hk => ?_
    unfold bef at hk
    rw [List.getD_eq_getElem?_getD, List.getElem?_set] at hk
    split at hk
    · rename_i hx
      subst hx
      split at hk
      · rw [Option.getD_some] at hk
        rcases or_bits cl k _ _ hk with h1 | ⟨j, hj, h1⟩
        · simp at h1
        · rcases h1 with rfl | h1
          · exact hr _ hj
          · exact h L hc j (fun m hm => hc j (hr j hj) m hm) k h1
      · simp at hk
    · exact h L hc x hr k (by unfold bef; rw [List.getD_eq_getElem?_getD]; exact hk)

def allBefore : Nat → List Oper → Bool
  | _, [] => true
  | i, o :: r => (edgesOf o).all (fun k => decide (k < i)) && allBefore (i + 1) r

def nextUp (xs : List AOp) (es : List (List Nat)) (done : List Nat) (eff : Bool) : Option Nat :=
  (List.range xs.length).find? fun i => !done.contains i && (isEff xs (xs.getD i default) == eff) && (es.getD i []).all fun k => done.contains k

/-- Our order: as long as it goes, what turns no memory; then the next that does. -/
def canon (xs : List AOp) (es : List (List Nat)) : Nat → List Nat → List Nat
  | 0, done => done.reverse
  | n + 1, done => match nextUp xs es done false with
    | some i => canon xs es n (i :: done)
    | none => match nextUp xs es done true with
      | some i => canon xs es n (i :: done)
      | none => done.reverse

def drawCheck (ops : Array Oper) (xs : List AOp) (cl ord : List Nat) : Bool :=
  drawOk xs cl ord && allBefore 0 ops.toList && (List.range ops.size).all (fun i => !bef cl i i) && decide (xs.length = ops.size) && decide (cl.length = ops.size)

def trMap (N : Nat) (ops : Array Oper) : List Oper → Option (List AOp)
  | [] => some []
  | o :: r => match trOp N ops o, trMap N ops r with
    | some x, some l => some (x :: l)
    | _, _ => none

def ordOf (xs : List AOp) (E : Nat → List Nat) : List Nat := canon xs ((List.range xs.length).map E) xs.length []

def cloOf (xs : List AOp) (E : Nat → List Nat) (ord : List Nat) : List Nat := clo E ord (List.replicate xs.length 0)

def trDrawE (ops : Array Oper) (xs : List AOp) (E : Nat → List Nat) : Option (List (AOp × List AOp)) :=
  let ord := ordOf xs E
  let cl := cloOf xs E ord
  bif drawCheck ops xs cl ord then some (items xs cl [] ord) else none

def trDraw (N : Nat) (ops : Array Oper) : Option (List (AOp × List AOp)) :=
  match trMap N ops ops.toList with
  | some xs => trDrawE ops xs (edgesAt ops)
  | none => none

/-- The first two operations that turn memory and stand in no order. -/
def pairOf (xs : List AOp) (cl : List Nat) : Option (Nat × Nat) :=
  ((List.range xs.length).flatMap fun j => (List.range j).filterMap fun i => bif isEff xs (xs.getD i default) && isEff xs (xs.getD j default) && !bef cl i j && !bef cl j i then some (i, j) else none).head?

def twoOk (xs : List AOp) (cl : List Nat) (n i j : Nat) : Bool :=
  (List.range n).all (fun k => !isEff xs (xs.getD k default) || k == i || k == j || bef cl i k || bef cl j k) && decide (i < n) && i != j

def trTwo (N : Nat) (ops : Array Oper) : Option (List (AOp × List AOp) × List (AOp × List AOp)) :=
  match trMap N ops ops.toList with
  | some xs =>
    let cl := cloOf xs (edgesAt ops) (List.range xs.length)
    match pairOf xs cl with
    | some (i, j) => bif twoOk xs cl ops.size i j then (match trDrawE ops xs (addE (edgesAt ops) j i), trDrawE ops xs (addE (edgesAt ops) i j) with
      | some a, some b => some (a, b)
      | _, _ => none) else none
    | none => none
  | none => none

def trCode (N : Nat) : Code → Option ACode
  | .skip => some .skip
  | .region _ ops draw => if draw then (match trDraw N ops with
      | some l => some (.ops l)
      | none => (trTwo N ops).map fun p => .two p.1 p.2) else (trOps N ops ops.toList).map .ops
  | .seq a b => match trCode N a, trCode N b with
    | some x, some y => some (.seq x y)
    | _, _ => none
  | .cond c a b => match trCode N a, trCode N b with
    | some x, some y => some (.cond c x y)
    | _, _ => none
  | .block id a => (trCode N a).map (.block id)
  | .loop a => (trCode N a).map .loop
  | .exit id => some (.exit id)
  | .ret => some .ret
  | _ => none

section
variable {D : List Deferred} {P : Program} {G : Nat → Option Obj} {N : Nat}

theorem trMap_get {ops : Array Oper} : ∀ (l : List Oper) (xs : List AOp), trMap N ops l = some xs → xs.length = l.length ∧ ∀ (i : Nat) (o : Oper), l[i]? = some o → OpIs ops N o (xs.getD i default)
  | [], xs, h => by simp only [trMap, Option.some.injEq] at h; subst h; exact ⟨rfl, fun i o hi => by simp at hi⟩
  | p :: r, xs, h => by
    simp only [trMap] at h
    split at h
    · rename_i x l h1 h2
      injection h with h
      subst h
      obtain ⟨a1, a2⟩ := trMap_get r l h2
      refine ⟨by simp [a1], fun i o hi => ?_⟩
      cases i with
      | zero => simp at hi; subst hi; exact trOp_is h1
      | succ i => simpa using a2 i o (by simpa using hi)
    · cases h

theorem allBefore_spec : ∀ (l : List Oper) (n i : Nat) (o : Oper), allBefore n l = true → l[i]? = some o → ∀ k, k ∈ edgesOf o → k < n + i
  | [], n, i, o, _, hi => by simp at hi
  | p :: r, n, i, o, h, hi => by
    simp only [allBefore, Bool.and_eq_true, List.all_eq_true, decide_eq_true_eq] at h
    cases i with
    | zero => simp at hi; subst hi; exact fun k hk => by have := h.1 k hk; omega
    | succ i =>
      intro k hk
      have := allBefore_spec r (n + 1) i o h.2 (by simpa using hi) k hk
      omega

theorem good_of {ops : Array Oper} {xs : List AOp} {E : Nat → List Nat} {l : List (AOp × List AOp)} (hxs : trMap N ops ops.toList = some xs) (ht : trDrawE ops xs E = some l) :
    Good ops N E (cloOf xs E (ordOf xs E)) xs ∧ l = items xs (cloOf xs E (ordOf xs E)) [] (ordOf xs E) ∧ (∀ i o, ops[i]? = some o → ∀ k, k ∈ edgesOf o → k < i) ∧ okOrd xs (cloOf xs E (ordOf xs E)) (ordOf xs E) = true ∧ (∀ i, i < ops.size ↔ i ∈ ordOf xs E) := by
  unfold trDrawE at ht
  simp only at ht
  cases hc : drawCheck ops xs (cloOf xs E (ordOf xs E)) (ordOf xs E) with
  | false => rw [hc] at ht; cases ht
  | true =>
    rw [hc] at ht
    simp only [cond_true, Option.some.injEq] at ht
    have hbit : BitOk E (cloOf xs E (ordOf xs E)) := bitOk_clo E _ _ (bitOk_zero E _)
    revert hc ht hbit
    generalize cloOf xs E (ordOf xs E) = cl
    generalize ordOf xs E = ord
    intro hc ht hbit
    obtain ⟨hlen, his⟩ := trMap_get _ _ hxs
    simp only [drawCheck, drawOk, Bool.and_eq_true, List.all_eq_true, decide_eq_true_eq, List.mem_range, Bool.or_eq_true, Bool.not_eq_true', List.contains_iff_mem] at hc
    obtain ⟨⟨⟨⟨⟨⟨⟨⟨c1, c2⟩, c3⟩, c4⟩, c5⟩, c6⟩, c7⟩, c8⟩, c9⟩ := hc
    refine ⟨{
      len := c8
      is := fun i o ho => his i o (by simpa using ho)
      bit := hbit
      irr := fun i => by
        by_cases hi : i < ops.size
        · exact c7 i hi
        · unfold bef
          rw [List.getD_eq_getElem?_getD, List.getElem?_eq_none (by omega)]
          simp
      pair := fun i j hi hj => (c3 i (by omega) j (by omega)).1
      dst := fun i j hi hj => (c3 i (by omega) j (by omega)).2
      quiet := fun i hi hqq => by
        have hmem : xat xs i ∈ xs := by
          unfold xat
          rw [List.getD_eq_getElem?_getD, List.getElem?_eq_getElem (show i < xs.length by omega)]
          exact List.getElem_mem _
        rcases c5 _ hmem with h1 | h1
        · rw [hqq] at h1; cases h1
        · exact h1 }, ht.symm, fun i o ho k hk => by have := allBefore_spec ops.toList 0 i o c6 (by simpa using ho) k hk; omega, c4, fun i => ⟨fun hi => c2 i (by omega), fun hi => by have := c1 i hi; omega⟩⟩

theorem listed_zero {ops : Array Oper} (k : Nat) : (Array.replicate ops.size false).getD k false = false := by
  simp only [Array.getD_eq_getD_getElem?, Array.getElem?_replicate]
  split <;> rfl

theorem inv_start {ops : Array Oper} {xs : List AOp} {E : Nat → List Nat} {cl ord : List Nat} {Q : AExit → Env → AHeap → Prop} {e : Env} {h : AHeap} {a : Act} {w : World} (c4 : okOrd xs cl ord = true) (hmem : ∀ i, i < ops.size ↔ i ∈ ord) (hq : aops P G Q (items xs cl [] ord) e h)
    (hr : Rel G h w) (he : EnvRep h w N e a.tmps) (hd : a.defers = D) : Inv D P G N ops E cl xs Q h w (fun k => (Array.replicate ops.size false).getD k false) a w.drew [] ord e h := by
  have hr' := drew_rel hr
  have hs' := drew_step hr
  exact {
    rel := hr', step := hs', defers := hd
    closed := fun i hL => absurd ((listed_zero i).symm.trans hL) (by simp)
    sub := fun i hL => absurd ((listed_zero i).symm.trans hL) (by simp)
    eff := fun i hi => by cases hi
    all := fun i hi => .inr ((hmem i).1 hi)
    lt := fun i hi => by rcases hi with h1 | h1; cases h1; exact (hmem i).2 h1
    apart := fun i hi => by cases hi
    ord := c4
    env := ⟨(he.step hs').1, fun t c v ht => ⟨((he.step hs').2 t c v ht).1, .inr (((he.step hs').2 t c v ht).2.resolve_left (fun h => h))⟩⟩
    wait := fun i hi => by cases hi
    rest := hq }

theorem unl_start {ops : Array Oper} : unl (fun k => (Array.replicate ops.size false).getD k false) ops.size ≤ ops.size := by
  unfold unl
  exact Nat.le_trans (List.length_filter_le _ _) (by simp)

theorem edgesAt_eq {ops : Array Oper} {i : Nat} {o : Oper} (ho : ops[i]? = some o) : edgesAt ops i = edgesOf o := by
  unfold edgesAt
  rw [ho]

theorem draw_ok {ops : Array Oper} {l : List (AOp × List AOp)} {id : Nat} {Q : AExit → Env → AHeap → Prop} {e : Env} {h : AHeap} {a : Act} {w : World} (hm : P.follows .mixedOrders = true) (ht : trDraw N ops = some l) (hq : aops P G Q l e h)
    (hr : Rel G h w) (he : EnvRep h w N e a.tmps) (hd : a.defers = D) : (Code.region id ops true).wp P (CQ D G h w N Q) a w := by
  unfold trDraw at ht
  split at ht
  · rename_i xs hxs
    obtain ⟨hg, rfl, hb, c4, hmem⟩ := good_of hxs ht
    exact wp_region_any hm (draw_any hg hb ops.size _ a _ [] _ e h (by simp) unl_start (fun i o ho k hk => .inl (by rw [edgesAt_eq ho] at hk; exact hk)) (inv_start c4 hmem hq hr he hd))
  · cases ht

theorem two_ok {ops : Array Oper} {l : List (AOp × List AOp) × List (AOp × List AOp)} {id : Nat} {Q : AExit → Env → AHeap → Prop} {e : Env} {h : AHeap} {a : Act} {w : World} (hm : P.follows .mixedOrders = true) (ht : trTwo N ops = some l) (hq : aops P G Q l.1 e h) (hq2 : aops P G Q l.2 e h)
    (hr : Rel G h w) (he : EnvRep h w N e a.tmps) (hd : a.defers = D) : (Code.region id ops true).wp P (CQ D G h w N Q) a w := by
  unfold trTwo at ht
  split at ht
  · rename_i xs hxs
    simp only at ht
    split at ht
    · rename_i i j hp
      cases hc : twoOk xs (cloOf xs (edgesAt ops) (List.range xs.length)) ops.size i j with
      | false => rw [hc] at ht; cases ht
      | true =>
        rw [hc] at ht
        simp only [cond_true] at ht
        split at ht
        · rename_i l1 l2 h1 h2
          injection ht with ht
          subst ht
          obtain ⟨hg1, rfl, hb, c4, hmem⟩ := good_of hxs h1
          obtain ⟨hg2, rfl, _, c5, hmem2⟩ := good_of hxs h2
          simp only [twoOk, Bool.and_eq_true, List.all_eq_true, decide_eq_true_eq, List.mem_range, Bool.or_eq_true, Bool.not_eq_true', bne_iff_ne, ne_eq, beq_iff_eq] at hc
          obtain ⟨⟨k1, k2⟩, k3⟩ := hc
          have hbit : BitOk (edgesAt ops) (cloOf xs (edgesAt ops) (List.range xs.length)) := bitOk_clo _ _ _ (bitOk_zero _ _)
          refine wp_region_any hm (draw_two hg1 hg2 hb (i0 := i) (j0 := j) k3 (fun i o ho => edgesAt_eq ho) (fun _ => rfl) (fun _ => rfl) k2 (fun k hk he => ?_) ops.size _ a _ [] _ [] _ e e h (by simp) unl_start (listed_zero _) (listed_zero _) (inv_start c4 hmem hq hr he hd) (inv_start c5 hmem2 hq2 hr he hd))
          rcases k1 k hk with (((k4 | k4) | k4) | k4) | k4
          · rw [he] at k4; cases k4
          · exact .inl k4
          · exact .inr (.inl k4)
          · exact .inr (.inr fun L hL hm => .inl (hbit L hL k hm i k4))
          · exact .inr (.inr fun L hL hm => .inr (hbit L hL k hm j k4))
        · cases ht
    · cases ht
  · cases ht

/-- THE THEOREM ON CODES. -/
theorem awp_ok (hm : P.follows .mixedOrders = true) : ∀ (c : Code) (ac : ACode), trCode N c = some ac → ∀ (Q : AExit → Env → AHeap → Prop) (e : Env) (h : AHeap) (a : Act) (w : World), awp P G ac Q e h → Rel G h w → EnvRep h w N e a.tmps → a.defers = D →
    c.wp P (CQ D G h w N Q) a w := by
  intro c
  induction c with
  | skip =>
    intro ac ht Q e h a w hq hr he hd
    simp only [trCode, Option.some.injEq] at ht
    subst ht
    exact wp_skip ⟨.normal, e, h, hq, rfl, hr, .refl hr, he, hd⟩
  | region id ops draw =>
    intro ac ht Q e h a w hq hr he hd
    simp only [trCode] at ht
    split at ht
    · rename_i hdraw
      subst hdraw
      split at ht
      · rename_i l hl
        injection ht with ht
        subst ht
        exact draw_ok hm hl hq hr he hd
      · obtain ⟨l, hl, rfl⟩ := Option.map_eq_some_iff.1 ht
        exact two_ok hm hl hq.1 hq.2 hr he hd
    · rename_i hdraw
      obtain rfl : draw = false := by simpa using hdraw
      obtain ⟨l, hl, rfl⟩ := Option.map_eq_some_iff.1 ht
      exact wp_region_list (aops_ok ops.toList l hl e h a w hq hr (.refl hr) he hd)
  | seq x y ihx ihy =>
    intro ac ht Q e h a w hq hr he hd
    simp only [trCode] at ht
    split at ht
    · rename_i ax ay h1 h2
      injection ht with ht
      subst ht
      refine wp_seq (wp_mono (ihx ax h1 _ e h a w hq hr he hd) fun ex a' w' hc => ?_)
      obtain ⟨axt, e', h', q1, q2, q3, q4, q5, q6⟩ := hc
      cases axt with
      | normal =>
        obtain rfl := q2
        exact wp_mono (ihy ay h2 Q e' h' a' w' q1 q3 q5 q6) fun ex a'' w'' hc => hc.from q4
      | exit i => obtain rfl := q2; exact ⟨.exit i, e', h', q1, rfl, q3, q4, q5, q6⟩
      | ret => obtain rfl := q2; exact ⟨.ret, e', h', q1, rfl, q3, q4, q5, q6⟩
      | panic v => obtain ⟨u, rfl, hu⟩ := q2; exact ⟨.panic v, e', h', q1, ⟨u, rfl, hu⟩, q3, q4, q5, q6⟩
    · cases ht
  | cond c x y ihx ihy =>
    intro ac ht Q e h a w hq hr he hd
    simp only [trCode] at ht
    split at ht
    · rename_i ax ay h1 h2
      injection ht with ht
      subst ht
      simp only [awp] at hq
      split at hq
      · rename_i cc b hl
        obtain ⟨k1, k2, k3⟩ := hq
        have hb := (look_rep he (fun _ _ h => h) hl k1).bool_inv
        exact wp_cond_split hb (fun hb => ihx ax h1 Q e h a w (k2 hb) hr he hd) (fun hb => ihy ay h2 Q e h a w (k3 hb) hr he hd)
      · exact hq.elim
    · cases ht
  | block id x ih =>
    intro ac ht Q e h a w hq hr he hd
    simp only [trCode] at ht
    obtain ⟨ax, h1, rfl⟩ := Option.map_eq_some_iff.1 ht
    refine wp_block (wp_mono (ih ax h1 _ e h a w hq hr he hd) fun ex a' w' hc => ?_)
    obtain ⟨axt, e', h', q1, q2, q3, q4, q5, q6⟩ := hc
    cases axt with
    | normal => obtain rfl := q2; exact ⟨.normal, e', h', q1, rfl, q3, q4, q5, q6⟩
    | exit i =>
      obtain rfl := q2
      simp only [AExit.inBlock] at q1
      simp only [Exit.inBlock]
      split
      · rename_i hid; rw [if_pos hid] at q1; exact ⟨.normal, e', h', q1, rfl, q3, q4, q5, q6⟩
      · rename_i hid; rw [if_neg hid] at q1; exact ⟨.exit i, e', h', q1, rfl, q3, q4, q5, q6⟩
    | ret => obtain rfl := q2; exact ⟨.ret, e', h', q1, rfl, q3, q4, q5, q6⟩
    | panic v => obtain ⟨u, rfl, hu⟩ := q2; exact ⟨.panic v, e', h', q1, ⟨u, rfl, hu⟩, q3, q4, q5, q6⟩
  | loop x ih =>
    intro ac ht Q e h a w hq hr he hd
    simp only [trCode] at ht
    obtain ⟨ax, h1, rfl⟩ := Option.map_eq_some_iff.1 ht
    simp only [awp] at hq
    obtain ⟨I, ⟨e0, h0, n0, hle, hsb, hI⟩, hround⟩ := hq
    -- the number of a state: the least that it has
    let J : Nat → Act → World → Prop := fun n a' w' => ∃ e' h', I e' h' n ∧ Rel G h' w' ∧ Step h w h' w' ∧ EnvRep h' w' N e' a'.tmps ∧ a'.defers = D
    have hmeas : ∀ n a' w', J n a' w' → ∀ b k cs, ∃ ex a2 w2, CQ D G h w N Q ex a2 w2 ∧ Arrives P (lone (b.at a' (.code x :: .inLoop x :: k)) cs w') b k cs ex a2 w2 := by
      intro n
      induction n using Nat.strongRecOn with
      | _ n ihn =>
        rintro a' w' ⟨e', h', k1, k2, k3, k4, k5⟩ b k cs
        obtain ⟨ex, a1, w1, hq1, harr⟩ := ih ax h1 _ e' h' a' w' (hround e' h' n k1) k2 k4 k5 b (.inLoop x :: k) cs
        obtain ⟨axt, e1, h1', q1, q2, q3, q4, q5, q6⟩ := hq1
        cases axt with
        | normal =>
          obtain rfl := q2
          obtain ⟨e1', h2', m, hm', hle', hsb', hI'⟩ := q1
          obtain ⟨p1, p2⟩ : Rel G h2' w1 ∧ Step h1' w1 h2' w1 := by
            rcases hsb' with rfl | hsb'
            · exact ⟨q3, .refl q3⟩
            · exact ⟨hsb'.rel q3, hsb'.step q3⟩
          obtain ⟨e2, a2, w2, hq2, harr2⟩ := ihn m hm' a1 w1 ⟨e1', h2', hI', p1, (k3.trans q4).trans p2, (hle'.rep q5).step p2, q6⟩ b k cs
          exact ⟨e2, a2, w2, hq2, .of_steps (Steps.trans harr (.one step_inLoop)) harr2⟩
        | exit i =>
          obtain rfl := q2
          exact ⟨_, a1, w1, ⟨.exit i, e1, h1', q1, rfl, q3, k3.trans q4, q5, q6⟩, .pass (x := .inLoop x) rfl (fun _ _ => .inl (by simp)) harr⟩
        | ret =>
          obtain rfl := q2
          exact ⟨_, a1, w1, ⟨.ret, e1, h1', q1, rfl, q3, k3.trans q4, q5, q6⟩, .pass (x := .inLoop x) rfl (fun _ _ => .inl (by simp)) harr⟩
        | panic v =>
          obtain ⟨u, rfl, hu⟩ := q2
          exact ⟨_, a1, w1, ⟨.panic v, e1, h1', q1, ⟨u, rfl, hu⟩, q3, k3.trans q4, q5, q6⟩, .pass (x := .inLoop x) rfl (fun _ _ => .inl (by simp)) harr⟩
    obtain ⟨p1, p2⟩ : Rel G h0 w ∧ Step h w h0 w := by
      rcases hsb with rfl | hsb
      · exact ⟨hr, .refl hr⟩
      · exact ⟨hsb.rel hr, hsb.step hr⟩
    intro b k cs
    obtain ⟨ex, a2, w2, hq2, harr⟩ := hmeas n0 a w ⟨e0, h0, hI, p1, p2, (hle.rep he).step p2, hd⟩ b k cs
    exact ⟨ex, a2, w2, hq2, .of_steps (.one step_loop) harr⟩
  | exit id =>
    intro ac ht Q e h a w hq hr he hd
    simp only [trCode, Option.some.injEq] at ht
    subst ht
    exact wp_exit ⟨.exit id, e, h, hq, rfl, hr, .refl hr, he, hd⟩
  | ret =>
    intro ac ht Q e h a w hq hr he hd
    simp only [trCode, Option.some.injEq] at ht
    subst ht
    exact wp_ret ⟨.ret, e, h, hq, rfl, hr, .refl hr, he, hd⟩
  | rangeFunc f ps as b _ _ => intro ac ht; cases ht
  | scope b _ => intro ac ht; cases ht
  | label l => intro ac ht; cases ht
  | goto l => intro ac ht; cases ht
  | refuse r => intro ac ht; cases ht

end
end Go.Abs
