/- More rules: append, rows that have room, and what stands at a call's end. Over any program; no conditions. -/
import Derived.Test.YtjnkbjloabnopaaGreatDoorZ08
import Derived.Defers
import Derived.Recover
namespace Go.Abs

/-- A slice of this tag may be appended to; its row, if it has one, is younger than h0. -/
def Room (h0 h : AHeap) (E : TypeId) (n : Nat) : Tag → Prop
  | .nl => True
  | .full => True
  | .own b => h0.next ≤ b ∧ b < h.next ∧ h.get b = some (.row E n)
  | .frz => False

/-- h' has all that h has of what is as old as h0. -/
structure Ext (h0 h h' : AHeap) : Prop where
  sub : ∀ hb, hb.next ≤ h0.next → Sub hb h → Sub hb h'
  get : ∀ g, g < h0.next → h'.get g = h.get g
  next : h.next ≤ h'.next

section
variable {P : Program} {G : Nat → Option Obj} {Q : AExit → Env → AHeap → Prop} {r : List (AOp × List AOp)} {e : Env} {h0 h h' : AHeap} {d : Nat} {chk : List AOp}

theorem Ext.refl : Ext h0 h h := ⟨fun _ _ hs => hs, fun _ _ => rfl, Nat.le_refl _⟩
theorem Ext.new {b : Nat} {o : AObj} (h0h : h0.next ≤ h.next) (hb : h.next ≤ b) : Ext h0 h (h.new b o) where
  sub := fun hb' _ hs => hs.new hb o
  get := fun g hg => hn_ne (by omega) rfl
  next := by simp only [AHeap.new]; omega
theorem Ext.move {b0 b : Nat} {o : AObj} (h0h : h0.next ≤ h.next) (hb0 : h0.next ≤ b0) (hb : b = b0 ∨ h.next ≤ b) : Ext h0 h (h.move b0 b o) where
  sub := fun hb' hle hs => hs.move hb (by omega) o
  get := fun g hg => hm_ne (by omega) (by omega) rfl
  next := by simp only [AHeap.move]; omega
theorem Ext.trans {h'' : AHeap} (a : Ext h0 h h') (b : Ext h0 h' h'') : Ext h0 h h'' := ⟨fun hb hl hs => b.sub hb hl (a.sub hb hl hs), fun g hg => (b.get g hg).trans (a.get g hg), Nat.le_trans a.next b.next⟩

theorem Ext.le {h1 : AHeap} (hl : h1.next ≤ h0.next) (a : Ext h0 h h') : Ext h1 h h' := ⟨fun hb hle hs => a.sub hb (by omega) hs, fun g hg => a.get g (by omega), a.next⟩

theorem growTo_room {E : TypeId} {n len : Nat} {tg : Tag} {K : Tag → AHeap → Prop} (h0h : h0.next ≤ h.next) (hr : Room h0 h E n tg) (hk : ∀ tg' h', Room h0 h' E len tg' → Ext h0 h h' → K tg' h') : growTo h E n len tg K := by
  cases tg with
  | nl => exact fun b hb => hk _ _ ⟨by omega, by simp only [AHeap.new]; omega, hn_self⟩ (.new h0h hb)
  | full => exact fun b hb => hk _ _ ⟨by omega, by simp only [AHeap.new]; omega, hn_self⟩ (.new h0h hb)
  | frz => exact hr.elim
  | own b0 =>
    obtain ⟨hb0, _, hg⟩ := hr
    simp only [growTo, hg]
    exact ⟨trivial, trivial, fun b hb => hk _ _ ⟨by omega, by simp only [AHeap.move]; omega, hm_self⟩ (.move h0h hb0 hb)⟩

theorem s_append {x y : Operand} {t E s1 b1 sz sz' by' : Nat} {k : AK} {es fs : List (List AVal)} {f : List AVal} {tg tg' : Tag} {z : List AVal} {z1 : Option (List AVal)} (h0 : AHeap) (hx : look e x = some (true, .sl sz es tg)) (hy : look e y = some (true, .sl sz' (f :: fs) tg')) (hT : tyi P t = some ⟨s1, b1, .sl E, z1⟩) (hE : tyi P E = some ⟨sz', by', k, some z⟩)
    (hz : (Nat.beq z.length sz' && Nat.blt 0 sz' && Nat.blt 0 by') = true) (hsz : sz = sz' ∨ tg = .nl) (h0h : h0.next ≤ h.next) (hroom : Room h0 h E (es.length * sz') tg) (hby : (es.length + (f :: fs).length) * by' ≤ 140737488355328)
    (hn : ∀ tg' h', Room h0 h' E ((es ++ f :: fs).length * sz') tg' → Ext h0 h h' → recheck P h' ((d, true, .sl sz' (es ++ f :: fs) tg') :: e) chk ∧ aops P G Q r ((d, true, .sl sz' (es ++ f :: fs) tg') :: e) h') :
    aops P G Q ((⟨some d, .call ⟨.builtin .append, #[x, y], #[t, t]⟩, none⟩, chk) :: r) e h := by
  simp only [Bool.and_eq_true] at hz
  have h1 := Nat.eq_of_beq_eq_true hz.1.1
  have h2 := Nat.le_of_ble_eq_true hz.1.2
  have h3 := Nat.le_of_ble_eq_true hz.2
  refine s_eff rfl (c2 hx hy (fun _ => rfl) (g := true) rfl) ?_
  simp only [aeff, hT, lookv_of hx, lookv_of hy, aappend, hE, srcElems, if_pos (show sz' = sz' ∨ f :: fs = [] from .inl rfl)]
  have hlen : es.length + (f :: fs).length ≤ 9223372036854775807 := by
    have : es.length + (f :: fs).length ≤ (es.length + (f :: fs).length) * by' := Nat.le_mul_of_pos_right _ h3
    omega
  exact ⟨trivial, trivial, hsz, h2, h1, hby, hlen, growTo_room h0h hroom hn⟩

theorem s_append_s {x y : Operand} {t u E s1 b1 s2 b2 sz by' : Nat} {k : AK} {es : List (List AVal)} {s : List UInt8} {tg : Tag} {z : List AVal} {z1 z2 : Option (List AVal)} (h0 : AHeap) (hx : look e x = some (true, .sl sz es tg)) (hy : look e y = some (true, .str s)) (hT : tyi P t = some ⟨s1, b1, .sl E, z1⟩) (hU : tyi P u = some ⟨s2, b2, .str, z2⟩) (hE : tyi P E = some ⟨1, by', k, some z⟩)
    (hz : (Nat.beq z.length 1 && Nat.blt 0 by') = true) (hs : s ≠ []) (hsz : sz = 1 ∨ tg = .nl) (h0h : h0.next ≤ h.next) (hroom : Room h0 h E es.length tg) (hby : (es.length + s.length) * by' ≤ 140737488355328)
    (hn : ∀ tg' h', Room h0 h' E (es.length + s.length) tg' → Ext h0 h h' → recheck P h' ((d, true, .sl 1 (es ++ s.map fun b => [AVal.int .u8 b.toNat]) tg') :: e) chk ∧ aops P G Q r ((d, true, .sl 1 (es ++ s.map fun b => [AVal.int .u8 b.toNat]) tg') :: e) h') :
    aops P G Q ((⟨some d, .call ⟨.builtin .append, #[x, y], #[t, u]⟩, none⟩, chk) :: r) e h := by
  simp only [Bool.and_eq_true] at hz
  have h1 := Nat.eq_of_beq_eq_true hz.1
  have h3 := Nat.le_of_ble_eq_true hz.2
  refine s_eff rfl (c2 hx hy (fun _ => rfl) (g := true) rfl) ?_
  obtain ⟨c, l, rfl⟩ : ∃ c l, s = c :: l := by
    cases s with
    | nil => exact absurd rfl hs
    | cons c l => exact ⟨c, l, rfl⟩
  simp only [aeff, hT, hU, lookv_of hx, lookv_of hy, aappend, hE, srcElems, if_true, List.map_cons]
  have hl : ∀ (l : List UInt8), (List.map (fun b => [AVal.int .u8 b.toNat]) l).length = l.length := fun l => List.length_map ..
  simp only [List.length_cons, List.length_append, hl, Nat.mul_one] at hby ⊢
  have hlen : es.length + (l.length + 1) ≤ 9223372036854775807 := by
    have : es.length + (l.length + 1) ≤ (es.length + (l.length + 1)) * by' := Nat.le_mul_of_pos_right _ h3
    omega
  exact ⟨hsz, Nat.one_pos, h1, hby, hlen, growTo_room h0h hroom hn⟩

/-! ### a call's end -/

/-- Of what stood at the call's begin, all stands yet, but that g holds o. -/
structure At (h0 : AHeap) (g : Nat) (o : AObj) (h : AHeap) : Prop where
  sub : Sub (h0.set g o) h
  get : h.get g = some o
  lt : g < h0.next
  next : h0.next ≤ h.next

theorem set_same {g : Nat} {o : AObj} (hg : h.get g = some o) : h.set g o = h := by
  obtain ⟨get, next⟩ := h
  simp only [AHeap.set, AHeap.mk.injEq, and_true]
  funext x
  by_cases hx : x = g
  · subst hx; simp only [if_true]; exact hg.symm
  · simp [hx]

theorem At.refl {g : Nat} {o : AObj} (hw : h0.Wf) (hg : h0.get g = some o) : At h0 g o h0 := ⟨by rw [set_same hg]; exact .refl hw, hg, hw g o hg, Nat.le_refl _⟩
theorem At.set {g T : Nat} {cs cs' : List AVal} (ha : At h0 g (.box T cs) h) : At h0 g (.box T cs') (h.set g (.box T cs')) where
  sub := by
    have := Sub.set (T := T) (cs := cs') (cs' := cs') (h' := h0.set g (.box T cs)) (h := h) (g := g)
    rw [← set_set (h := h0) (o := .box T cs)]
    have hs := ha.sub
    refine ⟨hs.next, ?_, ?_⟩
    · intro x o hx
      by_cases hxg : x = g
      · rw [hxg]; exact ha.lt
      · simp only [AHeap.set, if_neg hxg] at hx
        exact hs.wf x o (by simp only [AHeap.set, if_neg hxg]; exact hx)
    · intro x o hx
      by_cases hxg : x = g
      · subst hxg
        simp only [AHeap.set, if_true] at hx ⊢
        injection hx with hx
        subst hx
        exact .inr ⟨T, cs', cs', rfl, rfl, .refl cs'⟩
      · simp only [AHeap.set, if_neg hxg] at hx ⊢
        exact hs.get x o (by simp only [AHeap.set, if_neg hxg]; exact hx)
  get := hs_self
  lt := ha.lt
  next := ha.next
theorem At.ext {g : Nat} {o : AObj} (ha : At h0 g o h) (hx : Ext h0 h h') : At h0 g o h' := ⟨hx.sub _ (Nat.le_refl _) ha.sub, by rw [hx.get g ha.lt]; exact ha.get, ha.lt, Nat.le_trans ha.next hx.next⟩
theorem At.new {g b : Nat} {o o' : AObj} (ha : At h0 g o h) (hb : h.next ≤ b) : At h0 g o (h.new b o') := ha.ext (.new ha.next hb)

theorem At.setl {g b : Nat} {o o' : AObj} (hb : h0.next ≤ b) (ha : At h0 g o h) : At h0 g o (h.set b o') := ⟨ha.sub.setl hb o', hs_ne (by have := ha.lt; omega) ha.get, ha.lt, ha.next⟩
theorem At.newl {g b : Nat} {o o' : AObj} (hb : h.next ≤ b) (ha : At h0 g o h) : At h0 g o (h.new b o') := ha.new hb
theorem set_next {b : Nat} {o : AObj} : (h.set b o).next = h.next := rfl
theorem new_next {b : Nat} {o : AObj} : (h.new b o).next = b + 1 := rfl

theorem Room.set {E : TypeId} {n g : Nat} {o : AObj} {tg : Tag} (hr : Room h0 h E n tg) (hg : g < h0.next) : Room h0 (h.set g o) E n tg := by
  cases tg with
  | own b => exact ⟨hr.1, hr.2.1, hs_ne (by have := hr.1; omega) hr.2.2⟩
  | _ => exact hr
theorem Room.setb {E T : TypeId} {n g : Nat} {cs : List AVal} {o : AObj} {tg : Tag} (hr : Room h0 h E n tg) (hg : h.get g = some (.box T cs)) : Room h0 (h.set g o) E n tg := by
  cases tg with
  | own b =>
    refine ⟨hr.1, hr.2.1, hs_ne ?_ hr.2.2⟩
    rintro rfl
    have := hr.2.2
    rw [hg] at this
    cases this
  | _ => exact hr
theorem Room.new {E : TypeId} {n g : Nat} {o : AObj} {tg : Tag} (hr : Room h0 h E n tg) (hg : h.next ≤ g) : Room h0 (h.new g o) E n tg := by
  cases tg with
  | own b =>
    have := hr.2.1
    exact ⟨hr.1, by simp only [AHeap.new]; omega, hn_ne (by omega) hr.2.2⟩
  | _ => exact hr

theorem fin_at {g : Nat} {o : AObj} {out out' : AOut} {Post : AOut → AHeap → Prop} (ha : At h0 g o h) (hw : WeakOut out out') (hp : Post out' (h0.set g o)) : Fin Post out h := ⟨out', h0.set g o, hw, ha.sub, hp⟩
theorem fin_sub {out out' : AOut} {Post : AOut → AHeap → Prop} (hs : Sub h0 h) (hw : WeakOut out out') (hp : Post out' h0) : Fin Post out h := ⟨out', h0, hw, hs, hp⟩

/-! ### fewer tags -/
theorem weak_frz {sz : Nat} {es : List (List AVal)} {t : Tag} : Weak (.sl sz es t) (.sl sz es .frz) :=
  .sl sz es es t .frz (.inr rfl) rfl (fun i x y h1 h2 => by rw [h1] at h2; injection h2 with h2; rw [h2]) fun i j xx yy x y h1 h2 h3 h4 => by
    rw [h1] at h2; injection h2 with h2; subst h2
    rw [h3] at h4; injection h4 with h4; subst h4
    exact .refl _
def WeakLL (xs ys : List (List AVal)) : Prop := xs.length = ys.length ∧ ∀ (i : Nat) (x y : List AVal), xs[i]? = some x → ys[i]? = some y → WeakL x y
theorem WeakLL.nil : WeakLL [] [] := ⟨rfl, fun i x y h => by simp at h⟩
theorem WeakLL.cons {x y : List AVal} {xs ys : List (List AVal)} (h : WeakL x y) (hs : WeakLL xs ys) : WeakLL (x :: xs) (y :: ys) := by
  refine ⟨by simp [hs.1], fun i a b ha hb => ?_⟩
  cases i with
  | zero => simp at ha hb; subst ha; subst hb; exact h
  | succ i => exact hs.2 i a b (by simpa using ha) (by simpa using hb)
theorem weak_sl {sz : Nat} {xs ys : List (List AVal)} {t : Tag} (h : WeakLL xs ys) : Weak (.sl sz xs t) (.sl sz ys .frz) :=
  .sl sz xs ys t .frz (.inr rfl) h.1 (fun i x y h1 h2 => (h.2 i x y h1 h2).1) fun i j xx yy x y h1 h2 h3 h4 => (h.2 i xx yy h1 h2).2 j x y h3 h4
theorem weak_nl {sz sz' : Nat} {t' : Tag} (ht : t' = .nl ∨ t' = .frz) : Weak (.sl sz [] .nl) (.sl sz' [] t') := .nil sz sz' .nl t' ht (.inl rfl)
theorem weak_nil {sz sz' : Nat} : Weak (.sl sz [] .nl) (.sl sz' [] .frz) := weak_nl (.inr rfl)
end

/-- Bytes as elements of a slice. -/
def bytesE (s : List UInt8) : List (List AVal) := s.map fun b => [AVal.int .u8 b.toNat]
theorem bytesE_length (s : List UInt8) : (bytesE s).length = s.length := List.length_map ..
theorem abytes_bytesE : ∀ s : List UInt8, abytes (bytesE s) = some s
  | [] => rfl
  | c :: r => by
    have := abytes_bytesE r
    unfold bytesE at this ⊢
    simp [abytes, this]

end Go.Abs

/- A region whose two operations that turn memory may run in either order. Over any program; no conditions. -/
namespace Go.Abs
section
variable {P : Program} {G : Nat → Option Obj} {Q : AExit → Env → AHeap → Prop} {l : List Frame} {e : Env} {h : AHeap}
theorem w_two {a b : List (AOp × List AOp)} (h1 : aops P G (Run P G Q l) a e h) (h2 : aops P G (Run P G Q l) b e h) : awp P G (.two a b) (Run P G Q l) e h := ⟨h1, h2⟩
end
end Go.Abs

/- Regions one operation at a time, deferred calls and recover. Over any program; no conditions. -/
namespace Go.Abs

section
variable {P : Program} {G : Nat → Option Obj} {N : Nat} {ops : Array Oper} {Qm : Exit → Act → World → Prop} {h : AHeap} {w : World} {e : Env} {a : Act} {o : Oper} {rest : List Oper}

theorem wanted_none {y : Nat → Option Bool} (hg : o.guard = none) : Region.wanted o y = true := by
  unfold Region.wanted
  rw [hg]

theorem pure_op {v : Value} (hg : o.guard = none) (hrun : (execOp a.eval o).run P w = .ok (.value v) w) (hk : wpList P ops Qm rest (a.put o.dst v) w) : wpList P ops Qm (o :: rest) a w := by
  unfold wpList
  rw [if_pos (wanted_none hg)]
  exact .inl (eff_value hrun hk)

theorem defer_op {d : Deferred} (hg : o.guard = none) (hrun : (execOp a.eval o).run P w = .ok (.defer d) w) (hk : wpList P ops Qm rest ({ a with defers := d :: a.defers }.put o.dst undef) w) : wpList P ops Qm (o :: rest) a w := by
  unfold wpList
  rw [if_pos (wanted_none hg)]
  refine .inl ?_
  unfold Oper.wp
  rw [hrun]
  exact hk

theorem abs_op {x : AOp} {K : Env → AHeap → Prop} {Kp : AVal → AHeap → Prop} (hi : trOp N ops o = some x) (hr : Rel G h w) (he : EnvRep h w N e a.tmps) (hx : aop1 P G h e x K Kp)
    (hK : ∀ e' h' a' w', K e' h' → Rel G h' w' → Step h w h' w' → EnvRep h' w' N e' a'.tmps → a'.defers = a.defers → wpList P ops Qm rest a' w')
    (hP : ∀ v h' w' u, Kp v h' → Rel G h' w' → Step h w h' w' → Rep h' w' v u → Qm (.panic [{ v := u, recovered := false }]) a w') : wpList P ops Qm (o :: rest) a w := by
  unfold wpList
  have := aop1_ok (Kc := wpList P ops Qm rest) (Q := Qm) (trOp_is hi) hr he (fun _ _ h => h) hx (fun e' h' a' w' hk k1 k2 k3 k4 => hK e' h' a' w' hk k1 k2 (k3.none fun _ h => h.1) k4) hP
  split
  · rename_i hw; rw [if_pos hw] at this; exact .inl this
  · rename_i hw; rw [if_neg hw] at this; exact this

/-- One operation, said as a list of one. -/
theorem abs_one {x : AOp} {Qx : AExit → Env → AHeap → Prop} (hi : trOp N ops o = some x) (hr : Rel G h w) (he : EnvRep h w N e a.tmps) (hx : aops P G Qx [(x, [])] e h)
    (hK : ∀ e' h' a' w', Qx .normal e' h' → Rel G h' w' → Step h w h' w' → EnvRep h' w' N e' a'.tmps → a'.defers = a.defers → wpList P ops Qm rest a' w')
    (hP : ∀ v h' w' u, Qx (.panic v) [] h' → Rel G h' w' → Step h w h' w' → Rep h' w' v u → Qm (.panic [{ v := u, recovered := false }]) a w') : wpList P ops Qm (o :: rest) a w :=
  abs_op hi hr he hx (fun e' h' a' w' q => hK e' h' a' w' q.2) hP

/-- Only what runs to its end. -/
def Only (K : Env → AHeap → Prop) : AExit → Env → AHeap → Prop
  | .normal, e, h => K e h
  | _, _, _ => False

theorem abs_ops {D : List Deferred} {h0 : AHeap} {w0 : World} {K : Env → AHeap → Prop} (rest : List Oper) : ∀ (l : List Oper) (xs : List (AOp × List AOp)), trOps N ops l = some xs → ∀ (e : Env) (h : AHeap) (a : Act) (w : World), aops P G (Only K) xs e h → Rel G h w → Step h0 w0 h w → EnvRep h w N e a.tmps → a.defers = D →
    (∀ e' h' a' w', K e' h' → Rel G h' w' → Step h0 w0 h' w' → EnvRep h' w' N e' a'.tmps → a'.defers = D → wpList P ops Qm rest a' w') → wpList P ops Qm (l ++ rest) a w
  | [], xs, hx, e, h, a, w, hq, hr, hs, he, hd, hk => by
    simp only [trOps, Option.some.injEq] at hx
    subst hx
    exact hk e h a w hq hr hs he hd
  | o :: r, xs, hx, e, h, a, w, hq, hr, hs, he, hd, hk => by
    simp only [trOps] at hx
    split at hx
    · rename_i x l h1 h2
      injection hx with hx
      subst hx
      exact abs_op (rest := r ++ rest) h1 hr he hq (fun e' h' a' w' q k1 k2 k3 k4 => abs_ops rest r l h2 e' h' a' w' q.2 k1 (hs.trans k2) k3 (k4.trans hd) hk) (fun v h' w' u q => q.elim)
    · cases hx

theorem ret_ok {fn : Func} {tmps : Array Value} {K : List AVal → Prop} (hr : Rel G h w) (he : EnvRep h w N e tmps) (hk : aret P h e fn.results.toList K) :
    ∃ xs v, K xs ∧ (results fn tmps).run P w = .ok v w ∧ Rep h w (tupleOf xs) v := by
  obtain ⟨xs, us, k1, k2, k3⟩ := aret_ok hr he _ _ hk
  refine ⟨xs, if h1 : us.toArray.size = 1 then us.toArray[0] else .tuple us.toArray, k1, ?_, ?_⟩
  · rw [results_eq, Array.mapM_eq_mapM_toList]
    simp only [Sem.run_bind, Sem.run_map, k3, Result.andThen_ok, Sem.run_pure]
  · have hlen := k2.1
    match xs, us, hlen, k2 with
    | [], [], _, k2 => simpa [tupleOf] using Rep.tuple [] [] rfl k2.2
    | [x], [u], _, k2 => simpa [tupleOf] using k2.2 0 x u rfl rfl
    | x :: y :: r, u :: v :: s, _, k2 => simpa [tupleOf] using Rep.tuple _ _ k2.1 k2.2

theorem eval_rep {t : Nat} {x : AVal} (he : EnvRep h w N e a.tmps) (ht : e.get t = some (true, x)) : Rep h w x (a.eval (.tmp t)) :=
  look_rep (x := .tmp t) he (fun _ _ h => h) ht rfl

theorem EnvB.put1 {d : Nat} {x : AVal} {v : Value} (he : EnvRep h w N e a.tmps) (hd : d < N) (hv : Rep h w x v) : EnvRep h w N ((d, true, x) :: e) (a.put (some d) v).tmps :=
  (EnvB.put he hd (fun _ => hv) (fun hc => by cases hc)).none fun _ h => h.1

theorem func_inv {fn : Fn} {first cap : List AVal} {v : Value} (hv : Rep h w (.func fn first cap) v) : ∃ vf vc : List Value, v = .func fn vf.toArray vc.toArray ∧ Reps h w first vf ∧ Reps h w cap vc := by
  cases hv with
  | func _ _ _ vf vc hf hc hrf hrc => exact ⟨vf, vc, rfl, ⟨hf, hrf⟩, ⟨hc, hrc⟩⟩

/-- A deferred call of a function value. -/
theorem run_defer {t : Nat} {fn : Fn} {vc : List Value} {Ts : Array TypeId} (ho : o.op = .defer ⟨.value (.tmp t), #[], Ts⟩) (hv : a.eval (.tmp t) = .func fn #[] vc.toArray) : (execOp a.eval o).run P w = .ok (.defer { target := .fn fn vc.toArray, args := #[] }) w := by
  simp only [execOp, ho, resolve, hv, Deferred.ofValue, Sem.run_bind, Sem.run_pure, Result.andThen_ok]
  simp

/-- What is behind the last deferred call. -/
theorem leaves_one {fn : Func} {tmps : Array Value} {R : Ending → World → Prop} {k : FuncId} {vc : List Value} {u : FrameMode} (hu : u ≠ .run) (hc : Callable P k)
    (h : CallsD P k vc.toArray u w fun e u' w' => settle u' = .returning ∧ (∃ v, e = .returned v) ∧ ∃ v, (results fn tmps).run P w' = .ok v w' ∧ R (.returned v) w') :
    Leaves P fn tmps R [{ target := .fn (.func k) vc.toArray, args := #[] }] u w := by
  refine leaves_cons (f := k) (args := vc.toArray) hu ?_ (h.mono fun e u' w' hq => ?_)
  · simp only [invoke]
    rw [show (#[] : Array Value) ++ vc.toArray = vc.toArray by simp]
    exact run_callFunc hc _ _
  · obtain ⟨h1, ⟨v, rfl⟩, h2⟩ := hq
    simp only [h1]
    exact h2

end

theorem acalls_of {P : Program} {G : Nat → Option Obj} {f : FuncId} {args : List AVal} {h : AHeap} {Post : AOut → AHeap → Prop} (hx : ∀ (w : World) (vs : List Value), Rel G h w → Reps h w args vs →
    Calls P f vs.toArray w fun e w' => ∃ out h', Post out h' ∧ Rel G h' w' ∧ Step h w h' w' ∧ RepOut h' w' out e) : ACalls P G f args h Post := hx
theorem acalls_to {P : Program} {G : Nat → Option Obj} {f : FuncId} {args : List AVal} {h : AHeap} {Post : AOut → AHeap → Prop} (hx : ACalls P G f args h Post) : ∀ (w : World) (vs : List Value), Rel G h w → Reps h w args vs →
    Calls P f vs.toArray w fun e w' => ∃ out h', Post out h' ∧ Rel G h' w' ∧ Step h w h' w' ∧ RepOut h' w' out e := hx
theorem only_i {K : Env → AHeap → Prop} {e : Env} {h : AHeap} (hk : K e h) : Only K .normal e h := hk

theorem z_ctt {P : Program} {e : Env} {h : AHeap} {v : AVal} {a T t u b off T' : Nat} {i : TI} {cs : List AVal} {v' v'' : AVal} {Post : AOut → AHeap → Prop} (ha : e.get a = some (true, .ptr b off)) (hT : tyi P T = some i) (hb : h.get b = some (.box T' cs)) (ho : Nat.ble off cs.length = true) (hl : aload i (cs.drop off) = some v)
    (ht : e.get t = some (true, v')) (hu : e.get u = some (true, v'')) (hn : Post (.ret (.tuple [v, v', v''])) h) : BodyQ P [.cell a T, .tmp t, .tmp u] Post .ret e h := by
  simp only [BodyQ, aret, ha, hT, ACellsAt, hb, if_pos (Nat.le_of_ble_eq_true ho), hl, ht, hu, tupleOf]; exact ⟨trivial, trivial, trivial, hn⟩

/-! ### parts of a code -/

def Code.fst : Code → Code
  | .seq x _ => x
  | .cond _ x _ => x
  | .block _ x => x
  | x => x
def Code.snd : Code → Code
  | .seq _ y => y
  | .cond _ _ y => y
  | x => x
def Code.oper : Code → List Oper
  | .region _ ops _ => ops.toList
  | _ => []

section
variable {P : Program} {G : Nat → Option Obj}

/-- Recover, and what is behind it. -/
theorem callsD_recover {f : FuncId} {fn : Func} {id : Nat} {ops : Array Oper} {rest : Code} {r x t1 t2 : Nat} {p1 p2 : String} {a1 a2 : Array Edge} {vs : List Value} {w : World} {u u' : FrameMode} {v : Value} {R : Ending → FrameMode → World → Prop}
    (hf : P.funcs[f]? = some fn) (hb : fn.body = some (.seq (.region id ops false) rest)) (hops : ops = #[⟨some r, .call ⟨.builtin .recover, #[], #[]⟩, t1, p1, a1, none⟩, ⟨some x, .assign (.tmp r), t2, p2, a2, none⟩]) (hr : r < fn.ntmps) (hrv : vs.length ≤ fn.ntmps)
    (hmode : (u = .returning ∧ u' = .returning ∧ v = .nilIface) ∨ (u = .panicking [{ v := v, recovered := false }] ∧ u' = .panicking [{ v := v, recovered := true }]))
    (hx : ∀ (c₀ : Go.Frame) (cs : List Go.Frame), rest.wp P (fun e a' w' => bodyPostS P fn c₀ cs R e a' ({ c₀ with mode := u' } :: cs) w') ((({ tmps := vs.toArray ++ Array.replicate (fn.ntmps - vs.toArray.size) undef, defers := [] } : Act).put (some r) v).put (some x) v) w) :
    CallsD P f vs.toArray u w R := by
  subst hops
  refine callsD_of_wpS hf hb fun c₀ cs hu => wpS_seq (wpS_region ?_)
  have hrange : List.range (#[(⟨some r, .call ⟨.builtin .recover, #[], #[]⟩, t1, p1, a1, none⟩ : Oper), ⟨some x, .assign (.tmp r), t2, p2, a2, none⟩]).size = [0, 1] := rfl
  have key : ∀ (cs' : List Go.Frame) (hrec : (match recoverD (c₀ :: cs) with
      | some (v, cs') => (v, cs')
      | none => (.nilIface, c₀ :: cs)) = (v, cs')), cs' = { c₀ with mode := u' } :: cs →
      wpOpsS P #[(⟨some r, .call ⟨.builtin .recover, #[], #[]⟩, t1, p1, a1, none⟩ : Oper), ⟨some x, .assign (.tmp r), t2, p2, a2, none⟩] (Exit.thenS (rest.wpS P (bodyPostS P fn c₀ cs R)) (bodyPostS P fn c₀ cs R)) [0, 1] { tmps := vs.toArray ++ Array.replicate (fn.ntmps - vs.toArray.size) undef, defers := [] } (c₀ :: cs) w := by
    intro cs' hrec hcs
    have hget : (((({ tmps := vs.toArray ++ Array.replicate (fn.ntmps - vs.toArray.size) undef, defers := [] } : Act).put (some r) v)).eval (.tmp r)) = v := by
      simp only [Act.eval, Act.put]
      rw [getD_set _ _ _ _ (by simp; omega), if_pos rfl]
    have hnext : wpOpsS P #[(⟨some r, .call ⟨.builtin .recover, #[], #[]⟩, t1, p1, a1, none⟩ : Oper), ⟨some x, .assign (.tmp r), t2, p2, a2, none⟩] (Exit.thenS (rest.wpS P (bodyPostS P fn c₀ cs R)) (bodyPostS P fn c₀ cs R)) [1] (({ tmps := vs.toArray ++ Array.replicate (fn.ntmps - vs.toArray.size) undef, defers := [] } : Act).put (some r) v) cs' w := by
      unfold wpOpsS
      simp only [List.getElem?_toArray, List.getElem?_cons_succ, List.getElem?_cons_zero, Region.wanted, if_true]
      have hrun : (execOp (({ tmps := vs.toArray ++ Array.replicate (fn.ntmps - vs.toArray.size) undef, defers := [] } : Act).put (some r) v).eval ⟨some x, .assign (.tmp r), t2, p2, a2, none⟩).run P w = .ok (.value v) w := by
        simp only [execOp, hget, Sem.run_pure]
      rw [hrun]
      simp only [Oper.upon, wpOpsS, Exit.thenS]
      rw [hcs]
      exact wpS_of_wp (hx c₀ cs)
    unfold wpOpsS
    simp only [List.getElem?_toArray, List.getElem?_cons_zero, Region.wanted, if_true]
    have hrun : ∀ ρ, (execOp ρ (⟨some r, .call ⟨.builtin .recover, #[], #[]⟩, t1, p1, a1, none⟩ : Oper)).run P w = .ok .recover w := fun ρ => by
      simp only [execOp, resolve, invoke, builtin, Sem.run_bind, Sem.run_pure, Result.andThen_ok]
    rw [hrun]
    simp only
    cases hq : recoverD (c₀ :: cs) with
    | none =>
      rw [hq] at hrec
      simp only [Prod.mk.injEq] at hrec
      obtain ⟨rfl, rfl⟩ := hrec
      exact hnext
    | some q =>
      obtain ⟨v', cs''⟩ := q
      rw [hq] at hrec
      simp only [Prod.mk.injEq] at hrec
      obtain ⟨rfl, rfl⟩ := hrec
      exact hnext
  rw [hrange]
  rcases hmode with ⟨rfl, rfl, rfl⟩ | ⟨rfl, rfl⟩
  · exact key (c₀ :: cs) (by simp [recoverD, hu]) (by cases c₀; simp_all)
  · exact key _ (by simp [recoverD, hu]) rfl

end
end Go.Abs

/- The types of the loaded program of this seat, as our tables tell them. No conditions. -/
namespace Go.Proofs
open Go.Abs
theorem ty0 : tyi Tryz.prog 0 = some ⟨1, 0, .other, none⟩ := by kernel_rfl
theorem ty1 : tyi Tryz.prog 1 = some ⟨1, 8, .fn, some [.nilfn]⟩ := by kernel_rfl
theorem ty2 : tyi Tryz.prog 2 = some ⟨1, 8, .int .i64, some [.int .i64 0]⟩ := by kernel_rfl
theorem ty3 : tyi Tryz.prog 3 = some ⟨1, 8, .int .i64, some [.int .i64 0]⟩ := by kernel_rfl
theorem ty4 : tyi Tryz.prog 4 = some ⟨1, 1, .bool, some [.bool false]⟩ := by kernel_rfl
theorem ty5 : tyi Tryz.prog 5 = some ⟨1, 1, .int .u8, some [.int .u8 0]⟩ := by kernel_rfl
theorem ty6 : tyi Tryz.prog 6 = some ⟨1, 1, .int .u8, some [.int .u8 0]⟩ := by kernel_rfl
theorem ty7 : tyi Tryz.prog 7 = some ⟨4, 24, .st [(2, 0, 1), (3, 1, 1), (4, 2, 1), (6, 3, 1)], some [.int .i64 0, .int .i64 0, .bool false, .int .u8 0]⟩ := by kernel_rfl
theorem ty8 : tyi Tryz.prog 8 = some ⟨4, 24, .st [(2, 0, 1), (3, 1, 1), (4, 2, 1), (6, 3, 1)], some [.int .i64 0, .int .i64 0, .bool false, .int .u8 0]⟩ := by kernel_rfl
theorem ty9 : tyi Tryz.prog 9 = some ⟨1, 16, .str, some [.str []]⟩ := by kernel_rfl
theorem ty10 : tyi Tryz.prog 10 = some ⟨1, 16, .str, some [.str []]⟩ := by kernel_rfl
theorem ty11 : tyi Tryz.prog 11 = some ⟨1, 16, .str, some [.str []]⟩ := by kernel_rfl
theorem ty12 : tyi Tryz.prog 12 = some ⟨1, 8, .int .u64, some [.int .u64 0]⟩ := by kernel_rfl
theorem ty13 : tyi Tryz.prog 13 = some ⟨2, 24, .st [(9, 0, 1), (12, 1, 1)], some [.str [], .int .u64 0]⟩ := by kernel_rfl
theorem ty14 : tyi Tryz.prog 14 = some ⟨2, 24, .st [(9, 0, 1), (12, 1, 1)], some [.str [], .int .u64 0]⟩ := by kernel_rfl
theorem ty15 : tyi Tryz.prog 15 = some ⟨1, 8, .ptr, some [.nilptr]⟩ := by kernel_rfl
theorem ty16 : tyi Tryz.prog 16 = some ⟨1, 8, .ptr, some [.nilptr]⟩ := by kernel_rfl
theorem ty17 : tyi Tryz.prog 17 = some ⟨1, 8, .ptr, some [.nilptr]⟩ := by kernel_rfl
theorem ty18 : tyi Tryz.prog 18 = some ⟨1, 8, .st [(17, 0, 1)], some [.nilptr]⟩ := by kernel_rfl
theorem ty19 : tyi Tryz.prog 19 = some ⟨1, 8, .st [(17, 0, 1)], some [.nilptr]⟩ := by kernel_rfl
theorem ty20 : tyi Tryz.prog 20 = some ⟨1, 16, .ifc, some [.niliface]⟩ := by kernel_rfl
theorem ty21 : tyi Tryz.prog 21 = some ⟨1, 4, .int .i32, some [.int .i32 0]⟩ := by kernel_rfl
theorem ty22 : tyi Tryz.prog 22 = some ⟨1, 24, .sl 3, some [.sl 0 [] .nl]⟩ := by kernel_rfl
theorem ty23 : tyi Tryz.prog 23 = some ⟨1, 24, .sl 9, some [.sl 0 [] .nl]⟩ := by kernel_rfl
theorem ty24 : tyi Tryz.prog 24 = some ⟨1, 8, .ptr, some [.nilptr]⟩ := by kernel_rfl
theorem ty25 : tyi Tryz.prog 25 = some ⟨1, 8, .fn, some [.nilfn]⟩ := by kernel_rfl
theorem ty26 : tyi Tryz.prog 26 = some ⟨1, 8, .fn, some [.nilfn]⟩ := by kernel_rfl
theorem ty27 : tyi Tryz.prog 27 = some ⟨1, 24, .sl 29, some [.sl 0 [] .nl]⟩ := by kernel_rfl
theorem ty28 : tyi Tryz.prog 28 = some ⟨7, 104, .st [(3, 0, 1), (9, 1, 1), (9, 2, 1), (9, 3, 1), (9, 4, 1), (4, 5, 1), (27, 6, 1)], some [.int .i64 0, .str [], .str [], .str [], .str [], .bool false, .sl 0 [] .nl]⟩ := by kernel_rfl
theorem ty29 : tyi Tryz.prog 29 = some ⟨7, 104, .st [(3, 0, 1), (9, 1, 1), (9, 2, 1), (9, 3, 1), (9, 4, 1), (4, 5, 1), (27, 6, 1)], some [.int .i64 0, .str [], .str [], .str [], .str [], .bool false, .sl 0 [] .nl]⟩ := by kernel_rfl
theorem ty30 : tyi Tryz.prog 30 = some ⟨1, 24, .sl 32, some [.sl 0 [] .nl]⟩ := by kernel_rfl
theorem ty31 : tyi Tryz.prog 31 = some ⟨13, 184, .st [(3, 0, 1), (29, 1, 7), (9, 8, 1), (9, 9, 1), (3, 10, 1), (3, 11, 1), (30, 12, 1)], some [.int .i64 0, .int .i64 0, .str [], .str [], .str [], .str [], .bool false, .sl 0 [] .nl, .str [], .str [], .int .i64 0, .int .i64 0, .sl 0 [] .nl]⟩ := by kernel_rfl
theorem ty32 : tyi Tryz.prog 32 = some ⟨13, 184, .st [(3, 0, 1), (29, 1, 7), (9, 8, 1), (9, 9, 1), (3, 10, 1), (3, 11, 1), (30, 12, 1)], some [.int .i64 0, .int .i64 0, .str [], .str [], .str [], .str [], .bool false, .sl 0 [] .nl, .str [], .str [], .int .i64 0, .int .i64 0, .sl 0 [] .nl]⟩ := by kernel_rfl
theorem ty33 : tyi Tryz.prog 33 = some ⟨1, 24, .sl 35, some [.sl 0 [] .nl]⟩ := by kernel_rfl
theorem ty34 : tyi Tryz.prog 34 = some ⟨11, 160, .st [(3, 0, 1), (9, 1, 1), (9, 2, 1), (9, 3, 1), (9, 4, 1), (9, 5, 1), (4, 6, 1), (3, 7, 1), (3, 8, 1), (23, 9, 1), (33, 10, 1)], some [.int .i64 0, .str [], .str [], .str [], .str [], .str [], .bool false, .int .i64 0, .int .i64 0, .sl 0 [] .nl, .sl 0 [] .nl]⟩ := by kernel_rfl
theorem ty35 : tyi Tryz.prog 35 = some ⟨11, 160, .st [(3, 0, 1), (9, 1, 1), (9, 2, 1), (9, 3, 1), (9, 4, 1), (9, 5, 1), (4, 6, 1), (3, 7, 1), (3, 8, 1), (23, 9, 1), (33, 10, 1)], some [.int .i64 0, .str [], .str [], .str [], .str [], .str [], .bool false, .int .i64 0, .int .i64 0, .sl 0 [] .nl, .sl 0 [] .nl]⟩ := by kernel_rfl
theorem ty36 : tyi Tryz.prog 36 = some ⟨1, 24, .sl 62, some [.sl 0 [] .nl]⟩ := by kernel_rfl
theorem ty37 : tyi Tryz.prog 37 = some ⟨26, 376, .st [(32, 0, 13), (35, 13, 11), (36, 24, 1), (3, 25, 1)], some [.int .i64 0, .int .i64 0, .str [], .str [], .str [], .str [], .bool false, .sl 0 [] .nl, .str [], .str [], .int .i64 0, .int .i64 0, .sl 0 [] .nl, .int .i64 0, .str [], .str [], .str [], .str [], .str [], .bool false, .int .i64 0, .int .i64 0, .sl 0 [] .nl, .sl 0 [] .nl, .sl 0 [] .nl, .int .i64 0]⟩ := by kernel_rfl
theorem ty38 : tyi Tryz.prog 38 = some ⟨26, 376, .st [(32, 0, 13), (35, 13, 11), (36, 24, 1), (3, 25, 1)], some [.int .i64 0, .int .i64 0, .str [], .str [], .str [], .str [], .bool false, .sl 0 [] .nl, .str [], .str [], .int .i64 0, .int .i64 0, .sl 0 [] .nl, .int .i64 0, .str [], .str [], .str [], .str [], .str [], .bool false, .int .i64 0, .int .i64 0, .sl 0 [] .nl, .sl 0 [] .nl, .sl 0 [] .nl, .int .i64 0]⟩ := by kernel_rfl
theorem ty39 : tyi Tryz.prog 39 = some ⟨1, 8, .int .i64, some [.int .i64 0]⟩ := by kernel_rfl
theorem ty40 : tyi Tryz.prog 40 = some ⟨1, 0, .other, none⟩ := by kernel_rfl
theorem ty41 : tyi Tryz.prog 41 = some ⟨1, 8, .fn, some [.nilfn]⟩ := by kernel_rfl
theorem ty42 : tyi Tryz.prog 42 = some ⟨1, 8, .fn, some [.nilfn]⟩ := by kernel_rfl
theorem ty43 : tyi Tryz.prog 43 = some ⟨1, 8, .fn, some [.nilfn]⟩ := by kernel_rfl
theorem ty44 : tyi Tryz.prog 44 = some ⟨1, 8, .fn, some [.nilfn]⟩ := by kernel_rfl
theorem ty45 : tyi Tryz.prog 45 = some ⟨1, 8, .fn, some [.nilfn]⟩ := by kernel_rfl
theorem ty46 : tyi Tryz.prog 46 = some ⟨1, 8, .fn, some [.nilfn]⟩ := by kernel_rfl
theorem ty47 : tyi Tryz.prog 47 = some ⟨1, 8, .fn, some [.nilfn]⟩ := by kernel_rfl
theorem ty48 : tyi Tryz.prog 48 = some ⟨1, 8, .fn, some [.nilfn]⟩ := by kernel_rfl
theorem ty49 : tyi Tryz.prog 49 = some ⟨1, 8, .fn, some [.nilfn]⟩ := by kernel_rfl
theorem ty50 : tyi Tryz.prog 50 = some ⟨1, 24, .sl 5, some [.sl 0 [] .nl]⟩ := by kernel_rfl
theorem ty51 : tyi Tryz.prog 51 = some ⟨1, 8, .fn, some [.nilfn]⟩ := by kernel_rfl
theorem ty52 : tyi Tryz.prog 52 = some ⟨1, 8, .fn, some [.nilfn]⟩ := by kernel_rfl
theorem ty53 : tyi Tryz.prog 53 = some ⟨1, 8, .fn, some [.nilfn]⟩ := by kernel_rfl
theorem ty54 : tyi Tryz.prog 54 = some ⟨1, 8, .fn, some [.nilfn]⟩ := by kernel_rfl
theorem ty55 : tyi Tryz.prog 55 = some ⟨1, 8, .fn, some [.nilfn]⟩ := by kernel_rfl
theorem ty56 : tyi Tryz.prog 56 = some ⟨1, 8, .fn, some [.nilfn]⟩ := by kernel_rfl
theorem ty57 : tyi Tryz.prog 57 = some ⟨1, 0, .other, none⟩ := by kernel_rfl
theorem ty58 : tyi Tryz.prog 58 = some ⟨1, 8, .fn, some [.nilfn]⟩ := by kernel_rfl
theorem ty59 : tyi Tryz.prog 59 = some ⟨1, 8, .fn, some [.nilfn]⟩ := by kernel_rfl
theorem ty60 : tyi Tryz.prog 60 = some ⟨1, 8, .ptr, some [.nilptr]⟩ := by kernel_rfl
theorem ty61 : tyi Tryz.prog 61 = some ⟨3, 32, .st [(3, 0, 1), (4, 1, 1), (9, 2, 1)], some [.int .i64 0, .bool false, .str []]⟩ := by kernel_rfl
theorem ty62 : tyi Tryz.prog 62 = some ⟨3, 32, .st [(3, 0, 1), (4, 1, 1), (9, 2, 1)], some [.int .i64 0, .bool false, .str []]⟩ := by kernel_rfl
theorem ty63 : tyi Tryz.prog 63 = some ⟨1, 8, .fn, some [.nilfn]⟩ := by kernel_rfl
theorem ty64 : tyi Tryz.prog 64 = some ⟨1, 24, .sl 131, some [.sl 0 [] .nl]⟩ := by kernel_rfl
theorem ty65 : tyi Tryz.prog 65 = some ⟨1, 8, .fn, some [.nilfn]⟩ := by kernel_rfl
theorem ty66 : tyi Tryz.prog 66 = some ⟨1, 24, .sl 64, some [.sl 0 [] .nl]⟩ := by kernel_rfl
theorem ty67 : tyi Tryz.prog 67 = some ⟨1, 8, .fn, some [.nilfn]⟩ := by kernel_rfl
theorem ty68 : tyi Tryz.prog 68 = some ⟨2, 32, .st [(22, 0, 1), (3, 1, 1)], some [.sl 0 [] .nl, .int .i64 0]⟩ := by kernel_rfl
theorem ty69 : tyi Tryz.prog 69 = some ⟨2, 32, .st [(22, 0, 1), (3, 1, 1)], some [.sl 0 [] .nl, .int .i64 0]⟩ := by kernel_rfl
theorem ty70 : tyi Tryz.prog 70 = some ⟨2, 16, .st [(3, 0, 1), (39, 1, 1)], some [.int .i64 0, .int .i64 0]⟩ := by kernel_rfl
theorem ty71 : tyi Tryz.prog 71 = some ⟨2, 16, .st [(3, 0, 1), (39, 1, 1)], some [.int .i64 0, .int .i64 0]⟩ := by kernel_rfl
theorem ty72 : tyi Tryz.prog 72 = some ⟨1, 0, .other, none⟩ := by kernel_rfl
theorem ty73 : tyi Tryz.prog 73 = some ⟨1, 8, .ptr, some [.nilptr]⟩ := by kernel_rfl
theorem ty74 : tyi Tryz.prog 74 = some ⟨3, 32, .st [(3, 0, 1), (9, 1, 1), (3, 2, 1)], some [.int .i64 0, .str [], .int .i64 0]⟩ := by kernel_rfl
theorem ty75 : tyi Tryz.prog 75 = some ⟨3, 32, .st [(3, 0, 1), (9, 1, 1), (3, 2, 1)], some [.int .i64 0, .str [], .int .i64 0]⟩ := by kernel_rfl
theorem ty76 : tyi Tryz.prog 76 = some ⟨5, 56, .st [(9, 0, 1), (3, 1, 1), (75, 2, 3)], some [.str [], .int .i64 0, .int .i64 0, .str [], .int .i64 0]⟩ := by kernel_rfl
theorem ty77 : tyi Tryz.prog 77 = some ⟨5, 56, .st [(9, 0, 1), (3, 1, 1), (75, 2, 3)], some [.str [], .int .i64 0, .int .i64 0, .str [], .int .i64 0]⟩ := by kernel_rfl
theorem ty78 : tyi Tryz.prog 78 = some ⟨1, 8, .fn, some [.nilfn]⟩ := by kernel_rfl
theorem ty79 : tyi Tryz.prog 79 = some ⟨1, 8, .ptr, some [.nilptr]⟩ := by kernel_rfl
theorem ty80 : tyi Tryz.prog 80 = some ⟨1, 24, .sl 92, some [.sl 0 [] .nl]⟩ := by kernel_rfl
theorem ty81 : tyi Tryz.prog 81 = some ⟨1, 8, .fn, some [.nilfn]⟩ := by kernel_rfl
theorem ty82 : tyi Tryz.prog 82 = some ⟨5, 56, .st [(80, 0, 1), (3, 1, 1), (3, 2, 1), (39, 3, 1), (3, 4, 1)], some [.sl 0 [] .nl, .int .i64 0, .int .i64 0, .int .i64 0, .int .i64 0]⟩ := by kernel_rfl
theorem ty83 : tyi Tryz.prog 83 = some ⟨5, 56, .st [(80, 0, 1), (3, 1, 1), (3, 2, 1), (39, 3, 1), (3, 4, 1)], some [.sl 0 [] .nl, .int .i64 0, .int .i64 0, .int .i64 0, .int .i64 0]⟩ := by kernel_rfl
theorem ty84 : tyi Tryz.prog 84 = some ⟨1, 8, .fn, some [.nilfn]⟩ := by kernel_rfl
theorem ty85 : tyi Tryz.prog 85 = some ⟨1, 8, .fn, some [.nilfn]⟩ := by kernel_rfl
theorem ty86 : tyi Tryz.prog 86 = some ⟨1, 8, .fn, some [.nilfn]⟩ := by kernel_rfl
theorem ty87 : tyi Tryz.prog 87 = some ⟨1, 8, .fn, some [.nilfn]⟩ := by kernel_rfl
theorem ty88 : tyi Tryz.prog 88 = some ⟨1, 8, .fn, some [.nilfn]⟩ := by kernel_rfl
theorem ty89 : tyi Tryz.prog 89 = some ⟨1, 8, .fn, some [.nilfn]⟩ := by kernel_rfl
theorem ty90 : tyi Tryz.prog 90 = some ⟨1, 8, .fn, some [.nilfn]⟩ := by kernel_rfl
theorem ty91 : tyi Tryz.prog 91 = some ⟨3, 32, .st [(5, 0, 1), (9, 1, 1), (3, 2, 1)], some [.int .u8 0, .str [], .int .i64 0]⟩ := by kernel_rfl
theorem ty92 : tyi Tryz.prog 92 = some ⟨3, 32, .st [(5, 0, 1), (9, 1, 1), (3, 2, 1)], some [.int .u8 0, .str [], .int .i64 0]⟩ := by kernel_rfl
theorem ty93 : tyi Tryz.prog 93 = some ⟨1, 8, .fn, some [.nilfn]⟩ := by kernel_rfl
theorem ty94 : tyi Tryz.prog 94 = some ⟨1, 8, .fn, some [.nilfn]⟩ := by kernel_rfl
theorem ty95 : tyi Tryz.prog 95 = some ⟨1, 8, .fn, some [.nilfn]⟩ := by kernel_rfl
theorem ty96 : tyi Tryz.prog 96 = some ⟨1, 8, .fn, some [.nilfn]⟩ := by kernel_rfl
theorem ty97 : tyi Tryz.prog 97 = some ⟨1, 8, .fn, some [.nilfn]⟩ := by kernel_rfl
theorem ty98 : tyi Tryz.prog 98 = some ⟨1, 8, .fn, some [.nilfn]⟩ := by kernel_rfl
theorem ty99 : tyi Tryz.prog 99 = some ⟨1, 8, .fn, some [.nilfn]⟩ := by kernel_rfl
theorem ty100 : tyi Tryz.prog 100 = some ⟨1, 8, .fn, some [.nilfn]⟩ := by kernel_rfl
theorem ty101 : tyi Tryz.prog 101 = some ⟨1, 8, .fn, some [.nilfn]⟩ := by kernel_rfl
theorem ty102 : tyi Tryz.prog 102 = some ⟨1, 8, .fn, some [.nilfn]⟩ := by kernel_rfl
theorem ty103 : tyi Tryz.prog 103 = some ⟨1, 8, .fn, some [.nilfn]⟩ := by kernel_rfl
theorem ty104 : tyi Tryz.prog 104 = some ⟨1, 8, .fn, some [.nilfn]⟩ := by kernel_rfl
theorem ty105 : tyi Tryz.prog 105 = some ⟨1, 8, .fn, some [.nilfn]⟩ := by kernel_rfl
theorem ty106 : tyi Tryz.prog 106 = some ⟨1, 8, .fn, some [.nilfn]⟩ := by kernel_rfl
theorem ty107 : tyi Tryz.prog 107 = some ⟨1, 8, .fn, some [.nilfn]⟩ := by kernel_rfl
theorem ty108 : tyi Tryz.prog 108 = some ⟨1, 8, .fn, some [.nilfn]⟩ := by kernel_rfl
theorem ty109 : tyi Tryz.prog 109 = some ⟨1, 8, .ptr, some [.nilptr]⟩ := by kernel_rfl
theorem ty110 : tyi Tryz.prog 110 = some ⟨1, 8, .ptr, some [.nilptr]⟩ := by kernel_rfl
theorem ty111 : tyi Tryz.prog 111 = some ⟨2, 32, .st [(110, 0, 1), (50, 1, 1)], some [.nilptr, .sl 0 [] .nl]⟩ := by kernel_rfl
theorem ty112 : tyi Tryz.prog 112 = some ⟨2, 32, .st [(110, 0, 1), (50, 1, 1)], some [.nilptr, .sl 0 [] .nl]⟩ := by kernel_rfl
theorem ty113 : tyi Tryz.prog 113 = some ⟨2, 32, .st [(112, 0, 2)], some [.nilptr, .sl 0 [] .nl]⟩ := by kernel_rfl
theorem ty114 : tyi Tryz.prog 114 = some ⟨2, 32, .st [(112, 0, 2)], some [.nilptr, .sl 0 [] .nl]⟩ := by kernel_rfl
theorem ty115 : tyi Tryz.prog 115 = some ⟨1, 8, .fn, some [.nilfn]⟩ := by kernel_rfl
theorem ty116 : tyi Tryz.prog 116 = some ⟨1, 16, .ifc, some [.niliface]⟩ := by kernel_rfl
theorem ty117 : tyi Tryz.prog 117 = some ⟨1, 16, .ifc, some [.niliface]⟩ := by kernel_rfl
theorem ty118 : tyi Tryz.prog 118 = some ⟨1, 0, .other, none⟩ := by kernel_rfl
theorem ty119 : tyi Tryz.prog 119 = some ⟨1, 8, .fn, some [.nilfn]⟩ := by kernel_rfl
def tab : Nat → Option TI
  | 0 => some ⟨1, 0, .other, none⟩
  | 1 => some ⟨1, 8, .fn, some [.nilfn]⟩
  | 2 => some ⟨1, 8, .int .i64, some [.int .i64 0]⟩
  | 3 => some ⟨1, 8, .int .i64, some [.int .i64 0]⟩
  | 4 => some ⟨1, 1, .bool, some [.bool false]⟩
  | 5 => some ⟨1, 1, .int .u8, some [.int .u8 0]⟩
  | 6 => some ⟨1, 1, .int .u8, some [.int .u8 0]⟩
  | 7 => some ⟨4, 24, .st [(2, 0, 1), (3, 1, 1), (4, 2, 1), (6, 3, 1)], some [.int .i64 0, .int .i64 0, .bool false, .int .u8 0]⟩
  | 8 => some ⟨4, 24, .st [(2, 0, 1), (3, 1, 1), (4, 2, 1), (6, 3, 1)], some [.int .i64 0, .int .i64 0, .bool false, .int .u8 0]⟩
  | 9 => some ⟨1, 16, .str, some [.str []]⟩
  | 10 => some ⟨1, 16, .str, some [.str []]⟩
  | 11 => some ⟨1, 16, .str, some [.str []]⟩
  | 12 => some ⟨1, 8, .int .u64, some [.int .u64 0]⟩
  | 13 => some ⟨2, 24, .st [(9, 0, 1), (12, 1, 1)], some [.str [], .int .u64 0]⟩
  | 14 => some ⟨2, 24, .st [(9, 0, 1), (12, 1, 1)], some [.str [], .int .u64 0]⟩
  | 15 => some ⟨1, 8, .ptr, some [.nilptr]⟩
  | 16 => some ⟨1, 8, .ptr, some [.nilptr]⟩
  | 17 => some ⟨1, 8, .ptr, some [.nilptr]⟩
  | 18 => some ⟨1, 8, .st [(17, 0, 1)], some [.nilptr]⟩
  | 19 => some ⟨1, 8, .st [(17, 0, 1)], some [.nilptr]⟩
  | 20 => some ⟨1, 16, .ifc, some [.niliface]⟩
  | 21 => some ⟨1, 4, .int .i32, some [.int .i32 0]⟩
  | 22 => some ⟨1, 24, .sl 3, some [.sl 0 [] .nl]⟩
  | 23 => some ⟨1, 24, .sl 9, some [.sl 0 [] .nl]⟩
  | 24 => some ⟨1, 8, .ptr, some [.nilptr]⟩
  | 25 => some ⟨1, 8, .fn, some [.nilfn]⟩
  | 26 => some ⟨1, 8, .fn, some [.nilfn]⟩
  | 27 => some ⟨1, 24, .sl 29, some [.sl 0 [] .nl]⟩
  | 28 => some ⟨7, 104, .st [(3, 0, 1), (9, 1, 1), (9, 2, 1), (9, 3, 1), (9, 4, 1), (4, 5, 1), (27, 6, 1)], some [.int .i64 0, .str [], .str [], .str [], .str [], .bool false, .sl 0 [] .nl]⟩
  | 29 => some ⟨7, 104, .st [(3, 0, 1), (9, 1, 1), (9, 2, 1), (9, 3, 1), (9, 4, 1), (4, 5, 1), (27, 6, 1)], some [.int .i64 0, .str [], .str [], .str [], .str [], .bool false, .sl 0 [] .nl]⟩
  | 30 => some ⟨1, 24, .sl 32, some [.sl 0 [] .nl]⟩
  | 31 => some ⟨13, 184, .st [(3, 0, 1), (29, 1, 7), (9, 8, 1), (9, 9, 1), (3, 10, 1), (3, 11, 1), (30, 12, 1)], some [.int .i64 0, .int .i64 0, .str [], .str [], .str [], .str [], .bool false, .sl 0 [] .nl, .str [], .str [], .int .i64 0, .int .i64 0, .sl 0 [] .nl]⟩
  | 32 => some ⟨13, 184, .st [(3, 0, 1), (29, 1, 7), (9, 8, 1), (9, 9, 1), (3, 10, 1), (3, 11, 1), (30, 12, 1)], some [.int .i64 0, .int .i64 0, .str [], .str [], .str [], .str [], .bool false, .sl 0 [] .nl, .str [], .str [], .int .i64 0, .int .i64 0, .sl 0 [] .nl]⟩
  | 33 => some ⟨1, 24, .sl 35, some [.sl 0 [] .nl]⟩
  | 34 => some ⟨11, 160, .st [(3, 0, 1), (9, 1, 1), (9, 2, 1), (9, 3, 1), (9, 4, 1), (9, 5, 1), (4, 6, 1), (3, 7, 1), (3, 8, 1), (23, 9, 1), (33, 10, 1)], some [.int .i64 0, .str [], .str [], .str [], .str [], .str [], .bool false, .int .i64 0, .int .i64 0, .sl 0 [] .nl, .sl 0 [] .nl]⟩
  | 35 => some ⟨11, 160, .st [(3, 0, 1), (9, 1, 1), (9, 2, 1), (9, 3, 1), (9, 4, 1), (9, 5, 1), (4, 6, 1), (3, 7, 1), (3, 8, 1), (23, 9, 1), (33, 10, 1)], some [.int .i64 0, .str [], .str [], .str [], .str [], .str [], .bool false, .int .i64 0, .int .i64 0, .sl 0 [] .nl, .sl 0 [] .nl]⟩
  | 36 => some ⟨1, 24, .sl 62, some [.sl 0 [] .nl]⟩
  | 37 => some ⟨26, 376, .st [(32, 0, 13), (35, 13, 11), (36, 24, 1), (3, 25, 1)], some [.int .i64 0, .int .i64 0, .str [], .str [], .str [], .str [], .bool false, .sl 0 [] .nl, .str [], .str [], .int .i64 0, .int .i64 0, .sl 0 [] .nl, .int .i64 0, .str [], .str [], .str [], .str [], .str [], .bool false, .int .i64 0, .int .i64 0, .sl 0 [] .nl, .sl 0 [] .nl, .sl 0 [] .nl, .int .i64 0]⟩
  | 38 => some ⟨26, 376, .st [(32, 0, 13), (35, 13, 11), (36, 24, 1), (3, 25, 1)], some [.int .i64 0, .int .i64 0, .str [], .str [], .str [], .str [], .bool false, .sl 0 [] .nl, .str [], .str [], .int .i64 0, .int .i64 0, .sl 0 [] .nl, .int .i64 0, .str [], .str [], .str [], .str [], .str [], .bool false, .int .i64 0, .int .i64 0, .sl 0 [] .nl, .sl 0 [] .nl, .sl 0 [] .nl, .int .i64 0]⟩
  | 39 => some ⟨1, 8, .int .i64, some [.int .i64 0]⟩
  | 40 => some ⟨1, 0, .other, none⟩
  | 41 => some ⟨1, 8, .fn, some [.nilfn]⟩
  | 42 => some ⟨1, 8, .fn, some [.nilfn]⟩
  | 43 => some ⟨1, 8, .fn, some [.nilfn]⟩
  | 44 => some ⟨1, 8, .fn, some [.nilfn]⟩
  | 45 => some ⟨1, 8, .fn, some [.nilfn]⟩
  | 46 => some ⟨1, 8, .fn, some [.nilfn]⟩
  | 47 => some ⟨1, 8, .fn, some [.nilfn]⟩
  | 48 => some ⟨1, 8, .fn, some [.nilfn]⟩
  | 49 => some ⟨1, 8, .fn, some [.nilfn]⟩
  | 50 => some ⟨1, 24, .sl 5, some [.sl 0 [] .nl]⟩
  | 51 => some ⟨1, 8, .fn, some [.nilfn]⟩
  | 52 => some ⟨1, 8, .fn, some [.nilfn]⟩
  | 53 => some ⟨1, 8, .fn, some [.nilfn]⟩
  | 54 => some ⟨1, 8, .fn, some [.nilfn]⟩
  | 55 => some ⟨1, 8, .fn, some [.nilfn]⟩
  | 56 => some ⟨1, 8, .fn, some [.nilfn]⟩
  | 57 => some ⟨1, 0, .other, none⟩
  | 58 => some ⟨1, 8, .fn, some [.nilfn]⟩
  | 59 => some ⟨1, 8, .fn, some [.nilfn]⟩
  | 60 => some ⟨1, 8, .ptr, some [.nilptr]⟩
  | 61 => some ⟨3, 32, .st [(3, 0, 1), (4, 1, 1), (9, 2, 1)], some [.int .i64 0, .bool false, .str []]⟩
  | 62 => some ⟨3, 32, .st [(3, 0, 1), (4, 1, 1), (9, 2, 1)], some [.int .i64 0, .bool false, .str []]⟩
  | 63 => some ⟨1, 8, .fn, some [.nilfn]⟩
  | 64 => some ⟨1, 24, .sl 131, some [.sl 0 [] .nl]⟩
  | 65 => some ⟨1, 8, .fn, some [.nilfn]⟩
  | 66 => some ⟨1, 24, .sl 64, some [.sl 0 [] .nl]⟩
  | 67 => some ⟨1, 8, .fn, some [.nilfn]⟩
  | 68 => some ⟨2, 32, .st [(22, 0, 1), (3, 1, 1)], some [.sl 0 [] .nl, .int .i64 0]⟩
  | 69 => some ⟨2, 32, .st [(22, 0, 1), (3, 1, 1)], some [.sl 0 [] .nl, .int .i64 0]⟩
  | 70 => some ⟨2, 16, .st [(3, 0, 1), (39, 1, 1)], some [.int .i64 0, .int .i64 0]⟩
  | 71 => some ⟨2, 16, .st [(3, 0, 1), (39, 1, 1)], some [.int .i64 0, .int .i64 0]⟩
  | 72 => some ⟨1, 0, .other, none⟩
  | 73 => some ⟨1, 8, .ptr, some [.nilptr]⟩
  | 74 => some ⟨3, 32, .st [(3, 0, 1), (9, 1, 1), (3, 2, 1)], some [.int .i64 0, .str [], .int .i64 0]⟩
  | 75 => some ⟨3, 32, .st [(3, 0, 1), (9, 1, 1), (3, 2, 1)], some [.int .i64 0, .str [], .int .i64 0]⟩
  | 76 => some ⟨5, 56, .st [(9, 0, 1), (3, 1, 1), (75, 2, 3)], some [.str [], .int .i64 0, .int .i64 0, .str [], .int .i64 0]⟩
  | 77 => some ⟨5, 56, .st [(9, 0, 1), (3, 1, 1), (75, 2, 3)], some [.str [], .int .i64 0, .int .i64 0, .str [], .int .i64 0]⟩
  | 78 => some ⟨1, 8, .fn, some [.nilfn]⟩
  | 79 => some ⟨1, 8, .ptr, some [.nilptr]⟩
  | 80 => some ⟨1, 24, .sl 92, some [.sl 0 [] .nl]⟩
  | 81 => some ⟨1, 8, .fn, some [.nilfn]⟩
  | 82 => some ⟨5, 56, .st [(80, 0, 1), (3, 1, 1), (3, 2, 1), (39, 3, 1), (3, 4, 1)], some [.sl 0 [] .nl, .int .i64 0, .int .i64 0, .int .i64 0, .int .i64 0]⟩
  | 83 => some ⟨5, 56, .st [(80, 0, 1), (3, 1, 1), (3, 2, 1), (39, 3, 1), (3, 4, 1)], some [.sl 0 [] .nl, .int .i64 0, .int .i64 0, .int .i64 0, .int .i64 0]⟩
  | 84 => some ⟨1, 8, .fn, some [.nilfn]⟩
  | 85 => some ⟨1, 8, .fn, some [.nilfn]⟩
  | 86 => some ⟨1, 8, .fn, some [.nilfn]⟩
  | 87 => some ⟨1, 8, .fn, some [.nilfn]⟩
  | 88 => some ⟨1, 8, .fn, some [.nilfn]⟩
  | 89 => some ⟨1, 8, .fn, some [.nilfn]⟩
  | 90 => some ⟨1, 8, .fn, some [.nilfn]⟩
  | 91 => some ⟨3, 32, .st [(5, 0, 1), (9, 1, 1), (3, 2, 1)], some [.int .u8 0, .str [], .int .i64 0]⟩
  | 92 => some ⟨3, 32, .st [(5, 0, 1), (9, 1, 1), (3, 2, 1)], some [.int .u8 0, .str [], .int .i64 0]⟩
  | 93 => some ⟨1, 8, .fn, some [.nilfn]⟩
  | 94 => some ⟨1, 8, .fn, some [.nilfn]⟩
  | 95 => some ⟨1, 8, .fn, some [.nilfn]⟩
  | 96 => some ⟨1, 8, .fn, some [.nilfn]⟩
  | 97 => some ⟨1, 8, .fn, some [.nilfn]⟩
  | 98 => some ⟨1, 8, .fn, some [.nilfn]⟩
  | 99 => some ⟨1, 8, .fn, some [.nilfn]⟩
  | 100 => some ⟨1, 8, .fn, some [.nilfn]⟩
  | 101 => some ⟨1, 8, .fn, some [.nilfn]⟩
  | 102 => some ⟨1, 8, .fn, some [.nilfn]⟩
  | 103 => some ⟨1, 8, .fn, some [.nilfn]⟩
  | 104 => some ⟨1, 8, .fn, some [.nilfn]⟩
  | 105 => some ⟨1, 8, .fn, some [.nilfn]⟩
  | 106 => some ⟨1, 8, .fn, some [.nilfn]⟩
  | 107 => some ⟨1, 8, .fn, some [.nilfn]⟩
  | 108 => some ⟨1, 8, .fn, some [.nilfn]⟩
  | 109 => some ⟨1, 8, .ptr, some [.nilptr]⟩
  | 110 => some ⟨1, 8, .ptr, some [.nilptr]⟩
  | 111 => some ⟨2, 32, .st [(110, 0, 1), (50, 1, 1)], some [.nilptr, .sl 0 [] .nl]⟩
  | 112 => some ⟨2, 32, .st [(110, 0, 1), (50, 1, 1)], some [.nilptr, .sl 0 [] .nl]⟩
  | 113 => some ⟨2, 32, .st [(112, 0, 2)], some [.nilptr, .sl 0 [] .nl]⟩
  | 114 => some ⟨2, 32, .st [(112, 0, 2)], some [.nilptr, .sl 0 [] .nl]⟩
  | 115 => some ⟨1, 8, .fn, some [.nilfn]⟩
  | 116 => some ⟨1, 16, .ifc, some [.niliface]⟩
  | 117 => some ⟨1, 16, .ifc, some [.niliface]⟩
  | 118 => some ⟨1, 0, .other, none⟩
  | 119 => some ⟨1, 8, .fn, some [.nilfn]⟩
  | _ => none
theorem tt {T : Nat} {i : TI} (h : tab T = some i) : tyi Tryz.prog T = some i := by
  unfold tab at h
  split at h
  · rw [← h]; exact ty0
  · rw [← h]; exact ty1
  · rw [← h]; exact ty2
  · rw [← h]; exact ty3
  · rw [← h]; exact ty4
  · rw [← h]; exact ty5
  · rw [← h]; exact ty6
  · rw [← h]; exact ty7
  · rw [← h]; exact ty8
  · rw [← h]; exact ty9
  · rw [← h]; exact ty10
  · rw [← h]; exact ty11
  · rw [← h]; exact ty12
  · rw [← h]; exact ty13
  · rw [← h]; exact ty14
  · rw [← h]; exact ty15
  · rw [← h]; exact ty16
  · rw [← h]; exact ty17
  · rw [← h]; exact ty18
  · rw [← h]; exact ty19
  · rw [← h]; exact ty20
  · rw [← h]; exact ty21
  · rw [← h]; exact ty22
  · rw [← h]; exact ty23
  · rw [← h]; exact ty24
  · rw [← h]; exact ty25
  · rw [← h]; exact ty26
  · rw [← h]; exact ty27
  · rw [← h]; exact ty28
  · rw [← h]; exact ty29
  · rw [← h]; exact ty30
  · rw [← h]; exact ty31
  · rw [← h]; exact ty32
  · rw [← h]; exact ty33
  · rw [← h]; exact ty34
  · rw [← h]; exact ty35
  · rw [← h]; exact ty36
  · rw [← h]; exact ty37
  · rw [← h]; exact ty38
  · rw [← h]; exact ty39
  · rw [← h]; exact ty40
  · rw [← h]; exact ty41
  · rw [← h]; exact ty42
  · rw [← h]; exact ty43
  · rw [← h]; exact ty44
  · rw [← h]; exact ty45
  · rw [← h]; exact ty46
  · rw [← h]; exact ty47
  · rw [← h]; exact ty48
  · rw [← h]; exact ty49
  · rw [← h]; exact ty50
  · rw [← h]; exact ty51
  · rw [← h]; exact ty52
  · rw [← h]; exact ty53
  · rw [← h]; exact ty54
  · rw [← h]; exact ty55
  · rw [← h]; exact ty56
  · rw [← h]; exact ty57
  · rw [← h]; exact ty58
  · rw [← h]; exact ty59
  · rw [← h]; exact ty60
  · rw [← h]; exact ty61
  · rw [← h]; exact ty62
  · rw [← h]; exact ty63
  · rw [← h]; exact ty64
  · rw [← h]; exact ty65
  · rw [← h]; exact ty66
  · rw [← h]; exact ty67
  · rw [← h]; exact ty68
  · rw [← h]; exact ty69
  · rw [← h]; exact ty70
  · rw [← h]; exact ty71
  · rw [← h]; exact ty72
  · rw [← h]; exact ty73
  · rw [← h]; exact ty74
  · rw [← h]; exact ty75
  · rw [← h]; exact ty76
  · rw [← h]; exact ty77
  · rw [← h]; exact ty78
  · rw [← h]; exact ty79
  · rw [← h]; exact ty80
  · rw [← h]; exact ty81
  · rw [← h]; exact ty82
  · rw [← h]; exact ty83
  · rw [← h]; exact ty84
  · rw [← h]; exact ty85
  · rw [← h]; exact ty86
  · rw [← h]; exact ty87
  · rw [← h]; exact ty88
  · rw [← h]; exact ty89
  · rw [← h]; exact ty90
  · rw [← h]; exact ty91
  · rw [← h]; exact ty92
  · rw [← h]; exact ty93
  · rw [← h]; exact ty94
  · rw [← h]; exact ty95
  · rw [← h]; exact ty96
  · rw [← h]; exact ty97
  · rw [← h]; exact ty98
  · rw [← h]; exact ty99
  · rw [← h]; exact ty100
  · rw [← h]; exact ty101
  · rw [← h]; exact ty102
  · rw [← h]; exact ty103
  · rw [← h]; exact ty104
  · rw [← h]; exact ty105
  · rw [← h]; exact ty106
  · rw [← h]; exact ty107
  · rw [← h]; exact ty108
  · rw [← h]; exact ty109
  · rw [← h]; exact ty110
  · rw [← h]; exact ty111
  · rw [← h]; exact ty112
  · rw [← h]; exact ty113
  · rw [← h]; exact ty114
  · rw [← h]; exact ty115
  · rw [← h]; exact ty116
  · rw [← h]; exact ty117
  · rw [← h]; exact ty118
  · rw [← h]; exact ty119
  · cases h
end Go.Proofs

/- Short words for the codes of functions. No conditions. -/
namespace Go.Abs.I
open Go.Abs
abbrev L := List (AOp × List AOp)
abbrev o (d : Nat) (x : Op) : AOp × List AOp := (⟨some d, x, none⟩, [])
abbrev q (x : Op) : AOp × List AOp := (⟨none, x, none⟩, [])
abbrev y (d : Nat) (x : Op) (j : Nat) (b : Bool) : AOp × List AOp := (⟨some d, x, some (j, b)⟩, [])
abbrev c (d : Nat) (x : Op) : AOp := ⟨some d, x, none⟩
abbrev oc (d : Nat) (x : Op) (l : List AOp) : AOp × List AOp := (⟨some d, x, none⟩, l)
abbrev qc (x : Op) (l : List AOp) : AOp × List AOp := (⟨none, x, none⟩, l)
abbrev t (n : Nat) : Operand := .tmp n
abbrev k (n : Int) : Operand := .const (.int .i64 n)
abbrev s (a : Array UInt8) : Operand := .const (.string ⟨a⟩)
abbrev b (x : Bool) : Operand := .const (.bool x)
abbrev f (n : Nat) : Operand := .func n
abbrev m (x : Operand) : Op := .move x
abbrev a (x : Operand) : Op := .assign x
abbrev l (T : TypeId) (x : Operand) : Op := .load T x
abbrev fa (T : TypeId) (x : Operand) (i : Nat) : Op := .fieldAddr T x i
abbrev ln (x : Operand) (T : TypeId) : Op := .call ⟨.builtin .len, #[x], #[T]⟩
/-- Function f is entered by its code. -/
abbrev En (ir : ACode) (n : Nat) (rs : List ResultVar) (f : FuncId) : Prop := ∀ {G : Nat → Option Obj} {args : List AVal} {h : AHeap} {Post : AOut → AHeap → Prop}, args.length ≤ n →
  (h.Wf → awp Go.Proofs.Tryz.prog G ir (Run Go.Proofs.Tryz.prog G (BodyQ Go.Proofs.Tryz.prog rs Post) []) (envFrom 0 args) h) → ACalls Go.Proofs.Tryz.prog G f args h Post
abbrev Ca (k : FuncId) : Prop := Callable Go.Proofs.Tryz.prog k
theorem cal {P : Program} {k : FuncId} {fn : Func} (h : P.funcs[k]? = some fn) (h1 : fn.body.isSome = true := by kernel_rfl) (h2 : (fn.name == "runtime.NumGoroutine") = false := by kernel_rfl) : Callable P k := ⟨fn, h, h1, h2⟩
end Go.Abs.I
