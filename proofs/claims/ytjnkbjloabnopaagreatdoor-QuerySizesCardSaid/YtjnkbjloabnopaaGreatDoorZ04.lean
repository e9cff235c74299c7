/- Calls over abstract values, and every operation that turns managed memory: the machine does as 'aeff' says. Over any program; no conditions. -/
import Derived.Test.YtjnkbjloabnopaaGreatDoorZ03
namespace Go.Abs
open Go.Lib

inductive AOut where
  | ret (v : AVal)
  | panic (v : AVal)

def RepOut (h : AHeap) (w : World) : AOut → Ending → Prop
  | .ret x, e => ∃ v, e = .returned v ∧ Rep h w x v
  | .panic x, e => ∃ v, e = .panicked [{ v, recovered := false }] ∧ Rep h w x v

/-- What a call does, said of abstract values. -/
def ACalls (P : Program) (G : Nat → Option Obj) (f : FuncId) (args : List AVal) (h : AHeap) (Post : AOut → AHeap → Prop) : Prop :=
  ∀ (w : World) (vs : List Value), Rel G h w → Reps h w args vs →
    Calls P f vs.toArray w fun e w' => ∃ out h', Post out h' ∧ Rel G h' w' ∧ Step h w h' w' ∧ RepOut h' w' out e

theorem ACalls.mono {P : Program} {G : Nat → Option Obj} {f : FuncId} {args : List AVal} {h : AHeap} {Post Post' : AOut → AHeap → Prop} (hc : ACalls P G f args h Post) (hp : ∀ out h', Post out h' → Post' out h') : ACalls P G f args h Post' :=
  fun w vs hr ha => (hc w vs hr ha).mono fun _ _ ⟨out, h', h1, h2⟩ => ⟨out, h', hp _ _ h1, h2⟩

theorem RepOut.weak {h : AHeap} {w : World} {x y : AVal} {e : Ending} (hr : RepOut h w (.ret x) e) (hw : Weak x y) : RepOut h w (.ret y) e := by
  obtain ⟨v, h1, h2⟩ := hr
  exact ⟨v, h1, h2.weak hw⟩

/-- The arguments may be told with fewer tags. -/
theorem ACalls.args {P : Program} {G : Nat → Option Obj} {f : FuncId} {args args' : List AVal} {h : AHeap} {Post : AOut → AHeap → Prop} (hc : ACalls P G f args' h Post) (hw : WeakL args args') : ACalls P G f args h Post :=
  fun w vs hr ha => hc w vs hr (ha.weak hw)

/-- 'append': the elements of the second operand. -/
def srcElems (sz : Nat) : AVal → Option (List (List AVal))
  | .sl s es _ => if s = sz ∨ es = [] then some es else none
  | .str s => if sz = 1 then some (s.map fun b => [AVal.int .u8 b.toNat]) else none
  | _ => none

def growTo (h : AHeap) (e : TypeId) (n len : Nat) (tg : Tag) (K : Tag → AHeap → Prop) : Prop :=
  match tg with
  | .nl => ∀ g, h.next ≤ g → K (.own g) (h.new g (.row e len))
  | .full => ∀ g, h.next ≤ g → K (.own g) (h.new g (.row e len))
  | .own g0 => match h.get g0 with
    | some (.row e0 l) => e0 = e ∧ l = n ∧ ∀ g, (g = g0 ∨ h.next ≤ g) → K (.own g) (h.move g0 g (.row e len))
    | _ => False
  | .frz => False

def aappend (P : Program) (h : AHeap) (e : TypeId) (s x : AVal) (K : AVal → AHeap → Prop) : Prop :=
  match tyi P e, s with
  | some { size := sz, bytes := bytes, zero := some z, .. }, .sl s0 es tg => (match srcElems sz x with
    | some [] => K (.sl s0 es tg) h
    | some (y :: ys) => (s0 = sz ∨ tg = .nl) ∧ 0 < sz ∧ z.length = sz ∧ (es.length + (y :: ys).length) * bytes ≤ 140737488355328 ∧ es.length + (y :: ys).length ≤ 9223372036854775807 ∧
        growTo h e (es.length * sz) ((es ++ y :: ys).length * sz) tg fun tg' h' => K (.sl sz (es ++ y :: ys) tg') h'
    | none => False)
  | _, _ => False

/-- Function k has a body. -/
def Callable (P : Program) (k : FuncId) : Prop := ∃ fn, P.funcs[k]? = some fn ∧ fn.body.isSome = true ∧ (fn.name == "runtime.NumGoroutine") = false

/-- An operation that turns managed memory, or that calls. -/
def aeff (P : Program) (G : Nat → Option Obj) (h : AHeap) (ρ : Operand → Option AVal) (K : AVal → AHeap → Prop) (Kp : AVal → AHeap → Prop) : Op → Prop
  | .alloc T => match tyi P T with
    | some { zero := some z, .. } => ∀ g, h.next ≤ g → K (.ptr g 0) (h.new g (.box T z))
    | _ => False
  | .box T x => match ρ x with
    | some v => isTuple v = false ∧ ∀ g, h.next ≤ g → K (.ptr g 0) (h.new g (.box T v.cells))
    | none => False
  | .store T a x => match tyi P T, ρ a, ρ x with
    | some i, some (.ptr g off), some v => (match h.get g with
      | some (.box T' cs) => v.cells.length = i.size ∧ off + i.size ≤ cs.length ∧ isTuple v = false ∧ K (.tuple []) (h.set g (.box T' (setCells cs off v.cells)))
      | _ => False)
    | _, _, _ => False
  | .panic x => match ρ x with
    | some (.iface T v) => Kp (.iface T v) h
    | _ => False
  | .call { callee := .value f, args, .. } => match ρ f, avals ρ args.toList with
    | some (.func (.func k) first captured), some l => Callable P k ∧
        ACalls P G k (first ++ l ++ captured) h fun out h' => match out with
          | .ret v => K v h'
          | .panic v => Kp v h'
    | _, _ => False
  | .call { callee := .builtin .append, args, argTypes } => match args.toList, argTypes.toList with
    | [s, x], [t, u] => (match tyi P t, tyi P u, ρ s, ρ x with
      | some { kind := .sl e, .. }, some { kind := .sl e', .. }, some a, some (.sl sz es tg) => e' = e ∧ t = u ∧ aappend P h e a (.sl sz es tg) K
      | some { kind := .sl e, .. }, some { kind := .str, .. }, some a, some (.str b) => aappend P h e a (.str b) K
      | _, _, _, _ => False)
    | _, _ => False
  | _ => False


section
variable {P : Program} {G : Nat → Option Obj} {h : AHeap} {w : World}

theorem src_ok {sz : Nat} {x : AVal} {v : Value} {es : List (List AVal)} (hv : Rep h w x v) (hx : srcElems sz x = some es) (hne : es ≠ []) :
    (∃ (a : Addr) (c : Nat) (vs : List Value), v = .slice (some a) es.length c ∧ RowRep h w sz es vs ∧ ∀ j u, vs[j]? = some u → w.cell? (a.add j) = some u) ∨
    (∃ s : ByteArray, v = .string s ∧ s.size = es.length ∧ sz = 1 ∧ RowRep h w 1 es (strCells s)) := by
  unfold srcElems at hx
  split at hx
  · rename_i s fs tg
    split at hx
    · rename_i hc
      injection hx with hx
      subst hx
      rcases hc with rfl | hc
      · obtain ⟨a, c, vs, rfl, _, h2, h3, _⟩ := hv.row (.inl hne)
        exact .inl ⟨a, c, vs, rfl, h2, h3⟩
      · exact absurd hc hne
    · cases hx
  · rename_i b
    split at hx
    · rename_i h1
      injection hx with hx
      subst hx
      obtain ⟨t, rfl, ht⟩ := hv.str_inv
      have hl : t.size = b.length := by rw [← ht, Array.length_toList]; rfl
      refine .inr ⟨t, rfl, by rw [List.length_map, hl], h1, ⟨by rw [strCells_length, hl]; simp, fun e he => ?_, fun i j e c v hi hj hv => ?_, fun e c he hc => ?_⟩⟩
      · obtain ⟨y, _, rfl⟩ := List.mem_map.1 he; rfl
      · rw [List.getElem?_map] at hi
        obtain ⟨y, hy, rfl⟩ := Option.map_eq_some_iff.1 hi
        have : j = 0 := by have := (List.getElem?_eq_some_iff.1 hj).1; simp at this; exact this
        subst this
        simp at hj
        subst hj
        simp only [Nat.mul_one, Nat.add_zero] at hv
        have hsc : (strCells t)[i]? = some (.int .u8 y.toNat) := by
          rw [show strCells t = t.data.toList.map fun b => Value.int .u8 b.toNat from rfl, List.getElem?_map, ht, hy]; rfl
        rw [hsc] at hv
        injection hv with hv
        subst hv
        exact .int _ _
      · obtain ⟨y, _, rfl⟩ := List.mem_map.1 he
        simp at hc
        subst hc
        rfl
    · cases hx
  · cases hx


/-- Where the elements to append come from. -/
def Src (P : Program) (h : AHeap) (w : World) (sz : Nat) (t u : TypeId) (fs : List (List AVal)) (vx : Value) : Prop :=
  (t = u ∧ ∃ (a : Addr) (c : Nat) (vs : List Value), vx = .slice (some a) fs.length c ∧ RowRep h w sz fs vs ∧ ∀ j u, vs[j]? = some u → w.cell? (a.add j) = some u) ∨
  (P.underlying u = some .string ∧ ∃ s : ByteArray, vx = .string s ∧ s.size = fs.length ∧ sz = 1 ∧ RowRep h w sz fs (strCells s))

theorem Src.step {sz : Nat} {t u : TypeId} {fs : List (List AVal)} {vx : Value} {h' : AHeap} (hs : Step h w h' w) (hx : Src P h w sz t u fs vx) : Src P h' w sz t u fs vx := by
  rcases hx with ⟨h1, a, c, vs, h2, h3, h4⟩ | ⟨h1, s, h2, h3, h4, h5⟩
  · exact .inl ⟨h1, a, c, vs, h2, h3.step hs, h4⟩
  · exact .inr ⟨h1, s, h2, h3, h4, h5.step hs⟩

/-- The arm that grows. -/
theorem grow_run {t u ty e : TypeId} {I : TypeInfo} {zv : Value} {sz cap : Nat} {es fs : List (List AVal)} {A : Option Addr} {olds : List Value} {vx : Value} (hr : Rel G h w) (ht : P.underlying t = some (.slice e)) (hI : P.info? e = some I)
    (hz : I.zero = some zv) (hs : I.size = sz) (hzs : zv.cells.size = sz) (ho : RowRep h w sz es olds) (hx : Src P h w sz t u fs vx) (hold : ∀ b, A = some b → ∀ j u, olds[j]? = some u → w.cell? (b.add j) = some u)
    (hnone : A = none → es = [] ∧ cap = 0) (hf : 0 < fs.length) (hlt : cap < es.length + fs.length) (hby : (es.length + fs.length) * I.bytes ≤ 140737488355328) (h63 : es.length + fs.length ≤ 9223372036854775807) :
    ∃ v w', (Builtin.append_ #[t, u] ty #[.slice A es.length cap, vx]).run P w = .ok v w' ∧ Rel G (h.new w.heap.size (.row e ((es ++ fs).length * sz))) w' ∧ Step h w (h.new w.heap.size (.row e ((es ++ fs).length * sz))) w' ∧
      Rep (h.new w.heap.size (.row e ((es ++ fs).length * sz))) w' (.sl sz (es ++ fs) (.own w.heap.size)) v := by
  have hm1 : (es ++ fs).length = es.length + fs.length := List.length_append
  have hmax : es.length + fs.length ≤ maxLen := by unfold maxLen; omega
  have hge := grownCap_ge w (es.length + fs.length) cap e
  have hgm := grownCap_le_maxLen w (es.length + fs.length) cap e hmax
  have hnew : ∀ (news : List Value), RowRep h w sz fs news → Rel G (h.new w.heap.size (.row e ((es ++ fs).length * sz))) (w.drew.alloc (.cells (olds.toArray ++ news.toArray ++ Builtin.zeroCells zv.cells (grownCap w (es.length + fs.length) cap e - (es.length + fs.length))) e)) ∧
      Step h w (h.new w.heap.size (.row e ((es ++ fs).length * sz))) (w.drew.alloc (.cells (olds.toArray ++ news.toArray ++ Builtin.zeroCells zv.cells (grownCap w (es.length + fs.length) cap e - (es.length + fs.length))) e)) ∧
      Rep (h.new w.heap.size (.row e ((es ++ fs).length * sz))) (w.drew.alloc (.cells (olds.toArray ++ news.toArray ++ Builtin.zeroCells zv.cells (grownCap w (es.length + fs.length) cap e - (es.length + fs.length))) e)) (.sl sz (es ++ fs) (.own w.heap.size))
        (.slice (some ⟨w.heap.size, 0, none⟩) (es.length + fs.length) (grownCap w (es.length + fs.length) cap e)) := by
    intro news hn
    have e1 : olds.toArray ++ news.toArray = (olds ++ news).toArray := by simp
    have := grown_ok hr (ho.append hn) (e := e) (Builtin.zeroCells zv.cells (grownCap w (es.length + fs.length) cap e - (es.length + fs.length))) _ (by rw [hm1]; exact hge) hgm (by
      rw [Array.size_append, zeroCells_size, hzs, List.size_toArray, (ho.append hn).len, ← Nat.add_mul]
      congr 1
      omega)
    rw [e1]
    have e3 : ∀ c, (Value.slice (some ⟨w.heap.size, 0, none⟩) (es.length + fs.length) c) = .slice (some ⟨w.heap.size, 0, none⟩) (es ++ fs).length c := fun c => by rw [hm1]
    rw [e3]
    exact this
  have hnil : es = [] → olds = [] := fun he => List.eq_nil_of_length_eq_zero (by rw [ho.len, he]; simp)
  rcases hx with ⟨rfl, b, c, news, rfl, hn, hcell⟩ | ⟨hus, S, rfl, hSl, hsz1, hn⟩
  · refine ⟨_, _, ?_, hnew news hn⟩
    cases A with
    | none =>
      obtain ⟨rfl, rfl⟩ := hnone rfl
      obtain rfl := hnil rfl
      have hb := hby
      simp only [List.length_nil, Nat.zero_add] at hb
      have := run_append_nil (P := P) w t ty e I zv ht hI hz b fs.length c news (by rw [hs]; exact hn.len) hcell hf (by omega) (by omega)
      simpa using this
    | some b' => exact run_append_grow (P := P) w t ty e I zv ht hI hz b' es.length cap olds (by rw [hs]; exact ho.len) (hold b' rfl) b fs.length c news (by rw [hs]; exact hn.len) hcell hlt (by omega) (growslice_fits hlt hby)
  · refine ⟨_, _, ?_, hnew (strCells S) hn⟩
    cases A with
    | none =>
      obtain ⟨rfl, rfl⟩ := hnone rfl
      obtain rfl := hnil rfl
      have hb := hby
      simp only [List.length_nil, Nat.zero_add] at hb
      have := run_append_nil_string (P := P) w t u ty e I zv ht hus hI hz S (by omega) (by omega) (by rw [hSl]; omega)
      rw [hSl] at this
      have e2 : (strCells S).toArray = S.data.map (fun b => Value.int .u8 b.toNat) := by
        apply Array.toList_inj.1
        simp [strCells]
      simpa [e2] using this
    | some b' =>
      have := run_append_grow_string (P := P) w t u ty e I zv ht hus hI hz b' es.length cap olds (by rw [hs]; exact ho.len) (hold b' rfl) S (by omega) (by omega) (growslice_fits (by omega) (by rw [hSl]; exact hby))
      rw [hSl] at this
      exact this

/-- append, whatever the source. -/
theorem append_ok {t u ty e : TypeId} {it : TI} {a x : AVal} {va vx : Value} {K : AVal → AHeap → Prop} (hr : Rel G h w) (hit : tyi P t = some it) (hk : it.kind = .sl e)
    (hu : (∃ sz es tg, x = .sl sz es tg ∧ t = u) ∨ (∃ b iu, x = .str b ∧ tyi P u = some iu ∧ iu.kind = .str)) (ha : Rep h w a va) (hx : Rep h w x vx) (hK : aappend P h e a x K) :
    ∃ v w' y h', (Builtin.append_ #[t, u] ty #[va, vx]).run P w = .ok v w' ∧ K y h' ∧ Rel G h' w' ∧ Step h w h' w' ∧ Rep h' w' y v := by
  have ht := und_sl hit hk
  unfold aappend at hK
  split at hK
  · rename_i sz bytes knd z s0 es tg hie
    obtain ⟨I, d, hI, hd, hIs, hIb, _, hIz⟩ := tyi_some hie
    obtain ⟨zv, hzv, hzc⟩ := hIz z rfl
    simp only at hIs hIb
    have hzsz := (aconsts_reps (h := h) (w := w) hzc).1.1
    split at hK
    · -- nothing to append
      rename_i hsrc
      obtain ⟨A, C, rfl, hC⟩ := ha.len
      refine ⟨.slice A es.length C, w, _, h, ?_, hK, hr, .refl hr, ha⟩
      rcases hu with ⟨s1, e1, t1, rfl, rfl⟩ | ⟨b, iu, rfl, hiu, hku⟩
      · simp only [srcElems] at hsrc
        split at hsrc
        · injection hsrc with hsrc
          subst hsrc
          obtain ⟨B, D, rfl, _⟩ := hx.len
          cases A <;> cases B <;> simp [Builtin.append_, run_underlying ht, sizeOf, typeInfo, hI, Builtin.lenOf, hC, Builtin.firstCells, loadCells, loadCellsFrom, storeCells]
        · cases hsrc
      · simp only [srcElems] at hsrc
        split at hsrc
        · injection hsrc with hsrc
          obtain rfl : b = [] := by simpa using hsrc
          obtain ⟨S, rfl, hS⟩ := hx.str_inv
          have hS0 : S.size = 0 := by have : S.data.toList.length = 0 := by rw [hS]; rfl
                                      simpa using this
          have hsz : (S.extract 0 0).data = #[] := by
            apply Array.toList_inj.1
            simp
          cases A <;> simp [Builtin.append_, run_underlying ht, run_underlying (und_str hiu hku), sizeOf, typeInfo, hI, Builtin.lenOf, hC, hS0, Builtin.firstCells, storeCells, hsz]
        · cases hsrc
    · rename_i y ys hsrc
      obtain ⟨hs0, hszp, hzl, hby, h63, hgrow⟩ := hK
      have hzvs : zv.cells.size = sz := by rw [← hzl, ← hzsz]; simp
      have hm0 : 0 < (y :: ys).length := by simp
      have hm1 : (es ++ y :: ys).length = es.length + (y :: ys).length := List.length_append
      have hby' : (es.length + (y :: ys).length) * I.bytes ≤ 140737488355328 := by rw [hIb]; exact hby
      have hS : Src P h w sz t u (y :: ys) vx := by
        rcases src_ok hx hsrc (by simp) with ⟨b, c, news, rfl, hn, hcell⟩ | ⟨S, rfl, hSl, hsz1, hn⟩
        · rcases hu with ⟨_, _, _, _, h1⟩ | ⟨b', iu, rfl, _⟩
          · exact .inl ⟨h1, b, c, news, rfl, hn, hcell⟩
          · obtain ⟨S, hS, _⟩ := hx.str_inv; cases hS
        · rcases hu with ⟨_, _, _, rfl, _⟩ | ⟨b', iu, rfl, hiu, hku⟩
          · obtain ⟨A', C', hS, _⟩ := hx.len; cases hS
          · exact .inr ⟨und_str hiu hku, S, rfl, hSl, hsz1, by rw [hsz1]; exact hn⟩
      unfold growTo at hgrow
      split at hgrow
      · -- nil
        cases ha with
        | sl _ _ _ a cap _ _ _ _ _ _ hT => exact hT.elim
        | slnl =>
          obtain ⟨v, w', h1, h2, h3, h4⟩ := grow_run (ty := ty) (cap := 0) (A := none) hr ht hI hzv hIs hzvs (.nil sz) hS (fun b hb => by cases hb) (fun _ => ⟨rfl, rfl⟩) hm0 (by simp) hby' h63
          exact ⟨v, w', _, _, h1, hgrow w.heap.size hr.nxt, h2, h3, h4⟩
      · -- full
        obtain ⟨a, cap, olds, rfl, hcap, ho, hold, hT, _⟩ := ha.row (.inr (.inl rfl))
        obtain rfl : s0 = sz := hs0.resolve_right (by simp)
        have hT' : cap = es.length := hT
        obtain ⟨v, w', h1, h2, h3, h4⟩ := grow_run (ty := ty) (cap := cap) (A := some a) hr ht hI hzv hIs hzvs ho hS (fun b hb => by injection hb with hb; subst hb; exact hold) (fun hn => by cases hn) hm0 (by omega) hby' h63
        exact ⟨v, w', _, _, h1, hgrow w.heap.size hr.nxt, h2, h3, h4⟩
      · -- one's own
        rename_i g0
        obtain ⟨a, cap, olds, rfl, hcap, ho, hold, hT, hsp, _⟩ := ha.row (.inr (.inr ⟨g0, rfl⟩))
        obtain rfl : s0 = sz := hs0.resolve_right (by simp)
        split at hgrow
        · rename_i e0 l hg0
          obtain ⟨rfl, rfl, hgr⟩ := hgrow
          obtain ⟨rfl, hcm, ⟨cur, T, fz, hb, hcur⟩, _⟩ := hT
          have hg0s : g0 < w.heap.size := (Array.getElem?_eq_some_iff.1 hb).1
          obtain ⟨cur', hb', _⟩ := hr.row g0 e0 _ hg0
          rw [hb] at hb'
          injection hb' with hb'
          injection hb' with h1 h2 h3
          subst h1
          subst h2
          subst h3
          by_cases hroom : es.length + (y :: ys).length ≤ cap
          · rcases hS with ⟨rfl, b, c, news, rfl, hn, hcell⟩ | ⟨hus, S, rfl, hSl, hsz1, hn⟩
            · obtain ⟨h1, h2, h3⟩ := room_ok hr hg0 hb ha hn hroom hcur hcm
              refine ⟨_, _, _, _, ?_, hgr g0 (.inl rfl), h1, h2, h3⟩
              have := run_append_room (P := P) w t ty T I ht hI g0 es.length cap cur hb b (y :: ys).length c news (by rw [hIs]; exact hn.len) hcell hn.vone hroom (by rw [hIs, hn.len, hcur, ← Nat.add_mul]; exact Nat.mul_le_mul_right _ hroom)
              rw [hIs] at this
              rw [hm1]
              exact this
            · subst hsz1
              obtain ⟨h1, h2, h3⟩ := room_ok hr hg0 hb ha hn hroom hcur hcm
              refine ⟨_, _, _, _, ?_, hgr g0 (.inl rfl), h1, h2, h3⟩
              have := run_append_room_string (P := P) w t u ty T I ht hus hI hIs g0 es.length cap cur hb S (by omega) (by rw [hcur]; omega)
              rw [hm1, this, hSl, strCells_length, hSl]
              simp
          · have hE := erase_rel hr g0
            obtain ⟨v, w', h1, h2, h3, h4⟩ := grow_run (ty := ty) (cap := cap) (A := some ⟨g0, 0, none⟩) hE.1 ht hI hzv hIs hzvs (ho.step hE.2) (hS.step hE.2) (fun b hb => by injection hb with hb; subst hb; exact hold) (fun hn => by cases hn) hm0 (by omega) hby' h63
            have hmv := move_new hr g0 (.row T ((es ++ y :: ys).length * s0)) hg0s
            rw [← hmv] at h2 h3 h4
            exact ⟨v, w', _, _, h1, hgr w.heap.size (.inr hr.nxt), h2, hE.2.trans h3, h4⟩
        · exact hgrow.elim
      · exact hgrow.elim
    · cases hK
  · cases hK

end
end Go.Abs

/- Every operation that turns managed memory or calls: the machine does as 'aeff' says; the slots of a frame. Over any program; no conditions. -/
namespace Go.Abs

section
variable {P : Program} {G : Nat → Option Obj} {h : AHeap} {w : World} {ρa : Operand → Option AVal}

theorem run_callFunc {k : FuncId} (hc : Callable P k) (args : Array Value) (w : World) : (callFunc k args).run P w = .ok (.enter k args) w := by
  obtain ⟨fn, h1, h2, h3⟩ := hc
  have h4 : fn.body.isNone = false := by cases hb : fn.body <;> simp_all
  unfold callFunc
  simp only [Sem.run_bind, run_program, Result.andThen_ok, h1]
  rw [if_neg (by rw [h3]; simp), if_neg (by rw [h4]; simp)]
  rfl

theorem eff_value {o : Oper} {a : Act} {Kc : Act → World → Prop} {Q : Exit → Act → World → Prop} {v : Value} {w' : World} (hrun : (execOp a.eval o).run P w = .ok (.value v) w') (hk : Kc (a.put o.dst v) w') : o.wp P a w Kc Q := by
  unfold Oper.wp
  rw [hrun]
  exact hk

theorem aeff_ok {o : Oper} {a : Act} {K Kp : AVal → AHeap → Prop} {Kc : Act → World → Prop} {Q : Exit → Act → World → Prop} (hr : Rel G h w) (hx : aeff P G h ρa K Kp o.op) (ho : OpsRep h w ρa a.eval o.op.operands.toList)
    (hK : ∀ x h' w' v, K x h' → Rel G h' w' → Step h w h' w' → Rep h' w' x v → Kc (a.put o.dst v) w')
    (hP : ∀ x h' w' v, Kp x h' → Rel G h' w' → Step h w h' w' → Rep h' w' x v → Q (.panic [{ v, recovered := false }]) a w') : o.wp P a w Kc Q := by
  obtain ⟨dst, op, ty, pos, after, guard⟩ := o
  simp only at hx ho hK ⊢
  cases op <;> simp only [aeff] at hx
  case alloc T =>
    split at hx
    · rename_i z hti
      obtain ⟨zv, hz, hzr, hzo⟩ := run_zero (h := h) (w := w) hti rfl
      refine eff_value (v := .pointer (some ⟨w.heap.size, 0, none⟩)) (w' := w.alloc (.cells zv.cells T)) ?_ ?_
      · simp only [execOp, Instr.alloc, Sem.run_bind, hz, Result.andThen_ok]
        simp [newVar, newRow]
      · refine hK _ _ _ _ (hx w.heap.size hr.nxt) (new_rel hr _ _ (fun T' cells he => ?_) (fun T' len he => by cases he)) (new_step hr _ _) (.ptr _ _)
        injection he with h1 h2
        subst h1
        subst h2
        exact ⟨zv.cells.toList, by simp, hzr, hzo⟩
    · exact hx.elim
  case box T y =>
    split at hx
    · rename_i x hy
      have hv := ho y (by simp [Op.operands]) _ hy
      obtain ⟨hc, hone⟩ := hv.notTuple hx.1
      refine eff_value (v := .pointer (some ⟨w.heap.size, 0, none⟩)) (w' := w.alloc (.cells (a.eval y).cells T)) ?_ ?_
      · simp only [execOp, Instr.box, Sem.run_bind]
        simp [newVar, newRow]
      · refine hK _ _ _ _ (hx.2 w.heap.size hr.nxt) (new_rel hr _ _ (fun T' cells he => ?_) (fun T' len he => by cases he)) (new_step hr _ _) (.ptr _ _)
        injection he with h1 h2
        subst h1
        subst h2
        exact ⟨(a.eval y).cells.toList, by simp, hc, hone⟩
    · exact hx.elim
  case store T y z =>
    split at hx
    · rename_i i g off x hti hy hz
      split at hx
      · rename_i T' cs hg
        obtain ⟨h1, h2, h3, h4⟩ := hx
        have hv := ho y (by simp [Op.operands]) _ hy
        have hv2 := ho z (by simp [Op.operands]) _ hz
        obtain ⟨w', e1, e2, e3⟩ := store_ok (P := P) (T := T) hr hti hg hv2 h1 h2 h3
        have hyv : a.eval y = .pointer (some ⟨g, off, none⟩) := by generalize a.eval y = u at hv; cases hv; rfl
        unfold Oper.wp
        have hrun : (execOp a.eval { dst, op := .store T y z, type := ty, pos, after, guard }).run P w = .ok .skip w' := by
          simp only [execOp, Sem.run_bind, hyv, e1, Result.andThen_ok, Sem.run_pure]
        rw [hrun]
        exact hK _ _ _ _ h4 e2 e3 (.tuple [] [] rfl (fun i c v hi => by simp at hi))
      · exact hx.elim
    · exact hx.elim
  case panic y =>
    split at hx
    · rename_i T x hy
      have hv := ho y (by simp [Op.operands]) _ hy
      unfold Oper.wp
      have hrun : (execOp a.eval { dst, op := .panic y, type := ty, pos, after, guard }).run P w = .halt (.panic (a.eval y)) w := by
        simp only [execOp, Instr.panic]
        generalize a.eval y = u at hv
        cases hv
        rfl
      rw [hrun]
      exact hP _ _ _ _ hx hr (.refl hr) hv
    · exact hx.elim
  case call c =>
    obtain ⟨callee, args, argTypes⟩ := c
    cases callee with
    | invoke r m => exact hx.elim
    | value f =>
      simp only at hx
      split at hx
      · rename_i k first captured l hf hl
        obtain ⟨hcall, hx⟩ := hx
        have hv := ho f (by simp [Op.operands, Call.operands]) _ hf
        have hargs := avals_rep hl (fun y hy => ho y (by simp [Op.operands, Call.operands]; exact .inr (by simpa using hy)))
        generalize hfe : a.eval f = vf at hv
        cases hv with
        | func _ _ _ vfirst vcap hlf hlc hrf hrc =>
          have hrun : (execOp a.eval { dst, op := .call { callee := .value f, args, argTypes }, type := ty, pos, after, guard }).run P w = .ok (.enter k (vfirst.toArray ++ args.map a.eval ++ vcap.toArray)) w := by
            simp only [execOp, resolve, hfe, Deferred.ofValue, Sem.run_bind, Sem.run_pure, Result.andThen_ok, invoke, run_callFunc hcall]
          unfold Oper.wp
          rw [hrun]
          have hreps : Reps h w (first ++ l ++ captured) (vfirst ++ args.toList.map a.eval ++ vcap) := (Reps.append (Reps.append ⟨hlf, hrf⟩ hargs) ⟨hlc, hrc⟩)
          have hA : vfirst.toArray ++ args.map a.eval ++ vcap.toArray = (vfirst ++ args.toList.map a.eval ++ vcap).toArray := by
            apply Array.toList_inj.1
            simp
          rw [hA]
          refine (hx w _ hr hreps).mono fun e w' he => ?_
          obtain ⟨out, h', hp, hrel, hstep, hout⟩ := he
          cases out with
          | ret x =>
            obtain ⟨v, rfl, hrep⟩ := hout
            exact hK _ _ _ _ hp hrel hstep hrep
          | panic x =>
            obtain ⟨v, rfl, hrep⟩ := hout
            exact hP _ _ _ _ hp hrel hstep hrep
      · exact hx.elim
    | builtin b =>
      cases b <;> simp only at hx <;> (try exact hx.elim)
      case append =>
        split at hx
        · rename_i s x t u hargs htys
          obtain rfl : args = #[s, x] := by rw [← Array.toArray_toList (xs := args), hargs]
          obtain rfl : argTypes = #[t, u] := by rw [← Array.toArray_toList (xs := argTypes), htys]
          have key : ∀ (e : TypeId) (it : TI) (xa xb : AVal), tyi P t = some it → it.kind = .sl e → ρa s = some xa → ρa x = some xb → ((∃ sz es tg, xb = .sl sz es tg ∧ t = u) ∨ (∃ b iu, xb = .str b ∧ tyi P u = some iu ∧ iu.kind = .str)) →
              aappend P h e xa xb K → Oper.wp P { dst, op := .call { callee := .builtin .append, args := #[s, x], argTypes := #[t, u] }, type := ty, pos, after, guard } a w Kc Q := by
            intro e it xa xb hti hk hs hxo hu hap
            obtain ⟨v, w', y, h', h1, h2, h3, h4, h5⟩ := append_ok (P := P) (ty := ty) hr hti hk hu (ho s (by simp [Op.operands, Call.operands]) _ hs) (ho x (by simp [Op.operands, Call.operands]) _ hxo) hap
            refine eff_value (v := v) (w' := w') ?_ (hK _ _ _ _ h2 h3 h4 h5)
            simp only [execOp, resolve, invoke, builtin, Sem.run_bind, Sem.run_pure, Result.andThen_ok, List.map_toArray, List.map_cons, List.map_nil, h1]
          split at hx
          · rename_i e _ _ _ e' _ _ xa sz es tg hti htu hs hxo
            exact key _ _ xa _ hti rfl hs hxo (.inl ⟨_, _, _, rfl, hx.2.1⟩) hx.2.2
          · rename_i e _ _ _ _ _ xa b hti htu hs hxo
            exact key _ _ xa _ hti rfl hs hxo (.inr ⟨_, _, rfl, htu, rfl⟩) hx
          · exact hx.elim
        · exact hx.elim

end
end Go.Abs

/- The slots of a frame, one operation of a region, and pieces of code, over abstract values. Over any program; no conditions. -/
namespace Go.Abs

def AHeap.Wf (h : AHeap) : Prop := ∀ g o, h.get g = some o → g < h.next

/-- h' tells less than h. -/
structure Sub (h' h : AHeap) : Prop where
  next : h'.next ≤ h.next
  wf : h'.Wf
  get : ∀ g o, h'.get g = some o → (∃ T l, o = .row T l ∧ h.get g = some (.row T l)) ∨ ∃ T cs cs', o = .box T cs' ∧ h.get g = some (.box T cs) ∧ WeakL cs cs'

section
variable {P : Program} {G : Nat → Option Obj} {h h' : AHeap} {w : World}

theorem Sub.step (hs : Sub h' h) (hr : Rel G h w) : Step h w h' w where
  os := rfl
  tape := rfl
  output := rfl
  size := Nat.le_refl _
  free := fun g _ hn => ⟨rfl, by
    cases hg : h'.get g with
    | none => rfl
    | some o => rcases hs.get g o hg with ⟨T, l, _, h1⟩ | ⟨T, cs, cs', _, h1, _⟩ <;> rw [hn] at h1 <;> cases h1⟩
  row := fun g T len _ hh => by
    obtain ⟨vs, h1, _⟩ := hr.row g T len hh
    refine ⟨vs, vs, (0, 0), h1, h1, rfl, fun _ _ => rfl, ?_⟩
    cases hg : h'.get g with
    | none => exact .inl rfl
    | some o =>
      rcases hs.get g o hg with ⟨T', l, rfl, h2⟩ | ⟨T', cs, cs', _, h2, _⟩
      · rw [hh] at h2; injection h2 with h2; injection h2 with a b; subst a; subst b; exact .inr ⟨rfl, _, Nat.le_refl _, rfl⟩
      · rw [hh] at h2; injection h2 with h2; cases h2
  box := fun g T cs _ hh => by
    cases hg : h'.get g with
    | none => exact .inl rfl
    | some o =>
      rcases hs.get g o hg with ⟨T', l, rfl, h2⟩ | ⟨T', cs, cs', rfl, h2, _⟩
      · rw [hh] at h2; injection h2 with h2; cases h2
      · rw [hh] at h2; injection h2 with h2; injection h2 with a b; subst a; exact .inr ⟨_, rfl⟩

theorem Sub.rel (hs : Sub h' h) (hr : Rel G h w) : Rel G h' w where
  wf := hs.wf
  nxt := Nat.le_trans hs.next hr.nxt
  box := fun g T cells hg => by
    rcases hs.get g _ hg with ⟨T', l, h1, _⟩ | ⟨T', cs, cs', h1, h2, h3⟩
    · cases h1
    · injection h1 with a b
      subst a; subst b
      obtain ⟨vs, k1, k2, k3⟩ := hr.box g T cs h2
      exact ⟨vs, k1, (k2.weak h3).step (hs.step hr), one_of_weak h3.1 h3.2 k3⟩
  row := fun g T len hg => by
    rcases hs.get g _ hg with ⟨T', l, h1, h2⟩ | ⟨T', cs, cs', h1, _, _⟩
    · injection h1 with a b
      subst a; subst b
      exact hr.row g T len h2
    · cases h1
  glob := fun g o hg => by
    obtain ⟨h1, h2⟩ := hr.glob g o hg
    refine ⟨h1, ?_⟩
    cases hg' : h'.get g with
    | none => rfl
    | some o' => rcases hs.get g o' hg' with ⟨T, l, _, h3⟩ | ⟨T, cs, cs', _, h3, _⟩ <;> rw [h2] at h3 <;> cases h3

end

/-- What is known of a frame's slots: slot, 'it has been written' (else it holds nothing), value; the newest first. -/
abbrev Env := List (Nat × Bool × AVal)

def Env.get : Env → Nat → Option (Bool × AVal)
  | [], _ => none
  | (t, c, v) :: r, x => if x = t then some (c, v) else Env.get r x

/-- The first knows no more than the second. -/
def EnvLe (e0 e : Env) : Prop := ∀ t c v, e0.get t = some (c, v) → ∃ v', e.get t = some (c, v') ∧ Weak v' v

theorem EnvLe.refl (e : Env) : EnvLe e e := fun _ _ v h => ⟨v, h, .refl v⟩
theorem EnvLe.nil (e : Env) : EnvLe [] e := fun _ _ _ h => by cases h
theorem EnvLe.consw {e0 e : Env} {t : Nat} {c : Bool} {v v' : AVal} (h : e.get t = some (c, v')) (hw : Weak v' v) (hr : EnvLe e0 e) : EnvLe ((t, c, v) :: e0) e := fun t' c' u ht => by
  simp only [Env.get] at ht
  split at ht
  · rename_i he
    injection ht with ht
    simp only [Prod.mk.injEq] at ht
    obtain ⟨rfl, rfl⟩ := ht
    rw [he]
    exact ⟨v', h, hw⟩
  · exact hr _ _ _ ht
theorem EnvLe.cons {e0 e : Env} {t : Nat} {c : Bool} {v : AVal} (h : e.get t = some (c, v)) (hr : EnvLe e0 e) : EnvLe ((t, c, v) :: e0) e := .consw h (.refl v) hr

def look (e : Env) : Operand → Option (Bool × AVal)
  | .tmp t => e.get t
  | .const v => match aconst v with
    | some x => some (true, x)
    | none => none
  | .func f => some (true, .func (.func f) [] [])
  | .global _ => none

def lookv (e : Env) (x : Operand) : Option AVal := match look e x with
  | some (_, v) => some v
  | none => none

def lookc (e : Env) (x : Operand) : Bool := match look e x with
  | some (c, _) => c
  | none => true

def condsL (e : Env) : List Operand → Prop
  | [] => True
  | x :: r => lookc e x = true ∧ condsL e r

structure AOp where
  dst : Option Nat
  op : Op
  guard : Option (Nat × Bool)

def gcond (e : Env) : Option (Nat × Bool) → Option Bool
  | none => some true
  | some (d, want) => match e.get d with
    | some (c, .bool b) => some (c && (b == want))
    | _ => none

def Env.put (e : Env) (dst : Option Nat) (c : Bool) (v : AVal) : Env := match dst with
  | some d => (d, c, v) :: e
  | none => e

/-- An operation that turns no managed memory. -/
def quietOp : Op → Bool
  | .move _ | .assign _ | .pick .. | .build .. | .buildSlice .. | .load .. | .nilCheck _ | .binOp .. | .unOp .. | .convert .. | .makeInterface .. | .makeFunc .. | .slice .. | .fieldAddr .. | .field .. | .indexAddr .. | .index .. | .extract .. => true
  | .call { callee := .builtin .len, .. } => true
  | .call { callee := .builtin .min, .. } => true
  | .call { callee := .builtin .max, .. } => true
  | _ => false

def isLoad : Op → Bool
  | .load .. => true
  | _ => false

def aread (P : Program) (h : AHeap) (e : Env) (g : Bool) : Op → Option (Prop × AVal)
  | .pick c a b => match look e c, look e a, look e b with
    | some (cc, .bool x), some (ca, .bool y), some (cb, .bool z) => some (g = true → cc = true ∧ (x = true → ca = true) ∧ (x = false → cb = true), .bool (bif x then y else z))
    | _, _, _ => none
  | op => match ard P h (lookv e) op with
    | some (p, v) => some (g = true → condsL e op.operands.toList ∧ p, v)
    | none => none

def aop1 (P : Program) (G : Nat → Option Obj) (h : AHeap) (e : Env) (x : AOp) (K : Env → AHeap → Prop) (Kp : AVal → AHeap → Prop) : Prop :=
  match gcond e x.guard with
  | none => False
  | some g => bif quietOp x.op then (∃ p v, aread P h e g x.op = some (p, v) ∧ p ∧ K (e.put x.dst g v) h) ∨ (g = false ∧ K (e.put x.dst false default) h)
    else (g = true → condsL e x.op.operands.toList ∧ aeff P G h (lookv e) (fun v h' => K (e.put x.dst true v) h') Kp x.op) ∧ (g = false → K (e.put x.dst false default) h)

/-- The load reads as it did. -/
def reload (P : Program) (h : AHeap) (e : Env) (x : AOp) : Prop :=
  match gcond e x.guard, x.dst with
  | some g, some d => (g = true → match aread P h e true x.op with
    | some (p, v) => p ∧ e.get d = some (true, v)
    | none => False) ∧ (g = false → ∃ v, e.get d = some (false, v))
  | _, _ => False

def recheck (P : Program) (h : AHeap) (e : Env) : List AOp → Prop
  | [] => True
  | x :: r => reload P h e x ∧ recheck P h e r

inductive AExit where
  | normal
  | exit (id : Nat)
  | ret
  | panic (v : AVal)

inductive ACode where
  | skip
  | ops (l : List (AOp × List AOp))
  | two (a b : List (AOp × List AOp))
  | seq (a b : ACode)
  | cond (c : Operand) (a b : ACode)
  | block (id : Nat) (a : ACode)
  | loop (a : ACode)
  | exit (id : Nat)
  | ret

def aops (P : Program) (G : Nat → Option Obj) (Q : AExit → Env → AHeap → Prop) : List (AOp × List AOp) → Env → AHeap → Prop
  | [], e, h => Q .normal e h
  | (x, chk) :: r, e, h => aop1 P G h e x (fun e' h' => recheck P h' e' chk ∧ aops P G Q r e' h') (fun v h' => Q (.panic v) [] h')

def AExit.then (K : Env → AHeap → Prop) (Q : AExit → Env → AHeap → Prop) : AExit → Env → AHeap → Prop
  | .normal, e, h => K e h
  | x, e, h => Q x e h

def AExit.inBlock (id : Nat) (Q : AExit → Env → AHeap → Prop) : AExit → Env → AHeap → Prop
  | .exit i, e, h => if i = id then Q .normal e h else Q (.exit i) e h
  | x, e, h => Q x e h

def awp (P : Program) (G : Nat → Option Obj) : ACode → (AExit → Env → AHeap → Prop) → Env → AHeap → Prop
  | .skip, Q, e, h => Q .normal e h
  | .ops l, Q, e, h => aops P G Q l e h
  | .two a b, Q, e, h => aops P G Q a e h ∧ aops P G Q b e h
  | .seq a b, Q, e, h => awp P G a (AExit.then (awp P G b Q) Q) e h
  | .cond c a b, Q, e, h => match look e c with
    | some (cc, .bool x) => cc = true ∧ (x = true → awp P G a Q e h) ∧ (x = false → awp P G b Q e h)
    | _ => False
  | .block id a, Q, e, h => awp P G a (AExit.inBlock id Q) e h
  | .loop a, Q, e, h => ∃ I : Env → AHeap → Nat → Prop, (∃ e0 h0 n, EnvLe e0 e ∧ (h0 = h ∨ Sub h0 h) ∧ I e0 h0 n) ∧ ∀ e h n, I e h n → awp P G a (AExit.then (fun e' h' => ∃ e0 h0 m, m < n ∧ EnvLe e0 e' ∧ (h0 = h' ∨ Sub h0 h') ∧ I e0 h0 m) Q) e h
  | .exit id, Q, e, h => Q (.exit id) e h
  | .ret, Q, e, h => Q .ret e h

/-! ### what it stands for -/

/-- The slots hold what is known of them, but for those of B. -/
def EnvB (h : AHeap) (w : World) (N : Nat) (B : Nat → Prop) (e : Env) (tmps : Array Value) : Prop :=
  tmps.size = N ∧ ∀ t c v, e.get t = some (c, v) → t < N ∧ (B t ∨ (c = true → Rep h w v (tmps.getD t undef)) ∧ (c = false → tmps.getD t undef = undef))

theorem EnvLe.rep {h : AHeap} {w : World} {N : Nat} {B : Nat → Prop} {e0 e : Env} {tmps : Array Value} (hl : EnvLe e0 e) (he : EnvB h w N B e tmps) : EnvB h w N B e0 tmps :=
  ⟨he.1, fun t c v ht => by
    obtain ⟨v', h1, hw⟩ := hl t c v ht
    obtain ⟨h2, h3⟩ := he.2 t c v' h1
    exact ⟨h2, h3.imp id fun h4 => ⟨fun hc => (h4.1 hc).weak hw, h4.2⟩⟩⟩

abbrev EnvRep (h : AHeap) (w : World) (N : Nat) (e : Env) (tmps : Array Value) : Prop := EnvB h w N (fun _ => False) e tmps

def opTmps (o : Op) : List Nat := o.operands.toList.filterMap fun | .tmp t => some t | _ => none

def readsOf (x : AOp) : List Nat := opTmps x.op ++ (match x.guard with | some (d, _) => [d] | none => [])

def ExitRep (h : AHeap) (w : World) : AExit → Exit → Prop
  | .normal, x => x = .normal
  | .exit i, x => x = .exit i
  | .ret, x => x = .ret
  | .panic v, x => ∃ u, x = .panic [{ v := u, recovered := false }] ∧ Rep h w v u

def CQ (D : List Deferred) (G : Nat → Option Obj) (h0 : AHeap) (w0 : World) (N : Nat) (Q : AExit → Env → AHeap → Prop) (x : Exit) (a : Act) (w : World) : Prop :=
  ∃ ax e h, Q ax e h ∧ ExitRep h w ax x ∧ Rel G h w ∧ Step h0 w0 h w ∧ EnvRep h w N e a.tmps ∧ a.defers = D

section
variable {P : Program} {G : Nat → Option Obj} {h : AHeap} {w : World} {e : Env} {N : Nat} {a : Act}

theorem CQ.from {D : List Deferred} {h1 : AHeap} {w1 : World} {Q : AExit → Env → AHeap → Prop} {x : Exit} {a : Act} {w' : World} (hq : CQ D G h1 w1 N Q x a w') (hs : Step h w h1 w1) : CQ D G h w N Q x a w' := by
  obtain ⟨ax, e, h', q1, q2, q3, q4, q5⟩ := hq
  exact ⟨ax, e, h', q1, q2, q3, hs.trans q4, q5⟩

theorem EnvB.step {h' : AHeap} {w' : World} {B : Nat → Prop} {tmps : Array Value} (he : EnvB h w N B e tmps) (hs : Step h w h' w') : EnvB h' w' N B e tmps :=
  ⟨he.1, fun t c v ht => ⟨(he.2 t c v ht).1, (he.2 t c v ht).2.imp id fun h => ⟨fun hc => (h.1 hc).step hs, h.2⟩⟩⟩

theorem getD_set (tmps : Array Value) (d t : Nat) (v : Value) (hd : d < tmps.size) : (tmps.setIfInBounds d v).getD t undef = if t = d then v else tmps.getD t undef := by
  simp only [Array.getD_eq_getD_getElem?, Array.getElem?_setIfInBounds]
  by_cases h1 : t = d
  · subst h1; simp [hd]
  · rw [if_neg h1, if_neg (fun h => h1 h.symm)]

theorem EnvB.put {B : Nat → Prop} {d : Nat} {c : Bool} {x : AVal} {v : Value} (he : EnvB h w N B e a.tmps) (hd : d < N) (h1 : c = true → Rep h w x v) (h2 : c = false → v = undef) :
    EnvB h w N (fun t => B t ∧ t ≠ d) (e.put (some d) c x) (a.put (some d) v).tmps := by
  refine ⟨by simp [Act.put, he.1], fun t c' v' ht => ?_⟩
  simp only [Env.put, Env.get] at ht
  simp only [Act.put, getD_set _ _ _ _ (by rw [he.1]; exact hd)]
  split at ht
  · rename_i heq
    injection ht with ht
    simp only [Prod.mk.injEq] at ht
    obtain ⟨rfl, rfl⟩ := ht
    rw [if_pos heq]
    exact ⟨by omega, .inr ⟨h1, h2⟩⟩
  · rename_i heq
    rw [if_neg heq]
    exact ⟨(he.2 t c' v' ht).1, (he.2 t c' v' ht).2.imp (fun h => ⟨h, heq⟩) id⟩

theorem look_rep {B : Nat → Prop} {x : Operand} {c : Bool} {v : AVal} (he : EnvB h w N B e a.tmps) (hB : ∀ t, x = .tmp t → ¬ B t) (hx : look e x = some (c, v)) (hc : c = true) : Rep h w v (a.eval x) := by
  cases x with
  | tmp t => exact ((he.2 t c v hx).2.resolve_left (hB t rfl)).1 hc
  | const u =>
    simp only [look] at hx
    split at hx
    · rename_i y hy
      injection hx with hx
      simp only [Prod.mk.injEq] at hx
      obtain ⟨_, rfl⟩ := hx
      exact aconst_rep hy
    · cases hx
  | func f =>
    simp only [look] at hx
    injection hx with hx
    simp only [Prod.mk.injEq] at hx
    obtain ⟨_, rfl⟩ := hx
    exact .func (.func f) [] [] [] [] rfl rfl (fun i c v hi => by simp at hi) (fun i c v hi => by simp at hi)
  | global g => cases hx

theorem conds_rep {B : Nat → Prop} (he : EnvB h w N B e a.tmps) : ∀ {l : List Operand}, (∀ t, .tmp t ∈ l → ¬ B t) → condsL e l → OpsRep h w (lookv e) a.eval l
  | [], _, _ => fun y hy => absurd hy List.not_mem_nil
  | x :: r, hB, hc => fun y hy v hv => by
    rcases List.mem_cons.1 hy with rfl | hy
    · unfold lookv at hv
      split at hv
      · rename_i c u hl
        injection hv with hv
        subst hv
        have := hc.1
        unfold lookc at this
        rw [hl] at this
        exact look_rep he (fun t ht => hB t (by rw [ht]; exact List.mem_cons_self)) hl this
      · cases hv
    · exact conds_rep he (fun t ht => hB t (List.mem_cons_of_mem _ ht)) hc.2 y hy v hv

theorem mem_opTmps {o : Op} {t : Nat} : t ∈ opTmps o ↔ .tmp t ∈ o.operands.toList := by
  unfold opTmps
  rw [List.mem_filterMap]
  constructor
  · rintro ⟨y, hy, h⟩
    cases y <;> simp at h
    subst h
    exact hy
  · exact fun h => ⟨_, h, rfl⟩

theorem quiet_of_ard {ρ : Operand → Option AVal} {op : Op} {r : Prop × AVal} (hx : ard P h ρ op = some r) : quietOp op = true := by
  cases op <;> simp only [ard, reduceCtorEq] at hx <;> (try rfl)
  case call c =>
    obtain ⟨callee, args, tys⟩ := c
    cases callee with
    | builtin b => cases b <;> simp only [reduceCtorEq] at hx <;> rfl
    | value f => simp at hx
    | invoke r m => simp at hx

/-- A quiet operation runs. -/
theorem aread_ok {B : Nat → Prop} {o : Oper} {p : Prop} {x : AVal} (hr : Rel G h w) (he : EnvB h w N B e a.tmps) (hB : ∀ t, t ∈ opTmps o.op → ¬ B t) (hx : aread P h e true o.op = some (p, x)) (hp : p) : ROk P G h w (execOp a.eval o) x := by
  unfold aread at hx
  split at hx
  · rename_i c u v heq
    split at hx
    · rename_i cc bx ca by' cb bz h1 h2 h3
      simp only [Option.some.injEq, Prod.mk.injEq] at hx
      obtain ⟨rfl, rfl⟩ := hx
      obtain ⟨hcc, hca, hcb⟩ := hp trivial
      have hB' : ∀ (y : Operand), y ∈ (Op.pick c u v).operands.toList → ∀ t, y = .tmp t → ¬ B t := fun y hy t ht => hB t (by rw [heq]; exact mem_opTmps.2 (by rw [← ht]; exact hy))
      have e1 := (look_rep he (hB' c (by simp [Op.operands])) h1 hcc).bool_inv
      unfold execOp
      simp only [heq]
      cases bx with
      | true =>
        have e2 := (look_rep he (hB' u (by simp [Op.operands])) h2 (hca rfl)).bool_inv
        exact rok hr (by simp [e1, asBool, e2]) (.bool _)
      | false =>
        have e2 := (look_rep he (hB' v (by simp [Op.operands])) h3 (hcb rfl)).bool_inv
        exact rok hr (by simp [e1, asBool, e2]) (.bool _)
    · cases hx
  · split at hx
    · rename_i p' v' hard
      simp only [Option.some.injEq, Prod.mk.injEq] at hx
      obtain ⟨rfl, rfl⟩ := hx
      obtain ⟨hc, hp'⟩ := hp trivial
      exact ard_ok hr hard hp' (conds_rep he (fun t ht => hB t (mem_opTmps.2 ht)) hc)
    · cases hx

/-- An operation of the model's and ours. -/
structure OpIs (ops : Array Oper) (N : Nat) (o : Oper) (x : AOp) : Prop where
  op : x.op = o.op
  dst : x.dst = o.dst
  lt : ∀ d, o.dst = some d → d < N
  guard : (o.guard = none ∧ x.guard = none) ∨ ∃ j want d, o.guard = some (j, want) ∧ (ops[j]?).bind (·.dst) = some d ∧ x.guard = some (d, want)

theorem wanted_eq {B : Nat → Prop} {ops : Array Oper} {o : Oper} {x : AOp} {g : Bool} (hi : OpIs ops N o x) (he : EnvB h w N B e a.tmps) (hB : ∀ t, t ∈ readsOf x → ¬ B t) (hg : gcond e x.guard = some g) : Region.wanted o (yielded ops a.tmps) = g := by
  rcases hi.guard with ⟨h1, h2⟩ | ⟨j, want, d, h1, h2, h3⟩
  · rw [h2] at hg
    simp only [gcond, Option.some.injEq] at hg
    subst hg
    simp [Region.wanted, h1]
  · have hBd : ¬ B d := hB d (by simp [readsOf, h3])
    rw [h3] at hg
    simp only [gcond] at hg
    split at hg
    · rename_i c b hd
      injection hg with hg
      subst hg
      obtain ⟨hlt, hv⟩ := he.2 d c _ hd
      obtain ⟨ht, hf⟩ := hv.resolve_left hBd
      have hget : a.tmps[d]? = some (a.tmps.getD d undef) := by
        rw [Array.getD_eq_getD_getElem?, Array.getElem?_eq_getElem (by rw [he.1]; exact hlt)]; rfl
      simp only [Region.wanted, h1, yielded, h2, Option.bind_some, hget]
      cases c with
      | true => rw [(ht rfl).bool_inv]; cases b <;> cases want <;> rfl
      | false => rw [hf rfl]; rfl
    · cases hg

theorem put_dst {B : Nat → Prop} {ops : Array Oper} {o : Oper} {x : AOp} {c : Bool} {y : AVal} {v : Value} (hi : OpIs ops N o x) (he : EnvB h w N B e a.tmps) (h1 : c = true → Rep h w y v) (h2 : c = false → v = undef) :
    EnvB h w N (fun t => B t ∧ some t ≠ x.dst) (e.put x.dst c y) (a.put o.dst v).tmps := by
  rw [hi.dst]
  cases hd : o.dst with
  | none => exact ⟨he.1, fun t c v ht => ⟨(he.2 t c v ht).1, (he.2 t c v ht).2.imp (fun h => ⟨h, by simp⟩) id⟩⟩
  | some d =>
    have := he.put (hi.lt d hd) h1 h2
    exact ⟨this.1, fun t c v ht => ⟨(this.2 t c v ht).1, (this.2 t c v ht).2.imp (fun h => ⟨h.1, by simpa using h.2⟩) id⟩⟩

theorem defers_put (a : Act) (d : Option Tmp) (v : Value) : (a.put d v).defers = a.defers := by cases d <;> rfl

/-- ONE OPERATION. -/
theorem aop1_ok {B : Nat → Prop} {ops : Array Oper} {o : Oper} {x : AOp} {K : Env → AHeap → Prop} {Kp : AVal → AHeap → Prop} {Kc : Act → World → Prop} {Q : Exit → Act → World → Prop} (hi : OpIs ops N o x) (hr : Rel G h w) (he : EnvB h w N B e a.tmps)
    (hB : ∀ t, t ∈ readsOf x → ¬ B t)
    (hx : aop1 P G h e x K Kp) (hK : ∀ e' h' a' w', K e' h' → Rel G h' w' → Step h w h' w' → EnvB h' w' N (fun t => B t ∧ some t ≠ x.dst) e' a'.tmps → a'.defers = a.defers → Kc a' w')
    (hP : ∀ v h' w' u, Kp v h' → Rel G h' w' → Step h w h' w' → Rep h' w' v u → Q (.panic [{ v := u, recovered := false }]) a w') :
    if Region.wanted o (yielded ops a.tmps) then o.wp P a w Kc Q else Kc (a.put o.dst undef) w := by
  have hBo : ∀ t, t ∈ opTmps o.op → ¬ B t := fun t ht => hB t (by rw [← hi.op] at ht; simp [readsOf, ht])
  unfold aop1 at hx
  split at hx
  · exact hx.elim
  · rename_i g hg
    rw [wanted_eq hi he hB hg]
    have hskip : ∀ y, g = false → K (e.put x.dst false y) h → Kc (a.put o.dst undef) w := fun y _ hk =>
      hK _ _ _ _ hk hr (.refl hr) (put_dst hi he (fun hc => by cases hc) (fun _ => rfl)) (defers_put _ _ _)
    cases hq : quietOp x.op with
    | true =>
      rw [hq] at hx
      simp only [cond_true] at hx
      rcases hx with ⟨p, v, hv, hx⟩ | hx
      · cases g with
        | true =>
          rw [if_pos rfl]
          rw [hi.op] at hv
          obtain ⟨u, w', h1, h2, h3, h4⟩ := aread_ok (o := o) hr he hBo hv hx.1
          exact eff_value h1 (hK _ _ _ _ hx.2 h2 h3 (put_dst hi (he.step h3) (fun _ => h4) (fun hc => by cases hc)) (defers_put _ _ _))
        | false => rw [if_neg (by simp)]; exact hskip v rfl hx.2
      · obtain ⟨rfl, hk⟩ := hx
        rw [if_neg (by simp)]
        exact hskip _ rfl hk
    | false =>
      rw [hq] at hx
      simp only [cond_false] at hx
      cases g with
      | true =>
        rw [if_pos rfl]
        obtain ⟨hc, hx⟩ := hx.1 rfl
        rw [hi.op] at hx hc
        exact aeff_ok hr hx (conds_rep he (fun t ht => hBo t (mem_opTmps.2 ht)) hc) (fun y h' w' v hk h1 h2 h3 => hK _ _ _ _ hk h1 h2 (put_dst hi (he.step h2) (fun _ => h3) (fun hc => by cases hc)) (defers_put _ _ _)) hP
      | false => rw [if_neg (by simp)]; exact hskip _ rfl (hx.2 rfl)

theorem EnvB.none {B : Nat → Prop} {tmps : Array Value} (he : EnvB h w N B e tmps) (hB : ∀ t, ¬ B t) : EnvRep h w N e tmps :=
  ⟨he.1, fun t c v ht => ⟨(he.2 t c v ht).1, .inr ((he.2 t c v ht).2.resolve_left (hB t))⟩⟩

end
end Go.Abs

/- From the program's code to ours, and regions in the order of the text. Over any program; no conditions. -/
namespace Go.Abs

def dstOk (N : Nat) (o : Oper) : Bool := match o.dst with
  | some d => decide (d < N)
  | none => true

def trOp (N : Nat) (ops : Array Oper) (o : Oper) : Option AOp :=
  bif dstOk N o then
    match o.guard with
    | none => some { dst := o.dst, op := o.op, guard := none }
    | some (j, want) => match (ops[j]?).bind (·.dst) with
      | some d => some { dst := o.dst, op := o.op, guard := some (d, want) }
      | none => none
  else none

theorem trOp_is {N : Nat} {ops : Array Oper} {o : Oper} {x : AOp} (h : trOp N ops o = some x) : OpIs ops N o x := by
  unfold trOp at h
  cases hd : dstOk N o with
  | false => rw [hd] at h; cases h
  | true =>
    rw [hd] at h
    simp only [cond_true] at h
    have hlt : ∀ d, o.dst = some d → d < N := fun d he => by
      unfold dstOk at hd
      rw [he] at hd
      simpa using hd
    split at h
    · rename_i hg
      injection h with h; subst h
      exact ⟨rfl, rfl, hlt, .inl ⟨hg, rfl⟩⟩
    · rename_i j want hg
      split at h
      · rename_i d hd2
        injection h with h; subst h
        exact ⟨rfl, rfl, hlt, .inr ⟨j, want, d, hg, hd2, rfl⟩⟩
      · cases h

def trOps (N : Nat) (ops : Array Oper) : List Oper → Option (List (AOp × List AOp))
  | [] => some []
  | o :: r => match trOp N ops o, trOps N ops r with
    | some x, some l => some ((x, []) :: l)
    | _, _ => none

section
variable {P : Program} {G : Nat → Option Obj} {N : Nat} {ops : Array Oper} {Q : AExit → Env → AHeap → Prop}

theorem aops_ok {D : List Deferred} {h0 : AHeap} {w0 : World} : ∀ (l : List Oper) (xs : List (AOp × List AOp)), trOps N ops l = some xs → ∀ (e : Env) (h : AHeap) (a : Act) (w : World), aops P G Q xs e h → Rel G h w → Step h0 w0 h w → EnvRep h w N e a.tmps → a.defers = D →
    wpList P ops (CQ D G h0 w0 N Q) l a w
  | [], xs, hx, e, h, a, w, hq, hr, hs, he, hd => by
    simp only [trOps, Option.some.injEq] at hx
    subst hx
    exact ⟨.normal, e, h, hq, rfl, hr, hs, he, hd⟩
  | o :: r, xs, hx, e, h, a, w, hq, hr, hs, he, hd => by
    simp only [trOps] at hx
    split at hx
    · rename_i x l h1 h2
      injection hx with hx
      subst hx
      unfold wpList
      have := aop1_ok (Kc := wpList P ops (CQ D G h0 w0 N Q) r) (Q := CQ D G h0 w0 N Q) (trOp_is h1) hr he (fun _ _ h => h) hq (fun e' h' a' w' hk k1 k2 k3 k4 => aops_ok r l h2 e' h' a' w' hk.2 k1 (hs.trans k2) (k3.none fun _ h => h.1) (k4.trans hd))
        (fun v h' w' u hk k1 k2 k3 => ⟨.panic v, [], h', hk, ⟨u, rfl, k3⟩, k1, hs.trans k2, ⟨he.1, fun t c v ht => by cases ht⟩, hd⟩)
      split
      · rename_i hw; rw [if_pos hw] at this; exact .inl this
      · rename_i hw; rw [if_neg hw] at this; exact this
    · cases hx

end

/-! ### regions that draw their order -/

def isEff (all : List AOp) (x : AOp) : Bool :=
  !quietOp x.op || (match x.op, x.dst with
    | .assign _, some d => all.any fun y => (readsOf y).contains d
    | _, _ => false)

/-- Which operations come before which: a bit for each. -/
def edgesOf (o : Oper) : List Nat := (o.after.toList.filter (Region.binds .any)).map (·.on)

def closeStep (acc : List Nat) (o : Oper) : List Nat := acc ++ [(edgesOf o).foldl (fun s k => s ||| 2 ^ k ||| acc.getD k 0) 0]

def closure (ops : List Oper) : List Nat := ops.foldl closeStep []

def bef (cl : List Nat) (k i : Nat) : Bool := (cl.getD i 0).testBit k

theorem or_bits (acc : List Nat) (m : Nat) : ∀ (ks : List Nat) (s : Nat), (ks.foldl (fun s k => s ||| 2 ^ k ||| acc.getD k 0) s).testBit m = true →
    s.testBit m = true ∨ ∃ k, k ∈ ks ∧ (k = m ∨ (acc.getD k 0).testBit m = true)
  | [], s, h => .inl h
  | k :: r, s, h => by
    simp only [List.foldl_cons] at h
    rcases or_bits acc m r _ h with h | ⟨j, hj, h⟩
    · rw [Nat.testBit_or, Nat.testBit_or, Nat.testBit_two_pow] at h
      simp only [Bool.or_eq_true, decide_eq_true_eq] at h
      rcases h with (h | h) | h
      · exact .inl h
      · exact .inr ⟨k, List.mem_cons_self, .inl h⟩
      · exact .inr ⟨k, List.mem_cons_self, .inr h⟩
    · exact .inr ⟨j, List.mem_cons_of_mem _ hj, h⟩

theorem closure_len (l : List Oper) : ∀ acc : List Nat, (l.foldl closeStep acc).length = acc.length + l.length := by
  induction l with
  | nil => intro acc; simp
  | cons o r ih => intro acc; simp only [List.foldl_cons]; rw [ih]; simp [closeStep]; omega

theorem foldl_close_get (l : List Oper) : ∀ (acc : List Nat) (i : Nat), i < acc.length → (l.foldl closeStep acc).getD i 0 = acc.getD i 0 := by
  induction l with
  | nil => intro acc i _; rfl
  | cons o r ih =>
    intro acc i hi
    simp only [List.foldl_cons]
    rw [ih _ i (by simp [closeStep]; omega)]
    simp only [closeStep, List.getD_eq_getElem?_getD]
    rw [List.getElem?_append_left hi]

/-- What a bit of the closure says. -/
theorem closure_bit (l : List Oper) : ∀ (acc : List Nat) (i m : Nat) (o : Oper), l[i]? = some o → ((l.foldl closeStep acc).getD (acc.length + i) 0).testBit m = true →
    ∃ k, k ∈ edgesOf o ∧ (k = m ∨ (k < acc.length + i ∧ ((l.foldl closeStep acc).getD k 0).testBit m = true)) := by
  induction l with
  | nil => intro acc i m o hi; simp at hi
  | cons p r ih =>
    intro acc i m o hi hb
    simp only [List.foldl_cons] at hb ⊢
    cases i with
    | zero =>
      simp at hi
      subst hi
      rw [Nat.add_zero, foldl_close_get r _ _ (by simp [closeStep])] at hb
      have : (closeStep acc p).getD acc.length 0 = (edgesOf p).foldl (fun s k => s ||| 2 ^ k ||| acc.getD k 0) 0 := by
        simp [closeStep, List.getD_eq_getElem?_getD]
      rw [this] at hb
      rcases or_bits acc m _ _ hb with h | ⟨k, hk, h⟩
      · simp at h
      · refine ⟨k, hk, h.imp id fun h => ?_⟩
        have hlt : k < acc.length := by
          rcases Nat.lt_or_ge k acc.length with h1 | h1
          · exact h1
          · rw [List.getD_eq_getElem?_getD, List.getElem?_eq_none h1] at h; simp at h
        refine ⟨by omega, ?_⟩
        rw [foldl_close_get r _ _ (by simp [closeStep]; omega)]
        simp only [closeStep, List.getD_eq_getElem?_getD]
        rw [List.getElem?_append_left hlt, ← List.getD_eq_getElem?_getD]
        exact h
    | succ i =>
      have := ih (closeStep acc p) i m o (by simpa using hi) (by simpa [closeStep, Nat.add_assoc, Nat.add_comm 1 i] using hb)
      obtain ⟨k, hk, h⟩ := this
      refine ⟨k, hk, h.imp id fun h => ⟨by simp [closeStep] at h; omega, h.2⟩⟩

def Closed (ops : Array Oper) (L : Nat → Bool) : Prop := ∀ i o, ops[i]? = some o → L i = true → ∀ k, k ∈ edgesOf o → L k = true

theorem closed_bef {ops : Array Oper} {L : Nat → Bool} (hc : Closed ops L) : ∀ (i k : Nat), L i = true → bef (closure ops.toList) k i = true → L k = true := by
  intro i
  induction i using Nat.strongRecOn with
  | _ i ih =>
    intro k hi hb
    unfold bef closure at hb
    have hlt : i < ops.toList.length := by
      rcases Nat.lt_or_ge i ops.toList.length with h1 | h1
      · exact h1
      · rw [List.getD_eq_getElem?_getD, List.getElem?_eq_none (by rw [closure_len]; simpa using h1)] at hb; simp at hb
    have ho : ops.toList[i]? = some ops.toList[i] := List.getElem?_eq_getElem hlt
    obtain ⟨j, hj, h⟩ := closure_bit ops.toList [] i k _ ho (by simpa using hb)
    have hLj := hc i ops.toList[i] (by simp) hi j hj
    rcases h with rfl | ⟨h1, h2⟩
    · exact hLj
    · exact ih j (by simpa using h1) k hLj h2

/-- An edge is a bit. -/
theorem bef_edge {ops : Array Oper} {i k : Nat} {o : Oper} (ho : ops[i]? = some o) (hk : k ∈ edgesOf o) : bef (closure ops.toList) k i = true := by
  have or_mono : ∀ (acc : List Nat) (ks : List Nat) (s m : Nat), s.testBit m = true → (ks.foldl (fun s k => s ||| 2 ^ k ||| acc.getD k 0) s).testBit m = true := by
    intro acc ks
    induction ks with
    | nil => intro s m h; exact h
    | cons j r ih => intro s m h; simp only [List.foldl_cons]; exact ih _ _ (by rw [Nat.testBit_or, Nat.testBit_or, h]; rfl)
  have or_mem : ∀ (acc : List Nat) (ks : List Nat) (s : Nat), k ∈ ks → (ks.foldl (fun s k => s ||| 2 ^ k ||| acc.getD k 0) s).testBit k = true := by
    intro acc ks
    induction ks with
    | nil => intro s h; cases h
    | cons j r ih =>
      intro s h
      simp only [List.foldl_cons]
      rcases List.mem_cons.1 h with rfl | h
      · exact or_mono acc r _ _ (by rw [Nat.testBit_or, Nat.testBit_or, Nat.testBit_two_pow]; simp)
      · exact ih _ h
  have key : ∀ (l : List Oper) (acc : List Nat) (i : Nat), l[i]? = some o → ((l.foldl closeStep acc).getD (acc.length + i) 0).testBit k = true := by
    intro l
    induction l with
    | nil => intro acc i h; simp at h
    | cons p r ih =>
      intro acc i h
      simp only [List.foldl_cons]
      cases i with
      | zero =>
        simp at h
        subst h
        rw [Nat.add_zero, foldl_close_get r _ _ (by simp [closeStep])]
        have : (closeStep acc p).getD acc.length 0 = (edgesOf p).foldl (fun s k => s ||| 2 ^ k ||| acc.getD k 0) 0 := by
          simp [closeStep, List.getD_eq_getElem?_getD]
        rw [this]
        exact or_mem acc _ _ hk
      | succ i =>
        have := ih (closeStep acc p) i (by simpa using h)
        simpa [closeStep, Nat.add_assoc, Nat.add_comm 1 i] using this
  have := key ops.toList [] i (by simpa using ho)
  simpa [bef, closure] using this

end Go.Abs
