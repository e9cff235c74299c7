/- Abstract values, what they stand for in a world, and what a step leaves of them. Over any program; no conditions. -/
import Derived.WalkKit
namespace Go.Abs

/-- How a slice may be appended to: not at all; its capacity is its length; it ends where its own row g ends; nil. -/
inductive Tag where
  | frz
  | full
  | own (g : Nat)
  | nl
  deriving DecidableEq

inductive AVal where
  | bool (b : Bool)
  | int (k : IntKind) (n : Int)
  | str (s : List UInt8)
  | ptr (g : Nat) (off : Nat)
  | nilptr
  | cptr (cells : List AVal)
  | sl (sz : Nat) (elems : List (List AVal)) (t : Tag)
  | func (fn : Fn) (first captured : List AVal)
  | nilfn
  | iface (t : TypeId) (v : AVal)
  | niliface
  | agg (cells : List AVal)
  | tuple (vs : List AVal)

instance : Inhabited AVal := ⟨.bool false⟩

/-- A value that takes one cell. -/
def AVal.one : AVal → Bool
  | .agg _ => false
  | .tuple _ => false
  | _ => true

/-- Managed memory: a variable whose cells are known, or a row that grows by append (of which 'len' cells are settled). -/
inductive AObj where
  | box (T : TypeId) (cells : List AVal)
  | row (T : TypeId) (len : Nat)

structure AHeap where
  get : Nat → Option AObj
  next : Nat

def AHeap.set (h : AHeap) (g : Nat) (o : AObj) : AHeap := { h with get := fun x => if x = g then some o else h.get x }
def AHeap.erase (h : AHeap) (g : Nat) : AHeap := { h with get := fun x => if x = g then none else h.get x }
def AHeap.new (h : AHeap) (g : Nat) (o : AObj) : AHeap := { get := fun x => if x = g then some o else h.get x, next := g + 1 }

/-- The cell at this address never changes any more. -/
def Imm (h : AHeap) (w : World) (a : Addr) : Prop :=
  a.block < w.heap.size ∧ (h.get a.block = none ∨ ∃ T len, h.get a.block = some (.row T len) ∧ a.off < len)

/-- Cells that stand in memory from an address on, and never change. -/
def Cells (h : AHeap) (w : World) (a : Addr) (n : Nat) : Prop := ∀ i, i < n → (∃ v, w.cell? (a.add i) = some v) ∧ Imm h w (a.add i)

def TagOk (h : AHeap) (w : World) (a : Addr) (n cap sz : Nat) : Tag → Prop
  | .frz => True
  | .full => cap = n
  | .own g => a = ⟨g, 0, none⟩ ∧ cap ≤ maxLen ∧ (∃ vs T f, w.heap[g]? = some (.cells vs T f) ∧ vs.size = cap * sz) ∧ ∀ T cs, h.get g ≠ some (.box T cs)
  | .nl => False

inductive Rep (h : AHeap) (w : World) : AVal → Value → Prop where
  | bool (b : Bool) : Rep h w (.bool b) (.bool b)
  | int (k : IntKind) (n : Int) : Rep h w (.int k n) (.int k n)
  | str (s : ByteArray) : Rep h w (.str s.data.toList) (.string s)
  | ptr (g off : Nat) : Rep h w (.ptr g off) (.pointer (some ⟨g, off, none⟩))
  | nilptr : Rep h w .nilptr (.pointer none)
  | cptr (cells : List AVal) (a : Addr) (ha : a.spot = none) (hc : Cells h w a cells.length)
      (hr : ∀ i c v, cells[i]? = some c → w.cell? (a.add i) = some v → Rep h w c v) (ho : ∀ c, c ∈ cells → c.one = true) : Rep h w (.cptr cells) (.pointer (some a))
  | slnl (sz : Nat) : Rep h w (.sl sz [] .nl) (.slice none 0 0)
  | slnil (sz : Nat) : Rep h w (.sl sz [] .frz) (.slice none 0 0)
  | sl (sz : Nat) (elems : List (List AVal)) (t : Tag) (a : Addr) (cap : Nat) (ha : a.spot = none) (hcap : elems.length ≤ cap) (hsz : ∀ es, es ∈ elems → es.length = sz)
      (hc : Cells h w a (elems.length * sz))
      (hr : ∀ (i j : Nat) (es : List AVal) (c : AVal) (v : Value), elems[i]? = some es → es[j]? = some c → w.cell? (a.add (i * sz + j)) = some v → Rep h w c v) (ho : ∀ es c, es ∈ elems → c ∈ es → c.one = true)
      (ht : TagOk h w a elems.length cap sz t) : Rep h w (.sl sz elems t) (.slice (some a) elems.length cap)
  | func (fn : Fn) (first captured : List AVal) (vf vc : List Value) (hf : vf.length = first.length) (hc : vc.length = captured.length)
      (hrf : ∀ (i : Nat) (c : AVal) (v : Value), first[i]? = some c → vf[i]? = some v → Rep h w c v) (hrc : ∀ (i : Nat) (c : AVal) (v : Value), captured[i]? = some c → vc[i]? = some v → Rep h w c v) :
      Rep h w (.func fn first captured) (.func fn vf.toArray vc.toArray)
  | nilfn : Rep h w .nilfn .nilFunc
  | iface (t : TypeId) (x : AVal) (v : Value) (hr : Rep h w x v) : Rep h w (.iface t x) (.iface t v)
  | niliface : Rep h w .niliface .nilIface
  | agg (cells : List AVal) (vs : List Value) (hl : vs.length = cells.length) (hr : ∀ (i : Nat) (c : AVal) (v : Value), cells[i]? = some c → vs[i]? = some v → Rep h w c v) (ho : ∀ c, c ∈ cells → c.one = true) :
      Rep h w (.agg cells) (.agg vs.toArray)
  | tuple (xs : List AVal) (vs : List Value) (hl : vs.length = xs.length) (hr : ∀ (i : Nat) (c : AVal) (v : Value), xs[i]? = some c → vs[i]? = some v → Rep h w c v) : Rep h w (.tuple xs) (.tuple vs.toArray)

/-- A list of values, one by one. -/
def Reps (h : AHeap) (w : World) (xs : List AVal) (vs : List Value) : Prop := vs.length = xs.length ∧ ∀ (i : Nat) (c : AVal) (v : Value), xs[i]? = some c → vs[i]? = some v → Rep h w c v

/-- What is managed is as h says; G: blocks of the program's own that never change. -/
structure Rel (G : Nat → Option Obj) (h : AHeap) (w : World) : Prop where
  wf : ∀ g o, h.get g = some o → g < h.next
  nxt : h.next ≤ w.heap.size
  box : ∀ g T cells, h.get g = some (.box T cells) → ∃ vs : List Value, w.heap[g]? = some (.cells vs.toArray T (0, 0)) ∧ Reps h w cells vs ∧ ∀ c, c ∈ cells → c.one = true
  row : ∀ g T len, h.get g = some (.row T len) → ∃ vs : Array Value, w.heap[g]? = some (.cells vs T (0, 0)) ∧ len ≤ vs.size
  glob : ∀ g o, G g = some o → w.heap[g]? = some o ∧ h.get g = none

/-- What a piece of the run may turn. -/
structure Step (h : AHeap) (w : World) (h' : AHeap) (w' : World) : Prop where
  os : w'.os = w.os
  tape : w'.tape = w.tape
  output : w'.output = w.output
  size : w.heap.size ≤ w'.heap.size
  free : ∀ g, g < w.heap.size → h.get g = none → w'.heap[g]? = w.heap[g]? ∧ h'.get g = none
  row : ∀ g T len, g < w.heap.size → h.get g = some (.row T len) → ∃ (vs vs' : Array Value) (f : Nat × Nat), w.heap[g]? = some (.cells vs T (0, 0)) ∧ w'.heap[g]? = some (.cells vs' T f) ∧ vs'.size = vs.size ∧ (∀ i, i < len → vs'[i]? = vs[i]?) ∧
    (h'.get g = none ∨ f = (0, 0) ∧ ∃ len', len ≤ len' ∧ h'.get g = some (.row T len'))
  box : ∀ g T cs, g < w.heap.size → h.get g = some (.box T cs) → h'.get g = none ∨ ∃ cs', h'.get g = some (.box T cs')

theorem Step.refl {G : Nat → Option Obj} {h : AHeap} {w : World} (hr : Rel G h w) : Step h w h w where
  os := rfl
  tape := rfl
  output := rfl
  size := Nat.le_refl _
  free := fun _ _ h => ⟨rfl, h⟩
  row := fun g T len _ hg => by
    obtain ⟨vs, h1, _⟩ := hr.row g T len hg
    exact ⟨vs, vs, (0, 0), h1, h1, rfl, fun _ _ => rfl, .inr ⟨rfl, len, Nat.le_refl _, hg⟩⟩
  box := fun g T cs _ hg => .inr ⟨cs, hg⟩

theorem Step.trans {h1 h2 h3 : AHeap} {w1 w2 w3 : World} (a : Step h1 w1 h2 w2) (b : Step h2 w2 h3 w3) : Step h1 w1 h3 w3 where
  os := b.os.trans a.os
  tape := b.tape.trans a.tape
  output := b.output.trans a.output
  size := Nat.le_trans a.size b.size
  free := fun g hg hn => by
    obtain ⟨e1, n1⟩ := a.free g hg hn
    obtain ⟨e2, n2⟩ := b.free g (Nat.lt_of_lt_of_le hg a.size) n1
    exact ⟨e2.trans e1, n2⟩
  row := fun g T len hg hh => by
    obtain ⟨vs, vs', fz, e1, e2, e3, e4, e5⟩ := a.row g T len hg hh
    have hg2 := Nat.lt_of_lt_of_le hg a.size
    rcases e5 with e5 | ⟨rfl, len', hl, e5⟩
    · obtain ⟨f1, f2⟩ := b.free g hg2 e5
      exact ⟨vs, vs', fz, e1, f1.trans e2, e3, e4, .inl f2⟩
    · obtain ⟨us, us', fz', f1, f2, f3, f4, f5⟩ := b.row g T len' hg2 e5
      rw [e2] at f1
      injection f1 with f1
      injection f1 with f1
      subst f1
      refine ⟨vs, us', fz', e1, f2, f3.trans e3, fun i hi => (f4 i (by omega)).trans (e4 i hi), ?_⟩
      rcases f5 with f5 | ⟨hz, l3, hl3, f5⟩
      · exact .inl f5
      · exact .inr ⟨hz, l3, by omega, f5⟩
  box := fun g T cs hg hh => by
    have hg2 := Nat.lt_of_lt_of_le hg a.size
    rcases a.box g T cs hg hh with e | ⟨cs', e⟩
    · exact .inl (b.free g hg2 e).2
    · exact b.box g T cs' hg2 e

theorem block_add (a : Addr) (i : Nat) : (a.add i).block = a.block := by unfold Addr.add; split <;> rfl
theorem off_add (a : Addr) (i : Nat) : (a.add i).off = a.off + i := by unfold Addr.add; split <;> simp_all
theorem spot_add (a : Addr) (i : Nat) (h : a.spot = none) : (a.add i).spot = none := by unfold Addr.add; split <;> simp_all

theorem cell_of {w : World} {a : Addr} (hs : a.spot = none) {vs : Array Value} {T : TypeId} {f : Nat × Nat} (h : w.heap[a.block]? = some (.cells vs T f)) : w.cell? a = vs[a.off]? := by
  simp [World.cell?, h, hs]

/-- A cell that never changes does not. -/
theorem Imm.step {h h' : AHeap} {w w' : World} {a : Addr} (hi : Imm h w a) (hs : Step h w h' w') (ha : a.spot = none) : w'.cell? a = w.cell? a ∧ Imm h' w' a := by
  obtain ⟨hb, hi⟩ := hi
  rcases hi with hn | ⟨T, len, hg, ho⟩
  · obtain ⟨e, n⟩ := hs.free _ hb hn
    exact ⟨by simp [World.cell?, e], Nat.lt_of_lt_of_le hb hs.size, .inl n⟩
  · obtain ⟨vs, vs', fz, e1, e2, _, e4, e5⟩ := hs.row _ T len hb hg
    refine ⟨by rw [cell_of ha e1, cell_of ha e2, e4 _ ho], Nat.lt_of_lt_of_le hb hs.size, ?_⟩
    rcases e5 with e5 | ⟨_, l', hl, e5⟩
    · exact .inl e5
    · exact .inr ⟨T, l', e5, by omega⟩

theorem Cells.step {h h' : AHeap} {w w' : World} {a : Addr} {n : Nat} (hc : Cells h w a n) (hs : Step h w h' w') (ha : a.spot = none) : Cells h' w' a n ∧ ∀ i, i < n → w'.cell? (a.add i) = w.cell? (a.add i) := by
  have k : ∀ i, i < n → w'.cell? (a.add i) = w.cell? (a.add i) ∧ Imm h' w' (a.add i) := fun i hi => (hc i hi).2.step hs (spot_add _ _ ha)
  exact ⟨fun i hi => ⟨by rw [(k i hi).1]; exact (hc i hi).1, (k i hi).2⟩, fun i hi => (k i hi).1⟩

theorem TagOk.step {h h' : AHeap} {w w' : World} {a : Addr} {n cap sz : Nat} {t : Tag} (ht : TagOk h w a n cap sz t) (hs : Step h w h' w') : TagOk h' w' a n cap sz t := by
  cases t with
  | frz => trivial
  | full => exact ht
  | nl => exact ht
  | own g =>
    obtain ⟨ha, hm, ⟨vs, T, fz, hv, hz⟩, hb⟩ := ht
    have hg : g < w.heap.size := (Array.getElem?_eq_some_iff.1 hv).1
    refine ⟨ha, hm, ?_, ?_⟩
    · cases hh : h.get g with
      | none => exact ⟨vs, T, fz, (hs.free g hg hh).1.trans hv, hz⟩
      | some o =>
        cases o with
        | box T' cs => exact absurd hh (hb T' cs)
        | row T' len =>
          obtain ⟨us, us', fz', e1, e2, e3, _, _⟩ := hs.row g T' len hg hh
          rw [hv] at e1
          injection e1 with e1
          injection e1 with e1 _ _
          subst e1
          exact ⟨us', T', fz', e2, e3.trans hz⟩
    · intro T' cs hh'
      cases hh : h.get g with
      | none => rw [(hs.free g hg hh).2] at hh'; cases hh'
      | some o =>
        cases o with
        | box T' cs => exact absurd hh (hb T' cs)
        | row T' len =>
          obtain ⟨us, us', fz', e1, e2, e3, _, e5⟩ := hs.row g T' len hg hh
          rcases e5 with e5 | ⟨_, l, _, e5⟩
          · rw [e5] at hh'; cases hh'
          · rw [e5] at hh'; cases hh'

/-- WHAT AN ABSTRACT VALUE STANDS FOR IS KEPT BY EVERY STEP. -/
theorem Rep.step {h h' : AHeap} {w w' : World} (hs : Step h w h' w') {x : AVal} {v : Value} (hr : Rep h w x v) : Rep h' w' x v := by
  induction hr with
  | bool b => exact .bool b
  | int k n => exact .int k n
  | str s => exact .str s
  | ptr g o => exact .ptr g o
  | nilptr => exact .nilptr
  | cptr cells a ha hc _ ho ih =>
    obtain ⟨hc', he⟩ := hc.step hs ha
    exact .cptr cells a ha hc' (fun i c v hi hv => ih i c v hi (by rwa [he i (List.getElem?_eq_some_iff.1 hi).1] at hv)) ho
  | slnl sz => exact .slnl sz
  | slnil sz => exact .slnil sz
  | sl sz elems t a cap ha hcap hsz hc _ ho ht ih =>
    obtain ⟨hc', he⟩ := hc.step hs ha
    refine .sl sz elems t a cap ha hcap hsz hc' (fun i j es c v hi hj hv => ih i j es c v hi hj ?_) ho (ht.step hs)
    have h1 := (List.getElem?_eq_some_iff.1 hi).1
    have h2 := (List.getElem?_eq_some_iff.1 hj).1
    have h3 := hsz es (List.mem_of_getElem? hi)
    rw [he] at hv
    · exact hv
    · have : i * sz + sz ≤ elems.length * sz := by rw [← Nat.succ_mul]; exact Nat.mul_le_mul_right _ h1
      omega
  | func fn first captured vf vc hf hc _ _ ih1 ih2 => exact .func fn first captured vf vc hf hc ih1 ih2
  | nilfn => exact .nilfn
  | iface t x v _ ih => exact .iface t x v ih
  | niliface => exact .niliface
  | agg cells vs hl _ ho ih => exact .agg cells vs hl ih ho
  | tuple xs vs hl _ ih => exact .tuple xs vs hl ih

/-- A value of fewer tags stands for the same. -/
inductive Weak : AVal → AVal → Prop where
  | refl (x : AVal) : Weak x x
  | cptr (xs ys : List AVal) (hl : xs.length = ys.length) (hw : ∀ (i : Nat) (x y : AVal), xs[i]? = some x → ys[i]? = some y → Weak x y) : Weak (.cptr xs) (.cptr ys)
  | nil (sz sz' : Nat) (t : Tag) (t' : Tag) (ht : t' = t ∨ t' = .frz) (hn : t = .nl ∨ sz = sz') : Weak (.sl sz [] t) (.sl sz' [] t')
  | sl (sz : Nat) (xs ys : List (List AVal)) (t t' : Tag) (ht : t' = t ∨ t' = .frz) (hl : xs.length = ys.length) (hll : ∀ (i : Nat) (x y : List AVal), xs[i]? = some x → ys[i]? = some y → x.length = y.length)
      (hw : ∀ (i j : Nat) (xx yy : List AVal) (x y : AVal), xs[i]? = some xx → ys[i]? = some yy → xx[j]? = some x → yy[j]? = some y → Weak x y) : Weak (.sl sz xs t) (.sl sz ys t')
  | iface (t : TypeId) (x y : AVal) (hw : Weak x y) : Weak (.iface t x) (.iface t y)
  | agg (xs ys : List AVal) (hl : xs.length = ys.length) (hw : ∀ (i : Nat) (x y : AVal), xs[i]? = some x → ys[i]? = some y → Weak x y) : Weak (.agg xs) (.agg ys)
  | tuple (xs ys : List AVal) (hl : xs.length = ys.length) (hw : ∀ (i : Nat) (x y : AVal), xs[i]? = some x → ys[i]? = some y → Weak x y) : Weak (.tuple xs) (.tuple ys)

theorem Weak.one {x y : AVal} (h : Weak x y) : y.one = x.one := by cases h <;> rfl

theorem TagOk.weak {h : AHeap} {w : World} {a : Addr} {n cap sz : Nat} {t t' : Tag} (ht : TagOk h w a n cap sz t) (hw : t' = t ∨ t' = .frz) : TagOk h w a n cap sz t' := by
  rcases hw with rfl | rfl
  · exact ht
  · trivial

theorem get_of_len {α β : Type} {xs : List α} {ys : List β} (hl : xs.length = ys.length) {i : Nat} {y : β} (hy : ys[i]? = some y) : ∃ x, xs[i]? = some x :=
  ⟨_, List.getElem?_eq_getElem (by rw [hl]; exact (List.getElem?_eq_some_iff.1 hy).1)⟩

theorem one_of_weak {xs ys : List AVal} (hl : xs.length = ys.length) (hw : ∀ (i : Nat) (x y : AVal), xs[i]? = some x → ys[i]? = some y → Weak x y) (ho : ∀ c, c ∈ xs → c.one = true) : ∀ c, c ∈ ys → c.one = true := by
  intro c hc
  obtain ⟨i, hi⟩ := List.getElem?_of_mem hc
  obtain ⟨x, hx⟩ := get_of_len hl hi
  rw [(hw i x c hx hi).one]
  exact ho x (List.mem_of_getElem? hx)

theorem Rep.weak {h : AHeap} {w : World} {x : AVal} {v : Value} (hr : Rep h w x v) : ∀ {y : AVal}, Weak x y → Rep h w y v := by
  induction hr with
  | bool b => intro y hw; cases hw; exact .bool b
  | int k n => intro y hw; cases hw; exact .int k n
  | str s => intro y hw; cases hw; exact .str s
  | ptr g o => intro y hw; cases hw; exact .ptr g o
  | nilptr => intro y hw; cases hw; exact .nilptr
  | cptr cells a ha hc hr ho ih =>
    intro y hw
    cases hw with
    | refl => exact .cptr cells a ha hc hr ho
    | cptr _ ys hl hw =>
      refine .cptr ys a ha (by rw [← hl]; exact hc) (fun i c v hi hv => ?_) (one_of_weak hl hw ho)
      obtain ⟨x, hx⟩ := get_of_len hl hi
      exact ih i x v hx hv (hw i x c hx hi)
  | slnl sz =>
    intro y hw
    cases hw with
    | refl => exact .slnl sz
    | nil _ sz' t t' ht hn =>
      rcases ht with rfl | rfl
      · exact .slnl _
      · exact .slnil _
    | sl _ _ ys t t' ht hl hll hw =>
      obtain rfl : ys = [] := List.length_eq_zero_iff.1 hl.symm
      rcases ht with rfl | rfl
      · exact .slnl _
      · exact .slnil _
  | slnil sz =>
    intro y hw
    cases hw with
    | refl => exact .slnil sz
    | nil _ sz' t t' ht hn =>
      rcases ht with rfl | rfl
      · exact .slnil _
      · exact .slnil _
    | sl _ _ ys t t' ht hl hll hw =>
      obtain rfl : ys = [] := List.length_eq_zero_iff.1 hl.symm
      rcases ht with rfl | rfl
      · exact .slnil _
      · exact .slnil _
  | sl sz elems t a cap ha hcap hsz hc hr ho ht ih =>
    intro y hw
    cases hw with
    | refl => exact .sl sz elems t a cap ha hcap hsz hc hr ho ht
    | nil _ sz' t t' htt hn =>
      rcases hn with rfl | rfl
      · exact ht.elim
      · exact .sl _ [] t' a cap ha hcap (fun _ h => by cases h) hc (fun i j es c v hi => by simp at hi) (fun _ _ h => by cases h) (ht.weak htt)
    | sl _ _ ys t t' htt hl hll hw =>
      have hsz' : ∀ es, es ∈ ys → es.length = sz := fun es he => by
        obtain ⟨i, hi⟩ := List.getElem?_of_mem he
        obtain ⟨x, hx⟩ := get_of_len hl hi
        rw [← hll i x es hx hi]
        exact hsz x (List.mem_of_getElem? hx)
      rw [hl] at hcap hc ht ⊢
      refine .sl sz ys t' a cap ha hcap hsz' hc (fun i j es c v hi hj hv => ?_) (fun es c he hce => ?_) (ht.weak htt)
      · obtain ⟨x, hx⟩ := get_of_len hl hi
        obtain ⟨u, hu⟩ := get_of_len (hll i x es hx hi) hj
        exact ih i j x u v hx hu hv (hw i j x es u c hx hi hu hj)
      · obtain ⟨i, hi⟩ := List.getElem?_of_mem he
        obtain ⟨x, hx⟩ := get_of_len hl hi
        exact one_of_weak (hll i x es hx hi) (fun j u c hu hc => hw i j x es u c hx hi hu hc) (fun c hc => ho x c (List.mem_of_getElem? hx) hc) c hce
  | func fn first captured vf vc hf hc hrf hrc _ _ => intro y hw; cases hw; exact .func fn first captured vf vc hf hc hrf hrc
  | nilfn => intro y hw; cases hw; exact .nilfn
  | iface t x v hr ih =>
    intro y hw
    cases hw with
    | refl => exact .iface t x v hr
    | iface _ _ y hw => exact .iface t y v (ih hw)
  | niliface => intro y hw; cases hw; exact .niliface
  | agg cells vs hl hr ho ih =>
    intro y hw
    cases hw with
    | refl => exact .agg cells vs hl hr ho
    | agg _ ys hl' hw =>
      refine .agg ys vs (hl.trans hl') (fun i c v hi hv => ?_) (one_of_weak hl' hw ho)
      obtain ⟨x, hx⟩ := get_of_len hl' hi
      exact ih i x v hx hv (hw i x c hx hi)
  | tuple xs vs hl hr ih =>
    intro y hw
    cases hw with
    | refl => exact .tuple xs vs hl hr
    | tuple _ ys hl' hw =>
      refine .tuple ys vs (hl.trans hl') (fun i c v hi hv => ?_)
      obtain ⟨x, hx⟩ := get_of_len hl' hi
      exact ih i x v hx hv (hw i x c hx hi)

def WeakL (xs ys : List AVal) : Prop := xs.length = ys.length ∧ ∀ (i : Nat) (x y : AVal), xs[i]? = some x → ys[i]? = some y → Weak x y
theorem WeakL.refl (xs : List AVal) : WeakL xs xs := ⟨rfl, fun i x y h h' => by rw [h] at h'; injection h' with h'; subst h'; exact .refl x⟩
theorem WeakL.nil : WeakL [] [] := .refl []
theorem WeakL.cons {x y : AVal} {xs ys : List AVal} (h : Weak x y) (hs : WeakL xs ys) : WeakL (x :: xs) (y :: ys) := by
  refine ⟨by simp [hs.1], fun i a b ha hb => ?_⟩
  cases i with
  | zero => simp at ha hb; subst ha; subst hb; exact h
  | succ i => exact hs.2 i a b (by simpa using ha) (by simpa using hb)
theorem WeakL.agg {xs ys : List AVal} (h : WeakL xs ys) : Weak (.agg xs) (.agg ys) := .agg xs ys h.1 h.2
theorem WeakL.tuple {xs ys : List AVal} (h : WeakL xs ys) : Weak (.tuple xs) (.tuple ys) := .tuple xs ys h.1 h.2

theorem Reps.weak {h : AHeap} {w : World} {xs ys : List AVal} {vs : List Value} (hr : Reps h w xs vs) (hw : WeakL xs ys) : Reps h w ys vs := by
  refine ⟨hr.1.trans hw.1, fun i c v hi hv => ?_⟩
  obtain ⟨x, hx⟩ := get_of_len hw.1 hi
  exact (hr.2 i x v hx hv).weak (hw.2 i x c hx hi)

theorem Reps.step {h h' : AHeap} {w w' : World} (hs : Step h w h' w') {xs : List AVal} {vs : List Value} (hr : Reps h w xs vs) : Reps h' w' xs vs := ⟨hr.1, fun i c v hi hv => (hr.2 i c v hi hv).step hs⟩

end Go.Abs

/- What one operation that writes nothing does to abstract values, and that the machine does the same. Over any program; no conditions. -/
namespace Go.Abs

inductive AK where
  | bool
  | int (k : IntKind)
  | str
  | ptr
  | sl (e : TypeId)
  | st (fs : List (TypeId × Nat × Nat))
  | arr (n : Nat) (e : TypeId)
  | fn
  | ifc
  | bad
  | other

def AK.agg : AK → Bool
  | .st _ => true
  | .arr .. => true
  | .bad => true
  | _ => false

structure TI where
  size : Nat
  bytes : Nat
  kind : AK
  zero : Option (List AVal)

def aconst1 : Value → Option AVal
  | .bool b => some (.bool b)
  | .int k n => some (.int k n)
  | .string ⟨⟨s⟩⟩ => some (.str s)
  | .pointer none => some .nilptr
  | .slice none 0 0 => some (.sl 0 [] .nl)
  | .nilFunc => some .nilfn
  | .nilIface => some .niliface
  | _ => none

def aconsts : List Value → Option (List AVal)
  | [] => some []
  | v :: r => match aconst1 v, aconsts r with
    | some x, some l => some (x :: l)
    | _, _ => none

def aconst : Value → Option AVal
  | .agg cs => (aconsts cs.toList).map .agg
  | v => aconst1 v

def cellsOf (P : Program) (t : TypeId) : Nat := match P.info? t with | some i => i.size | none => 0

def akOf (P : Program) : TypeDesc → AK
  | .bool => .bool
  | .int k => .int k
  | .string => .str
  | .pointer _ => .ptr
  | .slice e => .sl e
  | .struct fs => if fs.toList.all (fun f => (P.info? f.type).isSome) then .st (fs.toList.map fun f => (f.type, f.offset, cellsOf P f.type)) else .bad
  | .array n e => .arr n e
  | .func .. => .fn
  | .interface _ => .ifc
  | _ => .other

def tyi (P : Program) (t : TypeId) : Option TI :=
  match P.info? t, P.underlying t with
  | some i, some d => some { size := i.size, bytes := i.bytes, kind := akOf P d, zero := match i.zero with | some z => aconsts z.cells.toList | none => none }
  | _, _ => none

theorem tyi_some {P : Program} {t : TypeId} {i : TI} (h : tyi P t = some i) : ∃ (I : TypeInfo) (d : TypeDesc), P.info? t = some I ∧ P.underlying t = some d ∧ I.size = i.size ∧ I.bytes = i.bytes ∧ akOf P d = i.kind ∧
    (∀ z, i.zero = some z → ∃ v, I.zero = some v ∧ aconsts v.cells.toList = some z) := by
  unfold tyi at h
  split at h
  · rename_i I d hI hd
    injection h with h
    subst h
    refine ⟨I, d, hI, hd, rfl, rfl, rfl, fun z hz => ?_⟩
    dsimp only at hz
    split at hz
    · rename_i v hv; exact ⟨v, hv, hz⟩
    · cases hz
  · cases h

theorem aconst1_rep {h : AHeap} {w : World} {v : Value} {x : AVal} (hv : aconst1 v = some x) : Rep h w x v := by
  unfold aconst1 at hv
  split at hv <;> (try cases hv)
  · exact .bool _
  · exact .int _ _
  · rename_i s; exact Rep.str ⟨⟨s⟩⟩
  · exact .nilptr
  · exact .slnl _
  · exact .nilfn
  · exact .niliface

theorem aconst1_one {v : Value} {x : AVal} (hv : aconst1 v = some x) : x.one = true := by
  unfold aconst1 at hv
  split at hv <;> (try cases hv) <;> rfl

theorem aconsts_reps {h : AHeap} {w : World} : ∀ {vs : List Value} {xs : List AVal}, aconsts vs = some xs → Reps h w xs vs ∧ ∀ c, c ∈ xs → c.one = true
  | [], xs, hv => by simp only [aconsts] at hv; injection hv with hv; subst hv; exact ⟨⟨rfl, fun i c v hi => by simp at hi⟩, fun c hc => by cases hc⟩
  | v :: r, xs, hv => by
    simp only [aconsts] at hv
    split at hv
    · rename_i x l hx hl
      injection hv with hv
      subst hv
      obtain ⟨⟨h1, h2⟩, h3⟩ := aconsts_reps (h := h) (w := w) hl
      refine ⟨⟨by simp [h1], fun i c u hi hu => ?_⟩, fun c hc => ?_⟩
      · cases i with
        | zero => simp at hi hu; subst hi; subst hu; exact aconst1_rep hx
        | succ i => exact h2 i c u (by simpa using hi) (by simpa using hu)
      · rcases List.mem_cons.1 hc with rfl | hc
        · exact aconst1_one hx
        · exact h3 c hc
    · cases hv

theorem aconst_rep {h : AHeap} {w : World} {v : Value} {x : AVal} (hv : aconst v = some x) : Rep h w x v := by
  unfold aconst at hv
  split at hv
  · rename_i cs
    obtain ⟨l, hl, rfl⟩ := Option.map_eq_some_iff.1 hv
    obtain ⟨⟨h1, h2⟩, h3⟩ := aconsts_reps (h := h) (w := w) hl
    have := Rep.agg (h := h) (w := w) l cs.toList h1 h2 h3
    simpa using this
  · exact aconst1_rep hv

def AVal.cells : AVal → List AVal
  | .agg cs => cs
  | v => [v]

theorem Rep.cells {h : AHeap} {w : World} {x : AVal} {v : Value} (hr : Rep h w x v) (ht : ∀ l, x ≠ .tuple l) : Reps h w x.cells v.cells.toList ∧ ∀ c, c ∈ x.cells → c.one = true := by
  have key : x.one = true → v.cells = #[v] → Reps h w [x] v.cells.toList ∧ ∀ c, c ∈ [x] → c.one = true := fun h1 h2 => by
    rw [h2]
    refine ⟨⟨rfl, fun i c u hi hu => ?_⟩, fun c hc => by simp at hc; subst hc; exact h1⟩
    cases i with
    | zero => simp at hi hu; subst hi; subst hu; exact hr
    | succ i => simp at hi
  cases hr with
  | agg cells vs hl hr ho => exact ⟨by simpa [Value.cells, AVal.cells, Reps] using ⟨hl, hr⟩, ho⟩
  | tuple xs vs hl hr => exact absurd rfl (ht xs)
  | _ => exact key rfl rfl

/-- The one-cell values stand for one-cell values. -/
theorem Rep.one {h : AHeap} {w : World} {x : AVal} {v : Value} (hr : Rep h w x v) (ho : x.one = true) : v.oneCell' = true := by
  cases hr <;> first | rfl | cases ho

/-! ### reading cells -/

def aload (i : TI) (cs : List AVal) : Option AVal :=
  if i.kind.agg then (if i.size ≤ cs.length then some (.agg (cs.take i.size)) else none) else cs.head?

def ACellsAt (h : AHeap) : AVal → Option (List AVal)
  | .ptr g off => match h.get g with
    | some (.box _ cs) => if off ≤ cs.length then some (cs.drop off) else none
    | _ => none
  | .cptr cs => some cs
  | _ => none

def aparts (ρ : Operand → Option AVal) : List (Nat × Operand) → Option (List (Nat × AVal))
  | [] => some []
  | (i, x) :: r => match ρ x, aparts ρ r with
    | some v, some l => some ((i, v) :: l)
    | _, _ => none

def setCells (cs : List AVal) (off : Nat) (xs : List AVal) : List AVal := cs.take off ++ xs ++ cs.drop (off + xs.length)

def isTuple : AVal → Bool
  | .tuple _ => true
  | _ => false

def afill (fs : List (TypeId × Nat × Nat)) : List AVal → List (Nat × AVal) → Option (List AVal)
  | cs, [] => some cs
  | cs, (i, v) :: r => match fs[i]? with
    | some (_, off, size) => if v.cells.length = size ∧ off + size ≤ cs.length ∧ isTuple v = false then afill fs (setCells cs off v.cells) r else none
    | none => none

/-- The places of an array's elements. -/
def arrFs (n : Nat) (e : TypeId) (sz : Nat) : List (TypeId × Nat × Nat) := (List.range n).map fun i => (e, i * sz, sz)

/-- The elements of a slice literal: all of them, in order. -/
def aelems (sz : Nat) : Nat → List (Nat × AVal) → Option (List (List AVal))
  | _, [] => some []
  | n, (i, v) :: r => if i = n ∧ v.cells.length = sz ∧ isTuple v = false then (aelems sz (n + 1) r).map (v.cells :: ·) else none

def avals (ρ : Operand → Option AVal) : List Operand → Option (List AVal)
  | [] => some []
  | x :: r => match ρ x, avals ρ r with
    | some v, some l => some (v :: l)
    | _, _ => none

/-! ### arithmetic -/

def aint (op : BinOp) (k : IntKind) (a b : Int) : Option (Prop × AVal) :=
  match op with
  | .add => some (True, .int k (k.wrap (a + b)))
  | .sub => some (True, .int k (k.wrap (a - b)))
  | .mul => some (True, .int k (k.wrap (a * b)))
  | .quo => some (b ≠ 0, .int k (k.wrap (a.tdiv b)))
  | .rem => some (b ≠ 0, .int k (a.tmod b))
  | .and => some (True, .int k (k.wrap (BitVec.ofInt k.bits a &&& BitVec.ofInt k.bits b).toNat))
  | .or => some (True, .int k (k.wrap (BitVec.ofInt k.bits a ||| BitVec.ofInt k.bits b).toNat))
  | .xor => some (True, .int k (k.wrap (BitVec.ofInt k.bits a ^^^ BitVec.ofInt k.bits b).toNat))
  | .andNot => some (True, .int k (k.wrap (BitVec.ofInt k.bits a &&& ~~~BitVec.ofInt k.bits b).toNat))
  | .eql => some (True, .bool (a == b))
  | .neq => some (True, .bool (a != b))
  | .lss => some (True, .bool (decide (a < b)))
  | .leq => some (True, .bool (decide (a ≤ b)))
  | .gtr => some (True, .bool (decide (a > b)))
  | .geq => some (True, .bool (decide (a ≥ b)))
  | _ => none

def astr (op : BinOp) (a b : List UInt8) : Option (Prop × AVal) :=
  match op with
  | .add => some (a.length + b.length ≤ 9223372036854775807, .str (a ++ b))
  | .eql => some (True, .bool (a == b))
  | .neq => some (True, .bool !(a == b))
  | .lss => some (True, .bool (Op.bytesLess a b))
  | .leq => some (True, .bool (Op.bytesLess a b || a == b))
  | .gtr => some (True, .bool !(Op.bytesLess a b || a == b))
  | .geq => some (True, .bool !(Op.bytesLess a b))
  | _ => none

/-- Cells of a struct of numbers, Booleans and strings: their kinds, and whether they are equal. -/
def aeqs : List AVal → List AVal → Option (List AK × Bool)
  | [], [] => some ([], true)
  | .int k a :: xs, .int k' b :: ys => match aeqs xs ys with
    | some (ks, r) => if k = k' then some (.int k :: ks, (a == b) && r) else none
    | none => none
  | .bool a :: xs, .bool b :: ys => match aeqs xs ys with
    | some (ks, r) => some (.bool :: ks, (a == b) && r)
    | none => none
  | .str a :: xs, .str b :: ys => match aeqs xs ys with
    | some (ks, r) => some (.str :: ks, (a == b) && r)
    | none => none
  | _, _ => none

def eqFieldOk (P : Program) (f : Field) (i : Nat) (k : AK) : Bool := f.name != "_" && f.offset == i && (match P.underlying f.type, k with
  | some (.int _), .int _ => true
  | some .bool, .bool => true
  | some .string, .str => true
  | _, _ => false)
def eqFieldsOk (P : Program) : Nat → List Field → List AK → Bool
  | _, [], [] => true
  | i, f :: fs, k :: ks => eqFieldOk P f i k && eqFieldsOk P (i + 1) fs ks
  | _, _, _ => false
def eqTy (P : Program) (T : TypeId) (ks : List AK) : Bool := (match P.underlying T with
  | some (.struct fs) => eqFieldsOk P 0 fs.toList ks
  | _ => false) && !P.stoodInHeld T && !P.eqGuardType P.depth T

def abin (P : Program) (op : BinOp) (T : TypeId) (x y : AVal) : Option (Prop × AVal) :=
  match x, y with
  | .int k a, .int k' b => match op with
    | .shl => some (0 ≤ b, .int k (k.wrap (a * 2 ^ min b.toNat k.bits)))
    | .shr => some (0 ≤ b, .int k (a.fdiv (2 ^ min b.toNat k.bits)))
    | op => if k = k' then aint op k a b else none
  | .str a, .str b => astr op a b
  | .bool a, .bool b => match tyi P T with
    | some { kind := .bool, .. } => (match op with
      | .eql => some (True, .bool (a == b))
      | .neq => some (True, .bool !(a == b))
      | _ => none)
    | _ => none
  | .agg xs, .agg ys => match aeqs xs ys with
    | some (ks, r) => bif eqTy P T ks then (match op with
      | .eql => some (True, .bool r)
      | .neq => some (True, .bool !r)
      | _ => none) else none
    | none => none
  | _, _ => none

def aun (op : UnOp) (x : AVal) : Option (Prop × AVal) :=
  match op, x with
  | .not, .bool b => some (True, .bool !b)
  | .neg, .int k n => some (True, .int k (k.wrap (0 - n)))
  | _, _ => none

def abytes : List (List AVal) → Option (List UInt8)
  | [] => some []
  | [.int .u8 n] :: r => (abytes r).map (UInt8.ofNat n.toNat :: ·)
  | _ => none

def aconv (P : Program) (src dst : TypeId) (x : AVal) : Option (Prop × AVal) :=
  match tyi P src, tyi P dst, x with
  | some _, some { kind := .int k, .. }, .int _ n => some (True, .int k (k.wrap n))
  | some _, some { kind := .str, .. }, .str s => some (True, .str s)
  | some { kind := .sl e, .. }, some { kind := .str, .. }, .sl sz elems _ => match tyi P e with
    | some { kind := .int .u8, .. } => if sz = 1 ∨ elems = [] then (abytes elems).map fun s => (True, .str s) else none
    | _ => none
  | _, _, _ => none

def aidx : Option AVal → Option (Option Int)
  | none => some none
  | some (.int _ n) => some (some n)
  | _ => none

/-- 'x[lo:hi]', lo and hi within the length. -/
def aslice (P : Program) (T : TypeId) (x : AVal) (lo hi : Option Int) : Option (Prop × AVal) :=
  match tyi P T, x with
  | some { kind := .str, .. }, .str s =>
    let l := lo.getD 0; let h := hi.getD s.length
    some (0 ≤ l ∧ l ≤ h ∧ h ≤ s.length, .str ((s.take h.toNat).drop l.toNat))
  | some { kind := .sl e, .. }, .sl sz elems _ => match tyi P e with
    | some i => if i.size = sz ∨ elems = [] then
        let l := lo.getD 0; let h := hi.getD elems.length
        some (0 ≤ l ∧ l ≤ h ∧ h ≤ elems.length, .sl sz ((elems.take h.toNat).drop l.toNat) .frz) else none
    | none => none
  | _, _ => none

def apart (i : TI) (cs : List AVal) (off : Nat) : Option AVal :=
  if i.kind.agg then (if off + i.size ≤ cs.length then some (.agg ((cs.drop off).take i.size)) else none) else cs[off]?

def alen : AVal → Option AVal
  | .sl _ elems _ => some (.int .i64 elems.length)
  | .str s => some (.int .i64 s.length)
  | _ => none

/-- An operation that turns no managed memory: what must hold there, and its value. -/
def ard (P : Program) (h : AHeap) (ρ : Operand → Option AVal) : Op → Option (Prop × AVal)
  | .move x => (ρ x).map fun v => (True, v)
  | .assign x => (ρ x).map fun v => (True, v)
  | .build t parts => match tyi P t, aparts ρ parts.toList with
    | some { kind := .st fs, zero := some z, .. }, some ps => (afill fs z ps).map fun cs => (True, .agg cs)
    | some { kind := .arr n el, zero := some z, .. }, some ps => (match tyi P el with
      | some ie => (afill (arrFs n el ie.size) z ps).map fun cs => (True, .agg cs)
      | none => none)
    | _, _ => none
  | .buildSlice t len parts => match tyi P t, aparts ρ parts.toList with
    | some { kind := .sl e, .. }, some ps => (match tyi P e with
      | some { size := sz, zero := some z, .. } => if ps.length = len ∧ len * sz ≤ 16777216 ∧ z.length = sz ∧ 0 < sz then (aelems sz 0 ps).map fun es => (True, .sl sz es .full) else none
      | _ => none)
    | _, _ => none
  | .load T a => match tyi P T, ρ a with
    | some i, some x => (match ACellsAt h x with
      | some cs => (aload i cs).map fun v => (True, v)
      | none => none)
    | _, _ => none
  | .nilCheck x => match ρ x with
    | some (.ptr g o) => some (True, .ptr g o)
    | some (.cptr cs) => some (True, .cptr cs)
    | some (.func (.func f) a c) => some (True, .func (.func f) a c)
    | _ => none
  | .binOp op T x y _ => match ρ x, ρ y with
    | some a, some b => abin P op T a b
    | _, _ => none
  | .unOp op _ x => match ρ x with
    | some a => aun op a
    | none => none
  | .convert src dst x => match ρ x with
    | some a => aconv P src dst a
    | none => none
  | .makeInterface T x => match tyi P T, ρ x with
    | some { kind := .ifc, .. }, _ => none
    | some _, some v => some (True, .iface T v)
    | _, _ => none
  | .makeFunc fn first captured => match avals ρ first.toList, avals ρ captured.toList with
    | some a, some c => some (True, .func fn a c)
    | _, _ => none
  | .slice T x lo hi none => match ρ x, aidx (lo.bind ρ), aidx (hi.bind ρ) with
    | some a, some l, some u => if (lo.isSome → l.isSome) ∧ (hi.isSome → u.isSome) then aslice P T a l u else none
    | _, _, _ => none
  | .fieldAddr T x f => match tyi P T, ρ x with
    | some { kind := .st fs, .. }, some a => (match fs[f]?, a with
      | some (_, off, size), .ptr g o => if size ≠ 0 then some (True, .ptr g (o + off)) else none
      | some (_, off, size), .cptr cs => if size ≠ 0 ∧ off ≤ cs.length then some (True, .cptr (cs.drop off)) else none
      | _, _ => none)
    | _, _ => none
  | .field T x f => match tyi P T, ρ x with
    | some { kind := .st fs, .. }, some (.agg cs) => (match fs[f]? with
      | some (ft, off, _) => (match tyi P ft with
        | some i => (apart i cs off).map fun v => (True, v)
        | none => none)
      | none => none)
    | _, _ => none
  | .indexAddr T x i => match tyi P T, ρ x, ρ i with
    | some { kind := .sl e, .. }, some (.sl sz elems _), some (.int _ n) => (match tyi P e with
      | some ti => if ti.size = sz then some (0 ≤ n ∧ n < elems.length, .cptr (elems.getD n.toNat [])) else none
      | none => none)
    | some { kind := .arr len e, .. }, some (.ptr g o), some (.int _ n) => (match tyi P e with
      | some ti => some (0 ≤ n ∧ n < len, .ptr g (o + n.toNat * ti.size))
      | none => none)
    | _, _, _ => none
  | .index T x i => match tyi P T, ρ x, ρ i with
    | some { kind := .str, .. }, some (.str s), some (.int _ n) => some (0 ≤ n ∧ n < s.length, .int .u8 (s.getD n.toNat 0).toNat)
    | some { kind := .arr len e, .. }, some (.agg cs), some (.int _ n) => (match tyi P e with
      | some i => (apart i cs (n.toNat * i.size)).map fun v => (0 ≤ n ∧ n < len, v)
      | none => none)
    | _, _, _ => none
  | .extract x i => match ρ x with
    | some (.tuple vs) => (vs[i]?).map fun v => (True, v)
    | _ => none
  | .call { callee := .builtin .len, args, argTypes } => match args.toList, argTypes.toList with
    | [x], [t] => (match ρ x, tyi P t with
      | some (.sl _ elems _), some { kind := .sl _, .. } => some (True, .int .i64 elems.length)
      | some (.str s), some { kind := .str, .. } => some (True, .int .i64 s.length)
      | _, _ => none)
    | _, _ => none
  | .call { callee := .builtin .min, args, .. } => match args.toList with
    | [x, y] => (match ρ x, ρ y with
      | some (.int k a), some (.int k' b) => if k = k' then some (True, .int k (min a b)) else none
      | _, _ => none)
    | _ => none
  | .call { callee := .builtin .max, args, .. } => match args.toList with
    | [x, y] => (match ρ x, ρ y with
      | some (.int k a), some (.int k' b) => if k = k' then some (True, .int k (max a b)) else none
      | _, _ => none)
    | _ => none
  | _ => none

end Go.Abs

/- The machine does with the values what 'ard' says of the abstract values. Over any program; no conditions. -/
namespace Go.Abs

section
variable {P : Program} {G : Nat → Option Obj} {h : AHeap} {w : World}

def ROk (P : Program) (G : Nat → Option Obj) (h : AHeap) (w : World) (s : Sem Next) (x : AVal) : Prop :=
  ∃ v w', s.run P w = .ok (.value v) w' ∧ Rel G h w' ∧ Step h w h w' ∧ Rep h w' x v

def OpsRep (h : AHeap) (w : World) (ρa : Operand → Option AVal) (ρc : Operand → Value) (l : List Operand) : Prop := ∀ y, y ∈ l → ∀ a, ρa y = some a → Rep h w a (ρc y)

theorem rok {s : Sem Next} {x : AVal} {v : Value} (hr : Rel G h w) (hrun : s.run P w = .ok (.value v) w) (hv : Rep h w x v) : ROk P G h w s x := ⟨v, w, hrun, hr, .refl hr, hv⟩

theorem run_isAgg {t : TypeId} {i : TI} (hi : tyi P t = some i) : (isAgg t).run P w = .ok i.kind.agg w := by
  obtain ⟨I, d, _, hd, _, _, hk, _⟩ := tyi_some hi
  unfold isAgg
  simp only [Sem.run_bind, run_underlying hd, Result.andThen_ok]
  rw [← hk]
  cases d <;> (try rfl)
  simp only [akOf]
  split <;> rfl

theorem run_sizeOf {t : TypeId} {i : TI} (hi : tyi P t = some i) : (sizeOf t).run P w = .ok i.size w := by
  obtain ⟨I, d, hI, _, hs, _, _, _⟩ := tyi_some hi
  simp [sizeOf, typeInfo, hI, hs]

theorem run_zero {t : TypeId} {i : TI} {z : List AVal} (hi : tyi P t = some i) (hz : i.zero = some z) : ∃ v, (zeroValue t).run P w = .ok v w ∧ Reps h w z v.cells.toList ∧ ∀ c, c ∈ z → c.one = true := by
  obtain ⟨I, d, hI, _, hs, _, _, hzz⟩ := tyi_some hi
  obtain ⟨v, hv, hc⟩ := hzz z hz
  exact ⟨v, by simp [zeroValue, typeInfo, hI, hv], aconsts_reps hc⟩

theorem run_und {t : TypeId} {i : TI} (hi : tyi P t = some i) : ∃ d, P.underlying t = some d ∧ akOf P d = i.kind := by
  obtain ⟨I, d, _, hd, _, _, hk, _⟩ := tyi_some hi
  exact ⟨d, hd, hk⟩

theorem und_sl {t e : TypeId} {i : TI} (hi : tyi P t = some i) (hk : i.kind = .sl e) : P.underlying t = some (.slice e) := by
  obtain ⟨d, hd, hk'⟩ := run_und hi
  rw [hk] at hk'
  cases d <;> (simp only [akOf] at hk') <;> (try split at hk') <;> simp_all
theorem und_str {t : TypeId} {i : TI} (hi : tyi P t = some i) (hk : i.kind = .str) : P.underlying t = some .string := by
  obtain ⟨d, hd, hk'⟩ := run_und hi
  rw [hk] at hk'
  cases d <;> (simp only [akOf] at hk') <;> (try split at hk') <;> simp_all
theorem und_bool {t : TypeId} {i : TI} (hi : tyi P t = some i) (hk : i.kind = .bool) : P.underlying t = some .bool := by
  obtain ⟨d, hd, hk'⟩ := run_und hi
  rw [hk] at hk'
  cases d <;> (simp only [akOf] at hk') <;> (try split at hk') <;> simp_all
theorem und_int {t : TypeId} {k : IntKind} {i : TI} (hi : tyi P t = some i) (hk : i.kind = .int k) : P.underlying t = some (.int k) := by
  obtain ⟨d, hd, hk'⟩ := run_und hi
  rw [hk] at hk'
  cases d <;> (simp only [akOf] at hk') <;> (try split at hk') <;> simp_all
theorem und_st {t : TypeId} {fs : List (TypeId × Nat × Nat)} {i : TI} (hi : tyi P t = some i) (hk : i.kind = .st fs) :
    ∃ l : Array Field, P.underlying t = some (.struct l) ∧ fs = (l.toList.map fun f => (f.type, f.offset, cellsOf P f.type)) ∧ ∀ f, f ∈ l.toList → ∃ n, P.info? f.type = some n := by
  obtain ⟨d, hd, hk'⟩ := run_und hi
  rw [hk] at hk'
  cases d <;> simp only [akOf] at hk' <;> (try cases hk')
  split at hk'
  · rename_i hall
    injection hk' with hk'
    refine ⟨_, hd, hk'.symm, fun f hf => ?_⟩
    rw [List.all_eq_true] at hall
    exact Option.isSome_iff_exists.1 (hall f hf)
  · cases hk'
theorem und_arr {t e : TypeId} {n : Nat} {i : TI} (hi : tyi P t = some i) (hk : i.kind = .arr n e) : P.underlying t = some (.array n e) := by
  obtain ⟨d, hd, hk'⟩ := run_und hi
  rw [hk] at hk'
  cases d <;> (simp only [akOf] at hk') <;> (try split at hk') <;> simp_all

theorem cellsAt_rep {x : AVal} {v : Value} {cs : List AVal} (hr : Rel G h w) (hx : ACellsAt h x = some cs) (hv : Rep h w x v) :
    ∃ a, v = .pointer (some a) ∧ a.spot = none ∧ (∀ i c, cs[i]? = some c → ∃ u, w.cell? (a.add i) = some u ∧ Rep h w c u) ∧ ∀ c, c ∈ cs → c.one = true := by
  unfold ACellsAt at hx
  split at hx
  · rename_i g off
    split at hx
    · rename_i T bs hg
      split at hx
      · rename_i ho
        injection hx with hx
        subst hx
        cases hv
        obtain ⟨vs, h1, ⟨h2, h3⟩, h4⟩ := hr.box g T bs hg
        refine ⟨⟨g, off, none⟩, rfl, rfl, fun i c hc => ?_, fun c hc => h4 c (List.mem_of_mem_drop hc)⟩
        rw [List.getElem?_drop] at hc
        have hlt := (List.getElem?_eq_some_iff.1 hc).1
        refine ⟨vs[off + i]'(by omega), ?_, h3 _ c _ hc (by simp)⟩
        rw [cell_of (spot_add _ _ rfl) (by rw [block_add]; exact h1), off_add]
        simp [List.getElem?_eq_getElem (show off + i < vs.length by omega)]
      · cases hx
    · cases hx
  · rename_i bs
    injection hx with hx
    subst hx
    cases hv with
    | cptr cells a ha hc hr' ho =>
      refine ⟨a, rfl, ha, fun i c hi => ?_, ho⟩
      obtain ⟨⟨u, hu⟩, _⟩ := hc i (List.getElem?_eq_some_iff.1 hi).1
      exact ⟨u, hu, hr' i c u hi hu⟩
  · cases hx

theorem load_ok {T : TypeId} {i : TI} {x y : AVal} {v : Value} {cs : List AVal} (hi : tyi P T = some i) (hr : Rel G h w) (hx : ACellsAt h x = some cs) (hv : Rep h w x v) (hl : aload i cs = some y) :
    ∃ u, (Instr.loadAt T v).run P w = .ok u w ∧ Rep h w y u := by
  obtain ⟨a, rfl, ha, hc, ho⟩ := cellsAt_rep hr hx hv
  unfold Instr.loadAt Instr.sureAddr loadVar
  simp only [Sem.run_bind, Sem.run_pure, Result.andThen_ok, run_isAgg hi]
  unfold aload at hl
  split at hl
  · rename_i hagg
    split at hl
    · rename_i hlen
      injection hl with hl
      subst hl
      have hcell : ∀ j, j < i.size → ∃ c u, cs[j]? = some c ∧ w.cell? (a.add j) = some u ∧ Rep h w c u := fun j hj => by
        have : j < cs.length := by omega
        obtain ⟨u, h1, h2⟩ := hc j _ (List.getElem?_eq_getElem this)
        exact ⟨_, u, List.getElem?_eq_getElem this, h1, h2⟩
      have hf := run_loadCells (P := P) w a i.size (fun j => (w.cell? (a.add j)).getD undef) (fun j hj => by
        obtain ⟨c, u, _, h1, _⟩ := hcell j hj
        rw [h1]; rfl)
      rw [hagg]
      simp only [if_true, Sem.run_bind, run_sizeOf hi, Result.andThen_ok, Sem.run_pure, hf]
      refine ⟨_, rfl, .agg _ _ (by simp; omega) (fun j c u hj hu => ?_) (fun c hc => ho c (List.mem_of_mem_take hc))⟩
      rw [List.getElem?_take] at hj
      split at hj
      · rename_i hlt
        obtain ⟨c', u', h1, h2, h3⟩ := hcell j hlt
        rw [hj] at h1
        injection h1 with h1
        subst h1
        simp [List.getElem?_range hlt, h2] at hu
        subst hu
        exact h3
      · cases hj
    · cases hl
  · rename_i hagg
    have : i.kind.agg = false := by simpa using hagg
    rw [this]
    simp only [Bool.false_eq_true, if_false]
    obtain ⟨u, h1, h2⟩ := hc 0 y (by rw [← List.head?_eq_getElem?]; exact hl)
    have ha0 : a.add 0 = a := by simp [Addr.add]
    rw [ha0] at h1
    exact ⟨u, by simp [h1], h2⟩

theorem avals_rep {ρa : Operand → Option AVal} {ρc : Operand → Value} : ∀ {l : List Operand} {xs : List AVal}, avals ρa l = some xs → OpsRep h w ρa ρc l → Reps h w xs (l.map ρc)
  | [], xs, hx, _ => by simp only [avals] at hx; injection hx with hx; subst hx; exact ⟨rfl, fun i c v hi => by simp at hi⟩
  | y :: r, xs, hx, ho => by
    simp only [avals] at hx
    split at hx
    · rename_i v l hv hl
      injection hx with hx
      subst hx
      obtain ⟨h1, h2⟩ := avals_rep hl (fun z hz => ho z (List.mem_cons_of_mem _ hz))
      refine ⟨by simp [← h1], fun i c u hi hu => ?_⟩
      cases i with
      | zero => simp at hi hu; subst hi; subst hu; exact ho y List.mem_cons_self v hv
      | succ i => exact h2 i c u (by simpa using hi) (by simpa using hu)
    · cases hx

theorem aparts_rep {ρa : Operand → Option AVal} {ρc : Operand → Value} : ∀ {l : List (Nat × Operand)} {xs : List (Nat × AVal)}, aparts ρa l = some xs → OpsRep h w ρa ρc (l.map (·.2)) →
    xs.length = l.length ∧ ∀ (j i : Nat) (x : AVal), xs[j]? = some (i, x) → ∃ y : Operand, l[j]? = some (i, y) ∧ Rep h w x (ρc y)
  | [], xs, hx, _ => by simp only [aparts] at hx; injection hx with hx; subst hx; exact ⟨rfl, fun j i x hi => by simp at hi⟩
  | (i0, y) :: r, xs, hx, ho => by
    simp only [aparts] at hx
    split at hx
    · rename_i v l hv hl
      injection hx with hx
      subst hx
      obtain ⟨h1, h2⟩ := aparts_rep hl (fun z hz => ho z (List.mem_cons_of_mem _ hz))
      refine ⟨by simp [h1], fun j i x hj => ?_⟩
      cases j with
      | zero => simp at hj; obtain ⟨rfl, rfl⟩ := hj; exact ⟨y, rfl, ho y List.mem_cons_self v hv⟩
      | succ j => simpa using h2 j i x (by simpa using hj)
    · cases hx

theorem Rep.notTuple {x : AVal} {v : Value} (hr : Rep h w x v) (ht : isTuple x = false) : Reps h w x.cells v.cells.toList ∧ ∀ c, c ∈ x.cells → c.one = true :=
  hr.cells (fun l e => by subst e; cases ht)

theorem foldl_set (off : Nat) : ∀ (vs : List Value) (k : Nat) (cells : Array Value), off + k + vs.length ≤ cells.size →
    ((vs.zipIdx k).foldl (fun cs (x : Value × Nat) => cs.setIfInBounds (off + x.2) x.1) cells).toList = cells.toList.take (off + k) ++ vs ++ cells.toList.drop (off + k + vs.length)
  | [], k, cells, _ => by simp
  | v :: r, k, cells, hl => by
    simp only [List.zipIdx_cons, List.foldl_cons]
    rw [foldl_set off r (k + 1) _ (by simp at hl ⊢; omega)]
    simp only [List.length_cons] at hl
    have hk : off + k < cells.toList.length := by simp; omega
    have h0 : off + k < cells.size := by omega
    rw [Array.toList_setIfInBounds]
    apply List.ext_getElem?
    intro j
    simp only [List.getElem?_append, List.length_take, List.length_set, List.length_append, List.getElem?_take, List.getElem?_drop, List.getElem?_set, Array.length_toList, List.length_cons]
    rcases Nat.lt_trichotomy j (off + k) with hj | hj | hj
    · rw [if_pos (by omega), if_pos (by omega), if_pos (by omega), if_neg (by omega), if_pos (by omega), if_pos (by omega), if_pos (by omega)]
    · subst hj
      rw [if_pos (by omega), if_pos (by omega), if_pos (by omega), if_pos rfl, if_pos h0, if_pos (by omega), if_neg (by omega)]
      rw [show off + k - min (off + k) cells.size = 0 by omega]
      rfl
    · by_cases hj2 : j < off + k + 1 + r.length
      · rw [if_pos (by omega), if_neg (by omega), if_pos (by omega), if_neg (by omega)]
        rw [show j - min (off + k) cells.size = (j - min (off + (k + 1)) cells.size) + 1 by omega, List.getElem?_cons_succ]
      · rw [if_neg (by omega), if_neg (by omega), if_neg (by omega)]
        congr 1
        omega

theorem foldl_set' (off : Nat) (vs : Array Value) (cells : Array Value) (hl : off + vs.size ≤ cells.size) :
    (vs.zipIdx.foldl (fun cs (c, j) => cs.setIfInBounds (off + j) c) cells).toList = cells.toList.take off ++ vs.toList ++ cells.toList.drop (off + vs.size) := by
  have := foldl_set off vs.toList 0 cells (by simpa using hl)
  simp only [Nat.add_zero, Array.length_toList] at this
  rw [← this, ← Array.foldl_toList, Array.toList_zipIdx]

theorem Reps.append {xs ys : List AVal} {vs us : List Value} (hx : Reps h w xs vs) (hy : Reps h w ys us) : Reps h w (xs ++ ys) (vs ++ us) := by
  refine ⟨by simp [hx.1, hy.1], fun i c v hi hv => ?_⟩
  by_cases hlt : i < xs.length
  · rw [List.getElem?_append_left hlt] at hi
    rw [List.getElem?_append_left (by rw [hx.1]; exact hlt)] at hv
    exact hx.2 i c v hi hv
  · rw [List.getElem?_append_right (by omega)] at hi
    rw [List.getElem?_append_right (by rw [hx.1]; omega), hx.1] at hv
    exact hy.2 _ c v hi hv

theorem Reps.take {xs : List AVal} {vs : List Value} (hx : Reps h w xs vs) (n : Nat) : Reps h w (xs.take n) (vs.take n) := by
  refine ⟨by simp [hx.1], fun i c v hi hv => ?_⟩
  rw [List.getElem?_take] at hi hv
  split at hi
  · rename_i hlt
    rw [if_pos hlt] at hv
    exact hx.2 i c v hi hv
  · cases hi

theorem Reps.drop {xs : List AVal} {vs : List Value} (hx : Reps h w xs vs) (n : Nat) : Reps h w (xs.drop n) (vs.drop n) := by
  refine ⟨by simp [hx.1], fun i c v hi hv => ?_⟩
  rw [List.getElem?_drop] at hi hv
  exact hx.2 _ c v hi hv

theorem fill_ok {fs : List (TypeId × Nat × Nat)} {place : Nat → Option (Nat × Nat)} (hp : ∀ i T off size, fs[i]? = some (T, off, size) → place i = some (off, size)) :
    ∀ (ps : List (Nat × AVal)) (qs : List (Nat × Value)) (cs out : List AVal) (vs : Array Value), ps.length = qs.length → (∀ (j i : Nat) (x : AVal), ps[j]? = some (i, x) → ∃ v : Value, qs[j]? = some (i, v) ∧ Rep h w x v) →
    Reps h w cs vs.toList → (∀ c, c ∈ cs → c.one = true) → afill fs cs ps = some out → ∃ us : Array Value, Instr.fill place vs qs = some us ∧ Reps h w out us.toList ∧ ∀ c, c ∈ out → c.one = true
  | [], qs, cs, out, vs, hl, _, hc, ho, hf => by
    simp only [afill] at hf
    injection hf with hf
    subst hf
    obtain rfl : qs = [] := List.length_eq_zero_iff.1 hl.symm
    exact ⟨vs, rfl, hc, ho⟩
  | (i, x) :: ps, qs, cs, out, vs, hl, hq, hc, ho, hf => by
    simp only [afill] at hf
    split at hf
    · rename_i T off size hfs
      split at hf
      · rename_i hcond
        obtain ⟨h1, h2, h3⟩ := hcond
        obtain ⟨v, hv, hrep⟩ := hq 0 i x rfl
        match qs, hv, hl with
        | (i', v') :: qs, hv, hl =>
          simp at hv
          obtain ⟨rfl, rfl⟩ := hv
          obtain ⟨hcell, hone⟩ := hrep.notTuple h3
          have hsz : v'.cells.size = size := by rw [← h1, ← hcell.1]; simp
          have hcs : vs.size = cs.length := by rw [← hc.1]; simp
          obtain ⟨us, hu, hres⟩ := fill_ok hp ps qs (setCells cs off x.cells) out (v'.cells.zipIdx.foldl (fun cs (c, j) => cs.setIfInBounds (off + j) c) vs) (by simpa using hl)
            (fun j i y hj => hq (j + 1) i y hj) (by
              rw [foldl_set' off v'.cells vs (by omega), setCells, h1, hsz]
              exact ((hc.take off).append hcell).append (hc.drop _)) (fun c hcm => by
                simp only [setCells, List.mem_append] at hcm
                rcases hcm with (hcm | hcm) | hcm
                · exact ho c (List.mem_of_mem_take hcm)
                · exact hone c hcm
                · exact ho c (List.mem_of_mem_drop hcm)) hf
          refine ⟨us, ?_, hres⟩
          simp only [Instr.fill, hp i' T off size hfs]
          rw [if_neg (by simp; omega)]
          exact hu
      · cases hf
    · cases hf

end
end Go.Abs
