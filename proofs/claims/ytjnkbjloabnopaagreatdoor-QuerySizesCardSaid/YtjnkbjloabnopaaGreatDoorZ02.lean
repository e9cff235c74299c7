/- Every operation that turns no managed memory: the machine does as 'ard' says. Over any program; no conditions. -/
import Derived.Test.YtjnkbjloabnopaaGreatDoorZ01
namespace Go.Abs

section
variable {P : Program} {G : Nat → Option Obj} {h : AHeap} {w : World} {ρa : Operand → Option AVal} {ρc : Operand → Value}

theorem old_block (w : World) (o : Obj) (i : Nat) (hi : i < w.heap.size) : (w.alloc o).heap[i]? = w.heap[i]? := by
  show (w.heap.push o)[i]? = _
  rw [Array.getElem?_push, if_neg (by omega)]
theorem new_block (w : World) (o : Obj) : (w.alloc o).heap[w.heap.size]? = some o := by
  show (w.heap.push o)[_]? = _
  simp

theorem size_rel {a : Nat} (hr : Rel G h w) (ha : w.heap.size ≤ a) : h.get a = none := by
  cases hg : h.get a with
  | none => rfl
  | some o => have := hr.wf a o hg; have := hr.nxt; omega

/-- A new block that nobody manages. -/
theorem alloc_step (hr : Rel G h w) (o : Obj) : Step h w h (w.alloc o) where
  os := rfl
  tape := rfl
  output := rfl
  size := by simp
  free := fun g hg hn => ⟨old_block w o g hg, hn⟩
  row := fun g T len hg hh => by
    obtain ⟨vs, h1, _⟩ := hr.row g T len hh
    exact ⟨vs, vs, (0, 0), h1, (old_block w o g hg).trans h1, rfl, fun _ _ => rfl, .inr ⟨rfl, len, Nat.le_refl _, hh⟩⟩
  box := fun g T cs _ hh => .inr ⟨cs, hh⟩

theorem alloc_rel (hr : Rel G h w) (o : Obj) : Rel G h (w.alloc o) where
  wf := hr.wf
  nxt := by have := hr.nxt; simp; omega
  box := fun g T cells hg => by
    obtain ⟨vs, h1, h2, h3⟩ := hr.box g T cells hg
    have : g < w.heap.size := (Array.getElem?_eq_some_iff.1 h1).1
    exact ⟨vs, (old_block w o g this).trans h1, h2.step (alloc_step hr o), h3⟩
  row := fun g T len hg => by
    obtain ⟨vs, h1, h2⟩ := hr.row g T len hg
    have : g < w.heap.size := (Array.getElem?_eq_some_iff.1 h1).1
    exact ⟨vs, (old_block w o g this).trans h1, h2⟩
  glob := fun g o' hg => by
    obtain ⟨h1, h2⟩ := hr.glob g o' hg
    have : g < w.heap.size := (Array.getElem?_eq_some_iff.1 h1).1
    exact ⟨(old_block w o g this).trans h1, h2⟩

theorem mem_ops {o : Op} {y : Operand} (hy : y ∈ o.operands.toList) {a : AVal} (ho : OpsRep h w ρa ρc o.operands.toList) (ha : ρa y = some a) : Rep h w a (ρc y) := ho y hy a ha

theorem run_fields (fs : Array Field) (hsz : ∀ f, f ∈ fs.toList → ∃ n, P.info? f.type = some n) (k : Field → Sem (Nat × Nat)) (hk : ∀ f, (k f) = do pure (f.offset, ← sizeOf f.type)) :
    (fs.mapM k).run P w = .ok (fs.toList.map fun f => (f.offset, cellsOf P f.type)).toArray w := by
  have key : ∀ l : List Field, (∀ f, f ∈ l → ∃ n, P.info? f.type = some n) → (l.mapM k).run P w = .ok (l.map fun f => (f.offset, cellsOf P f.type)) w := by
    intro l
    induction l with
    | nil => intro _; rfl
    | cons f r ih =>
      intro hf
      obtain ⟨n, hn⟩ := hf f List.mem_cons_self
      simp only [List.mapM_cons, Sem.run_bind, hk, sizeOf, typeInfo, run_program, Result.andThen_ok, hn, Sem.run_pure, ih (fun g hg => hf g (List.mem_cons_of_mem _ hg))]
      simp [cellsOf, hn]
  rw [Array.mapM_eq_mapM_toList]
  simp only [Sem.run_map, key fs.toList hsz, Result.andThen_ok]


theorem build_ok {t : TypeId} {i : TI} {fs : List (TypeId × Nat × Nat)} {z cs : List AVal} {parts : Array (Nat × Operand)} {ps : List (Nat × AVal)} (hr : Rel G h w) (hi : tyi P t = some i) (hk : i.kind = .st fs) (hz : i.zero = some z)
    (hp : aparts ρa parts.toList = some ps) (hf : afill fs z ps = some cs) (ho : OpsRep h w ρa ρc (parts.toList.map (·.2))) :
    ∃ v, (Instr.build t (parts.map fun (i, x) => (i, ρc x))).run P w = .ok v w ∧ Rep h w (.agg cs) v := by
  obtain ⟨l, hu, hfs, hinfo⟩ := und_st hi hk
  obtain ⟨zv, hzr, hzc, hzo⟩ := run_zero (h := h) (w := w) hi hz
  obtain ⟨hl, hq⟩ := aparts_rep hp ho
  obtain ⟨us, hus, hrep, hone⟩ := fill_ok (h := h) (w := w) (fs := fs) (place := fun j => ((l.toList.map fun f => (f.offset, cellsOf P f.type)).toArray)[j]?) (fun j T off size hj => by
      rw [hfs, List.getElem?_map] at hj
      obtain ⟨f, hf1, hf2⟩ := Option.map_eq_some_iff.1 hj
      simp only [Prod.mk.injEq] at hf2
      obtain ⟨_, rfl, rfl⟩ := hf2
      simp [hf1]) ps (parts.toList.map fun (i, x) => (i, ρc x)) z cs zv.cells (by simp [hl]) (fun j i x hj => by
      obtain ⟨y, hy, hyr⟩ := hq j i x hj
      exact ⟨ρc y, by simp [hy], hyr⟩) hzc hzo hf
  refine ⟨.agg us, ?_, by simpa using Rep.agg cs us.toList hrep.1 hrep.2 hone⟩
  unfold Instr.build
  simp only [Sem.run_bind, hzr, Result.andThen_ok, run_underlying hu, run_fields l hinfo _ (fun _ => rfl), Array.toList_map, hus, Sem.run_pure]

theorem build_arr_ok {t e : TypeId} {i ie : TI} {n : Nat} {z cs : List AVal} {parts : Array (Nat × Operand)} {ps : List (Nat × AVal)} (hr : Rel G h w) (hi : tyi P t = some i) (hk : i.kind = .arr n e) (hie : tyi P e = some ie) (hz : i.zero = some z)
    (hp : aparts ρa parts.toList = some ps) (hf : afill (arrFs n e ie.size) z ps = some cs) (ho : OpsRep h w ρa ρc (parts.toList.map (·.2))) :
    ∃ v, (Instr.build t (parts.map fun (i, x) => (i, ρc x))).run P w = .ok v w ∧ Rep h w (.agg cs) v := by
  have hu := und_arr hi hk
  obtain ⟨zv, hzr, hzc, hzo⟩ := run_zero (h := h) (w := w) hi hz
  obtain ⟨hl, hq⟩ := aparts_rep hp ho
  obtain ⟨us, hus, hrep, hone⟩ := fill_ok (h := h) (w := w) (fs := arrFs n e ie.size) (place := fun j => some (j * ie.size, ie.size)) (fun j T off size hj => by
      unfold arrFs at hj
      rw [List.getElem?_map] at hj
      obtain ⟨k, hk1, hk2⟩ := Option.map_eq_some_iff.1 hj
      have hkj : k = j := by
        obtain ⟨hlt, he⟩ := List.getElem?_eq_some_iff.1 hk1
        simpa using he.symm
      subst hkj
      simp only [Prod.mk.injEq] at hk2
      obtain ⟨_, rfl, rfl⟩ := hk2
      rfl) ps (parts.toList.map fun (i, x) => (i, ρc x)) z cs zv.cells (by simp [hl]) (fun j i x hj => by
      obtain ⟨y, hy, hyr⟩ := hq j i x hj
      exact ⟨ρc y, by simp [hy], hyr⟩) hzc hzo hf
  refine ⟨.agg us, ?_, by simpa using Rep.agg cs us.toList hrep.1 hrep.2 hone⟩
  unfold Instr.build
  simp only [Sem.run_bind, hzr, Result.andThen_ok, run_underlying hu, run_sizeOf hie, Array.toList_map, hus, Sem.run_pure]

theorem elems_ok (sz : Nat) : ∀ (n : Nat) (ps : List (Nat × AVal)) (es : List (List AVal)), aelems sz n ps = some es →
    es.length = ps.length ∧ (∀ e, e ∈ es → e.length = sz) ∧ ∀ (j : Nat) (i : Nat) (x : AVal), ps[j]? = some (i, x) → i = n + j ∧ es[j]? = some x.cells ∧ isTuple x = false
  | n, [], es, he => by simp only [aelems] at he; injection he with he; subst he; exact ⟨rfl, fun e he => absurd he List.not_mem_nil, fun j i x hj => by simp at hj⟩
  | n, (i, x) :: r, es, he => by
    simp only [aelems] at he
    split at he
    · rename_i hc
      obtain ⟨rfl, h2, h3⟩ := hc
      obtain ⟨l, hl, rfl⟩ := Option.map_eq_some_iff.1 he
      obtain ⟨a1, a2, a3⟩ := elems_ok sz (i + 1) r l hl
      refine ⟨by simp [a1], fun e hm => ?_, fun j k y hj => ?_⟩
      · rcases List.mem_cons.1 hm with rfl | hm
        · exact h2
        · exact a2 e hm
      · cases j with
        | zero => simp at hj; obtain ⟨rfl, rfl⟩ := hj; exact ⟨by omega, by simp, h3⟩
        | succ j =>
          obtain ⟨b1, b2, b3⟩ := a3 j k y (by simpa using hj)
          exact ⟨by omega, by simpa using b2, b3⟩
    · cases he

/-- Filling a row with elements one after the other, from element n on. -/
theorem fill_row (sz : Nat) : ∀ (qs : List (Nat × Value)) (n : Nat) (cells : Array Value), (∀ (j i : Nat) (v : Value), qs[j]? = some (i, v) → i = n + j ∧ v.cells.size = sz) → (n + qs.length) * sz = cells.size →
    ∃ us : Array Value, Instr.fill (fun i => some (i * sz, sz)) cells qs = some us ∧ us.toList = cells.toList.take (n * sz) ++ (qs.map fun q => q.2.cells.toList).flatten
  | [], n, cells, _, hs => ⟨cells, rfl, by
      rw [List.map_nil, List.flatten_nil, List.append_nil, List.take_of_length_le]
      simp at hs ⊢
      omega⟩
  | (i, v) :: r, n, cells, hq, hs => by
    obtain ⟨hi, hv⟩ := hq 0 i v rfl
    obtain rfl : i = n := by omega
    have hle : i * sz + v.cells.size ≤ cells.size := by
      rw [hv, ← hs, ← Nat.succ_mul]
      exact Nat.mul_le_mul_right _ (by simp)
    have hset := foldl_set' (i * sz) v.cells cells hle
    have hsize : (v.cells.zipIdx.foldl (fun cs (c, j) => cs.setIfInBounds (i * sz + j) c) cells).size = cells.size := by
      rw [← Array.length_toList, hset]
      simp
      omega
    obtain ⟨us, h1, h2⟩ := fill_row sz r (i + 1) (v.cells.zipIdx.foldl (fun cs (c, j) => cs.setIfInBounds (i * sz + j) c) cells) (fun j k u hj => by
      obtain ⟨a1, a2⟩ := hq (j + 1) k u (by simpa using hj)
      exact ⟨by omega, a2⟩) (by rw [hsize, ← hs]; simp only [List.length_cons]; congr 1; omega)
    refine ⟨us, ?_, ?_⟩
    · simp only [Instr.fill]
      rw [if_neg (by simp; omega)]
      exact h1
    · rw [h2, hset]
      simp only [List.map_cons, List.flatten_cons]
      rw [← List.append_assoc]
      congr 1
      have hlen : (cells.toList.take (i * sz) ++ v.cells.toList).length = (i + 1) * sz := by
        rw [List.length_append, List.length_take, Array.length_toList, Array.length_toList, hv, Nat.succ_mul]
        omega
      rw [List.take_left' hlen]

theorem flatten_get (sz : Nat) : ∀ (ls : List (List Value)) (i j : Nat) (l : List Value), (∀ l, l ∈ ls → l.length = sz) → ls[i]? = some l → j < sz → (ls.flatten)[i * sz + j]? = l[j]?
  | [], i, j, l, _, hi, _ => by simp at hi
  | a :: r, i, j, l, hl, hi, hj => by
    have ha := hl a List.mem_cons_self
    cases i with
    | zero =>
      simp at hi
      subst hi
      simp only [List.flatten_cons, Nat.zero_mul, Nat.zero_add]
      rw [List.getElem?_append_left (by omega)]
    | succ i =>
      simp only [List.flatten_cons]
      rw [List.getElem?_append_right (by rw [ha, Nat.succ_mul]; omega), ha, show (i + 1) * sz + j - sz = i * sz + j by rw [Nat.succ_mul]; omega]
      exact flatten_get sz r i j l (fun l hm => hl l (List.mem_cons_of_mem _ hm)) (by simpa using hi) hj

theorem flatten_len (sz : Nat) : ∀ (ls : List (List Value)), (∀ l, l ∈ ls → l.length = sz) → ls.flatten.length = ls.length * sz
  | [], _ => by simp
  | a :: r, hl => by
    rw [List.flatten_cons, List.length_append, hl a List.mem_cons_self, flatten_len sz r (fun l hm => hl l (List.mem_cons_of_mem _ hm)), List.length_cons, Nat.succ_mul]
    omega

/-- A new row whose cells stand for elements. -/
theorem newRow_rep {sz : Nat} {T : TypeId} {es : List (List AVal)} {us : Array Value} (hr : Rel G h w) (hsz : ∀ e, e ∈ es → e.length = sz) (hus : es.length * sz ≤ us.size) (cap : Nat) (hcap : es.length ≤ cap)
    (hrep : ∀ (i j : Nat) (e : List AVal) (c : AVal) (v : Value), es[i]? = some e → e[j]? = some c → us[i * sz + j]? = some v → Rep h w c v) (hone : ∀ e c, e ∈ es → c ∈ e → c.one = true) (t : Tag) (f : Nat × Nat)
    (ht : TagOk h (w.alloc (.cells us T f)) ⟨w.heap.size, 0, none⟩ es.length cap sz t) :
    Rep h (w.alloc (.cells us T f)) (.sl sz es t) (.slice (some ⟨w.heap.size, 0, none⟩) es.length cap) := by
  have hcell : ∀ k, (w.alloc (.cells us T f)).cell? ((⟨w.heap.size, 0, none⟩ : Addr).add k) = us[k]? := fun k => by
    rw [cell_of (spot_add _ _ rfl) (by rw [block_add]; exact new_block w _), off_add]
    simp
  refine .sl sz es t _ cap rfl hcap hsz (fun k hk => ⟨?_, ?_⟩) (fun i j e c v hi hj hv => ?_) hone ht
  · rw [hcell]
    exact ⟨us[k]'(by omega), by simp [Array.getElem?_eq_getElem (show k < us.size by omega)]⟩
  · refine ⟨by rw [block_add]; simp, .inl ?_⟩
    rw [block_add]
    exact size_rel hr (Nat.le_refl _)
  · rw [hcell] at hv
    exact (hrep i j e c v hi hj hv).step (alloc_step hr _)

theorem buildSlice_ok {t e : TypeId} {len sz : Nat} {i ie : TI} {z : List AVal} {es : List (List AVal)} {parts : Array (Nat × Operand)} {ps : List (Nat × AVal)} (hr : Rel G h w) (hi : tyi P t = some i) (hk : i.kind = .sl e)
    (hie : tyi P e = some ie) (hsz : ie.size = sz) (hz : ie.zero = some z) (hp : aparts ρa parts.toList = some ps) (h1 : ps.length = len) (h2 : len * sz ≤ 16777216) (h3 : z.length = sz) (h0 : 0 < sz) (hf : aelems sz 0 ps = some es)
    (ho : OpsRep h w ρa ρc (parts.toList.map (·.2))) :
    ∃ v w', (Instr.buildSlice t len (parts.map fun (i, x) => (i, ρc x))).run P w = .ok v w' ∧ Rel G h w' ∧ Step h w h w' ∧ Rep h w' (.sl sz es .full) v := by
  obtain ⟨zv, hzr, hzc, hzo⟩ := run_zero (h := h) (w := w) hie hz
  obtain ⟨hl, hq⟩ := aparts_rep hp ho
  obtain ⟨e1, e2, e3⟩ := elems_ok sz 0 ps es hf
  have hzs : zv.cells.size = sz := by rw [← h3, ← hzc.1]; simp
  have hlq : (parts.toList.map fun (i, x) => (i, ρc x)).length = len := by rw [List.length_map, ← hl, h1]
  have hqv : ∀ (j i : Nat) (v : Value), (parts.toList.map fun (i, x) => (i, ρc x))[j]? = some (i, v) → i = 0 + j ∧ v.cells.size = sz := fun j i v hj => by
    have hjl := (List.getElem?_eq_some_iff.1 hj).1
    rw [hlq] at hjl
    obtain ⟨⟨i', x⟩, hx⟩ : ∃ q, ps[j]? = some q := ⟨_, List.getElem?_eq_getElem (by omega)⟩
    obtain ⟨y, hy, hrep⟩ := hq j i' x hx
    rw [List.getElem?_map, hy] at hj
    simp at hj
    obtain ⟨rfl, rfl⟩ := hj
    obtain ⟨a1, a2, a3⟩ := e3 j i' x hx
    refine ⟨a1, ?_⟩
    have := (hrep.notTuple a3).1.1
    rw [Array.length_toList] at this
    rw [this]
    exact e2 _ (List.mem_of_getElem? a2)
  obtain ⟨us, u1, u2⟩ := fill_row sz (parts.toList.map fun (i, x) => (i, ρc x)) 0 ((Array.range (len * sz)).map (fun k => zv.cells[k % zv.cells.size]!)) hqv (by rw [hlq]; simp)
  simp only [Nat.zero_mul, List.take_zero, List.nil_append] at u2
  have hall : ∀ l, l ∈ (parts.toList.map fun (i, x) => (i, ρc x)).map (fun q => q.2.cells.toList) → l.length = sz := fun l hm => by
    obtain ⟨q, hqm, rfl⟩ := List.mem_map.1 hm
    obtain ⟨j, hj⟩ := List.getElem?_of_mem hqm
    have := (hqv j q.1 q.2 hj).2
    simpa using this
  have hus : us.size = len * sz := by
    rw [← Array.length_toList, u2, flatten_len sz _ hall, List.length_map, hlq]
  have hesl : es.length = len := by rw [e1, h1]
  refine ⟨.slice (some ⟨w.heap.size, 0, none⟩) len len, w.alloc (.cells us e), ?_, alloc_rel hr _, alloc_step hr _, ?_⟩
  · unfold Instr.buildSlice
    simp only [Sem.run_bind, run_underlying (und_sl hi hk), Result.andThen_ok, run_sizeOf hie, hsz]
    rw [if_neg (by omega)]
    by_cases hl0 : len * sz = 0
    · rw [if_pos hl0]
      have hmap : Array.map (fun k => (#[] : Array Value)[k % (#[] : Array Value).size]!) (Array.range (len * sz)) = Array.map (fun k => zv.cells[k % zv.cells.size]!) (Array.range (len * sz)) := by rw [hl0]; simp
      simp only [Sem.run_bind, Sem.run_pure, Result.andThen_ok, Array.toList_map, hmap, u1]
      simp [newRow]
    · rw [if_neg hl0]
      simp only [Sem.run_bind, Sem.run_pure, Result.andThen_ok, hzr, Array.toList_map, u1]
      simp [newRow]
  · rw [← hesl]
    refine newRow_rep hr e2 (by rw [hesl, hus]; exact Nat.le_refl _) es.length (Nat.le_refl _) (fun i j e c v hi hj hv => ?_) (fun e c he hc => ?_) .full (0, 0) rfl
    · have hil := (List.getElem?_eq_some_iff.1 hi).1
      obtain ⟨⟨i', x⟩, hx⟩ : ∃ q, ps[i]? = some q := ⟨_, List.getElem?_eq_getElem (by omega)⟩
      obtain ⟨y, hy, hrep⟩ := hq i i' x hx
      obtain ⟨a1, a2, a3⟩ := e3 i i' x hx
      rw [hi] at a2
      injection a2 with a2
      subst a2
      have hjl := (List.getElem?_eq_some_iff.1 hj).1
      have hjs : j < sz := by have := e2 _ (List.mem_of_getElem? hi); omega
      rw [← Array.getElem?_toList, u2, flatten_get sz _ i j (ρc y).cells.toList hall (by simp [hy]) hjs] at hv
      exact (hrep.notTuple a3).1.2 j c v hj hv
    · obtain ⟨i, hi⟩ := List.getElem?_of_mem he
      have hil := (List.getElem?_eq_some_iff.1 hi).1
      obtain ⟨⟨i', x⟩, hx⟩ : ∃ q, ps[i]? = some q := ⟨_, List.getElem?_eq_getElem (by omega)⟩
      obtain ⟨y, hy, hrep⟩ := hq i i' x hx
      obtain ⟨a1, a2, a3⟩ := e3 i i' x hx
      rw [hi] at a2
      injection a2 with a2
      subst a2
      exact (hrep.notTuple a3).2 c hc

end
end Go.Abs

/- Every operation that turns no managed memory, second part: arithmetic, strings, slices, addresses. Over any program; no conditions. -/
namespace Go.Abs

section
variable {P : Program} {G : Nat → Option Obj} {h : AHeap} {w : World} {ρa : Operand → Option AVal} {ρc : Operand → Value}

theorem Rep.int_inv {k : IntKind} {n : Int} {v : Value} (hr : Rep h w (.int k n) v) : v = .int k n := by cases hr; rfl
theorem Rep.bool_inv {b : Bool} {v : Value} (hr : Rep h w (.bool b) v) : v = .bool b := by cases hr; rfl
theorem Rep.str_inv {s : List UInt8} {v : Value} (hr : Rep h w (.str s) v) : ∃ t : ByteArray, v = .string t ∧ t.data.toList = s := by cases hr; exact ⟨_, rfl, rfl⟩
theorem Rep.str_mk (s : List UInt8) (t : ByteArray) (ht : t.data.toList = s) : Rep h w (.str s) (.string t) := by subst ht; exact .str t

theorem int_ok {op : BinOp} {k : IntKind} {a b : Int} {T : TypeId} {x : AVal} {p : Prop} (ha : aint op k a b = some (p, x)) (hp : p) (w : World) :
    ∃ v, (binOp op T (.int k a) (.int k b)).run P w = .ok v w ∧ Rep h w x v := by
  unfold aint at ha
  cases op <;> simp only [Option.some.injEq, Prod.mk.injEq, reduceCtorEq] at ha <;> obtain ⟨rfl, rfl⟩ := ha
  case quo =>
    rw [binOp_quo, Op.intDiv, if_neg hp]
    exact ⟨_, rfl, .int _ _⟩
  case rem =>
    rw [binOp_rem, Op.intDiv, if_neg hp]
    exact ⟨_, rfl, .int _ _⟩
  all_goals first
    | (simp only [binOp_add, binOp_sub, binOp_mul, binOp_and, binOp_or, binOp_xor, binOp_andNot, Op.intArith, Op.intBits]; exact ⟨_, rfl, .int _ _⟩)
    | (simp only [binOp_eql, binOp_neq, binOp_lss, binOp_leq, binOp_gtr, binOp_geq]; exact ⟨_, rfl, .bool _⟩)

theorem str_ok {op : BinOp} {a b : List UInt8} {s t : ByteArray} {T : TypeId} {x : AVal} {p : Prop} (hs : s.data.toList = a) (ht : t.data.toList = b) (ha : astr op a b = some (p, x)) (hp : p) (w : World) :
    ∃ v, (binOp op T (.string s) (.string t)).run P w = .ok v w ∧ Rep h w x v := by
  have e1 : s.toList = a := by rw [ByteArray.toList_eq, hs]
  have e2 : t.toList = b := by rw [ByteArray.toList_eq, ht]
  have l1 : s.size = a.length := by rw [← hs, Array.length_toList]; rfl
  have l2 : t.size = b.length := by rw [← ht, Array.length_toList]; rfl
  have hb : binOp op T (.string s) (.string t) = if op = .shl ∨ op = .shr then binOp op T (.string s) (.string t) else Op.stringOp op s t := by
    cases op <;> simp [binOp]
  unfold astr at ha
  cases op <;> simp only [Option.some.injEq, Prod.mk.injEq, reduceCtorEq] at ha <;> obtain ⟨rfl, rfl⟩ := ha <;> rw [hb, if_neg (by simp)] <;> simp only [Op.stringOp, e1, e2]
  case add =>
    rw [if_neg (by rw [l1, l2]; have : IntKind.i64.max = 9223372036854775807 := by decide
                   omega)]
    exact ⟨_, rfl, .str_mk _ _ (by simp [hs, ht])⟩
  all_goals exact ⟨_, rfl, .bool _⟩

theorem run_shift (op : BinOp) (k yk : IntKind) (a b : Int) (T : TypeId) (hop : op = .shl ∨ op = .shr) (hb : 0 ≤ b) (w : World) :
    (binOp op T (.int k a) (.int yk b)).run P w = .ok (.int k (if op = .shl then k.wrap (a * 2 ^ min b.toNat k.bits) else a.fdiv (2 ^ min b.toNat k.bits))) w := by
  rcases hop with rfl | rfl
  · rw [binOp_shl, Op.shift, if_neg (by omega)]; rfl
  · rw [binOp_shr, Op.shift, if_neg (by omega)]; rfl

theorem run_part_scalar {e : TypeId} {xs : Array Value} {off : Nat} {v : Value} {d : TypeDesc} (hu : P.underlying e = some d) (hd : d = .bool ∨ d = .string ∨ ∃ k, d = .int k) (hx : xs[off]? = some v) : (part e xs off).run P w = .ok v w := by
  rcases hd with rfl | rfl | ⟨k, rfl⟩ <;> simp [part, isAgg, run_underlying hu, hx]

/-- Structs of numbers, Booleans and strings, field by field. -/
theorem eqFields_ok (w : World) (n : Nat) : ∀ (fs : List Field) (i : Nat) (ks : List AK) (r : Bool) (xs ys : List AVal) (us vs : Array Value), aeqs xs ys = some (ks, r) → eqFieldsOk P i fs ks = true →
    (∀ (j : Nat) (c : AVal), xs[j]? = some c → ∃ u, us[i + j]? = some u ∧ Rep h w c u) → (∀ (j : Nat) (c : AVal), ys[j]? = some c → ∃ u, vs[i + j]? = some u ∧ Rep h w c u) → (Op.eqFields (n + 1) us vs fs).run P w = .ok r w := by
  intro fs
  induction fs with
  | nil =>
    intro i ks r xs ys us vs ha hf hx hy
    cases ks with
    | cons k ks => simp [eqFieldsOk] at hf
    | nil =>
      unfold aeqs at ha
      split at ha
      · simp only [Option.some.injEq, Prod.mk.injEq] at ha; rw [← ha.2]; rfl
      · split at ha
        · split at ha <;> simp at ha
        · cases ha
      · split at ha <;> simp at ha
      · split at ha <;> simp at ha
      · cases ha
  | cons f fs ih =>
    intro i ks r xs ys us vs ha hf hx hy
    cases ks with
    | nil => simp [eqFieldsOk] at hf
    | cons k ks =>
      simp only [eqFieldsOk, eqFieldOk, Bool.and_eq_true, bne_iff_ne, ne_eq, beq_iff_eq] at hf
      obtain ⟨⟨⟨hn, ho⟩, hk⟩, hf⟩ := hf
      have hrest : ∀ {x y : AVal} {xs' ys' : List AVal} {r' : Bool}, xs = x :: xs' → ys = y :: ys' → aeqs xs' ys' = some (ks, r') → (Op.eqFields (n + 1) us vs fs).run P w = .ok r' w := by
        intro x y xs' ys' r' h1 h2 h3
        subst h1 h2
        refine ih (i + 1) ks r' xs' ys' us vs h3 hf (fun j c hc => ?_) (fun j c hc => ?_)
        · have := hx (j + 1) c (by simpa using hc); rwa [show i + (j + 1) = i + 1 + j by omega] at this
        · have := hy (j + 1) c (by simpa using hc); rwa [show i + (j + 1) = i + 1 + j by omega] at this
      have hparts : ∀ {x y : AVal} {xs' ys' : List AVal}, xs = x :: xs' → ys = y :: ys' → ∃ u v, us[f.offset]? = some u ∧ vs[f.offset]? = some v ∧ Rep h w x u ∧ Rep h w y v := by
        intro x y xs' ys' h1 h2
        subst h1 h2
        obtain ⟨u, hu1, hu2⟩ := hx 0 x rfl
        obtain ⟨v, hv1, hv2⟩ := hy 0 y rfl
        rw [ho]
        exact ⟨u, v, hu1, hv1, hu2, hv2⟩
      have step : ∀ {u v : Value} {d : TypeDesc} {q r' : Bool}, P.underlying f.type = some d → (d = .bool ∨ d = .string ∨ ∃ k, d = .int k) → us[f.offset]? = some u → vs[f.offset]? = some v → (Op.equalIn (n + 1) f.type u v).run P w = .ok q w → (Op.eqFields (n + 1) us vs fs).run P w = .ok r' w →
          (Op.eqFields (n + 1) us vs (f :: fs)).run P w = .ok (q && r') w := by
        intro u v d q r' hd hd2 h1 h2 h3 h4
        simp only [Op.eqFields]
        rw [if_pos hn]
        simp only [Sem.run_bind, run_part_scalar hd hd2 h1, run_part_scalar hd hd2 h2, Result.andThen_ok, h3, Sem.run_ite]
        cases q with
        | true => simp only [Bool.not_true, Bool.false_eq_true, if_false, Bool.true_and]; exact h4
        | false => simp only [Bool.not_false, if_true, Bool.false_and]; rfl
      unfold aeqs at ha
      split at ha
      · simp at ha
      · rename_i k1 a xs' k2 b ys'
        split at ha
        · rename_i ks' r' hrec
          split at ha
          · rename_i hkk
            subst hkk
            simp only [Option.some.injEq, Prod.mk.injEq, List.cons.injEq] at ha
            obtain ⟨⟨rfl, rfl⟩, rfl⟩ := ha
            obtain ⟨u, v, h1, h2, h3, h4⟩ := hparts rfl rfl
            obtain rfl := h3.int_inv
            obtain rfl := h4.int_inv
            split at hk
            · rename_i k' hu heq
              exact step hu (.inr (.inr ⟨_, rfl⟩)) h1 h2 (run_equalIn_int w n f.type k1 _ a b hu) (hrest rfl rfl hrec)
            · rename_i heq; cases heq
            · rename_i heq; cases heq
            · cases hk
          · cases ha
        · cases ha
      · rename_i a xs' b ys'
        split at ha
        · rename_i ks' r' hrec
          simp only [Option.some.injEq, Prod.mk.injEq, List.cons.injEq] at ha
          obtain ⟨⟨rfl, rfl⟩, rfl⟩ := ha
          obtain ⟨u, v, h1, h2, h3, h4⟩ := hparts rfl rfl
          obtain rfl := h3.bool_inv
          obtain rfl := h4.bool_inv
          split at hk
          · rename_i heq; cases heq
          · rename_i hu heq
            exact step hu (.inl rfl) h1 h2 (run_equalIn_bool' w n f.type a b hu) (hrest rfl rfl hrec)
          · rename_i heq; cases heq
          · cases hk
        · cases ha
      · rename_i a xs' b ys'
        split at ha
        · rename_i ks' r' hrec
          simp only [Option.some.injEq, Prod.mk.injEq, List.cons.injEq] at ha
          obtain ⟨⟨rfl, rfl⟩, rfl⟩ := ha
          obtain ⟨u, v, h1, h2, h3, h4⟩ := hparts rfl rfl
          obtain ⟨s, rfl, hs⟩ := h3.str_inv
          obtain ⟨t, rfl, ht⟩ := h4.str_inv
          split at hk
          · rename_i heq; cases heq
          · rename_i heq; cases heq
          · rename_i hu heq
            have := run_equalIn_string w n f.type s t hu
            rw [ByteArray.toList_eq, ByteArray.toList_eq, hs, ht] at this
            exact step hu (.inr (.inl rfl)) h1 h2 this (hrest rfl rfl hrec)
          · cases hk
        · cases ha
      · cases ha

theorem agg_inv {xs : List AVal} {v : Value} (hr : Rep h w (.agg xs) v) : ∃ vs : List Value, v = .agg vs.toArray ∧ ∀ (i : Nat) (c : AVal), xs[i]? = some c → ∃ u, vs.toArray[0 + i]? = some u ∧ Rep h w c u := by
  cases hr with
  | agg _ vs hl hr ho =>
    refine ⟨vs, rfl, fun i c hi => ?_⟩
    have hlt : i < vs.length := by rw [hl]; exact (List.getElem?_eq_some_iff.1 hi).1
    exact ⟨vs[i], by simp [hlt], hr i c _ hi (List.getElem?_eq_getElem hlt)⟩

theorem struct_eq {T : TypeId} {xs ys : List AVal} {ks : List AK} {r : Bool} {u v : Value} (ha : Rep h w (.agg xs) u) (hb : Rep h w (.agg ys) v) (hx : aeqs xs ys = some (ks, r)) (ht : eqTy P T ks = true) :
    (binOp .eql T u v).run P w = .ok (.bool r) w ∧ (binOp .neq T u v).run P w = .ok (.bool !r) w := by
  obtain ⟨us, rfl, h1⟩ := agg_inv ha
  obtain ⟨vs, rfl, h2⟩ := agg_inv hb
  simp only [eqTy, Bool.and_eq_true, Bool.not_eq_true'] at ht
  obtain ⟨⟨h3, h4⟩, _⟩ := ht
  split at h3
  · rename_i fs hu
    have hf : P.fieldsOf T = fs := by unfold Program.fieldsOf; rw [hu]
    have he := eqFields_ok (P := P) w 9998 fs.toList 0 ks r xs ys us.toArray vs.toArray hx h3 h1 h2
    have hst := run_equalIn_struct (P := P) w 9999 T us.toArray vs.toArray (by rw [hf]; exact hu) h4
    rw [hf, he] at hst
    rw [run_eql_struct, run_neq_struct, hst]
    exact ⟨rfl, rfl⟩
  · cases h3

theorem bin_ok {op : BinOp} {T : TypeId} {a b x : AVal} {u v : Value} {p : Prop} (ha : Rep h w a u) (hb : Rep h w b v) (hx : abin P op T a b = some (p, x)) (hp : p) :
    ∃ r, (binOp op T u v).run P w = .ok r w ∧ Rep h w x r := by
  unfold abin at hx
  split at hx
  · rename_i k m k' n
    obtain rfl := ha.int_inv
    obtain rfl := hb.int_inv
    split at hx
    · simp only [Option.some.injEq, Prod.mk.injEq] at hx; obtain ⟨rfl, rfl⟩ := hx
      exact ⟨_, run_shift .shl k k' m n T (.inl rfl) hp w, .int _ _⟩
    · simp only [Option.some.injEq, Prod.mk.injEq] at hx; obtain ⟨rfl, rfl⟩ := hx
      exact ⟨_, run_shift .shr k k' m n T (.inr rfl) hp w, .int _ _⟩
    · split at hx
      · rename_i hk; subst hk
        exact int_ok hx hp w
      · cases hx
  · obtain ⟨s, rfl, hs⟩ := ha.str_inv
    obtain ⟨t, rfl, ht⟩ := hb.str_inv
    exact str_ok hs ht hx hp w
  · obtain rfl := ha.bool_inv
    obtain rfl := hb.bool_inv
    split at hx
    · rename_i hti
      have hu := und_bool hti rfl
      split at hx
      · simp only [Option.some.injEq, Prod.mk.injEq] at hx; obtain ⟨rfl, rfl⟩ := hx
        exact ⟨_, run_eql_bool w T _ _ hu, .bool _⟩
      · simp only [Option.some.injEq, Prod.mk.injEq] at hx; obtain ⟨rfl, rfl⟩ := hx
        exact ⟨_, run_neq_bool w T _ _ hu, .bool _⟩
      · cases hx
    · cases hx
  · split at hx
    · rename_i ks r hq
      cases ht : eqTy P T ks with
      | false => rw [ht] at hx; cases hx
      | true =>
        rw [ht] at hx
        simp only [cond_true] at hx
        obtain ⟨h1, h2⟩ := struct_eq ha hb hq ht
        split at hx
        · simp only [Option.some.injEq, Prod.mk.injEq] at hx; obtain ⟨rfl, rfl⟩ := hx
          exact ⟨_, h1, .bool _⟩
        · simp only [Option.some.injEq, Prod.mk.injEq] at hx; obtain ⟨rfl, rfl⟩ := hx
          exact ⟨_, h2, .bool _⟩
        · cases hx
    · cases hx
  · cases hx

theorem eqGuard_ok {op : BinOp} {T : TypeId} {x y : Operand} {a b r : AVal} {u v : Value} {p : Prop} (ha : Rep h w a u) (hb : Rep h w b v) (hx : abin P op T a b = some (p, r)) : (eqGuard op T x y u v).run P w = .ok () w := by
  unfold abin at hx
  split at hx
  · rw [ha.int_inv, eqGuard_at_int]; rfl
  · obtain ⟨s, rfl, _⟩ := ha.str_inv; rw [eqGuard_at_string]; rfl
  · rw [ha.bool_inv, eqGuard_at_bool]; rfl
  · split at hx
    · rename_i ks r' hq
      cases ht : eqTy P T ks with
      | false => rw [ht] at hx; cases hx
      | true =>
        obtain ⟨us, rfl, _⟩ := agg_inv ha
        obtain ⟨vs, rfl, _⟩ := agg_inv hb
        simp only [eqTy, Bool.and_eq_true, Bool.not_eq_true'] at ht
        exact run_eqGuard_agg (P := P) w op T x y us.toArray vs.toArray ht.2
    · cases hx
  · cases hx

theorem un_ok {op : UnOp} {a x : AVal} {u : Value} {p : Prop} (ha : Rep h w a u) (hx : aun op a = some (p, x)) : ∃ r, (Op.unary op u).run P w = .ok r w ∧ Rep h w x r := by
  unfold aun at hx
  split at hx
  · simp only [Option.some.injEq, Prod.mk.injEq] at hx; obtain ⟨rfl, rfl⟩ := hx
    rw [ha.bool_inv]; exact ⟨_, rfl, .bool _⟩
  · simp only [Option.some.injEq, Prod.mk.injEq] at hx; obtain ⟨rfl, rfl⟩ := hx
    rw [ha.int_inv]; exact ⟨_, rfl, .int _ _⟩
  · cases hx

theorem bytes_inv : ∀ {es : List (List AVal)} {s : List UInt8}, abytes es = some s → ∃ ns : List Int, es = (ns.map fun n => [AVal.int .u8 n]) ∧ s = ns.map fun n => UInt8.ofNat n.toNat
  | [], s, hs => by simp only [abytes] at hs; injection hs with hs; subst hs; exact ⟨[], rfl, rfl⟩
  | e :: r, s, hs => by
    unfold abytes at hs
    split at hs
    · rename_i heq; cases heq
    · rename_i n r' heq
      injection heq with h1 h2
      subst h1; subst h2
      obtain ⟨l, hl, rfl⟩ := Option.map_eq_some_iff.1 hs
      obtain ⟨ns, rfl, rfl⟩ := bytes_inv hl
      exact ⟨n :: ns, rfl, rfl⟩
    · cases hs

theorem foldl_push (ns : List Int) : ∀ s : ByteArray, ((ns.foldl (fun (r : ByteArray) n => r.push (UInt8.ofNat n.toNat)) s).data.toList) = s.data.toList ++ ns.map fun n => UInt8.ofNat n.toNat := by
  induction ns with
  | nil => intro s; simp
  | cons n r ih => intro s; rw [List.foldl_cons, ih]; simp [ByteArray.push]

theorem bytes_ok {sz : Nat} {es : List (List AVal)} {t : Tag} {s : List UInt8} {v : Value} (hsz : sz = 1 ∨ es = []) (hv : Rep h w (.sl sz es t) v) (hs : abytes es = some s) :
    ∃ u, (Conv.bytesToString v).run P w = .ok u w ∧ Rep h w (.str s) u := by
  obtain ⟨ns, rfl, rfl⟩ := bytes_inv hs
  have hsz' : sz = 1 ∨ ns = [] := by rcases hsz with h1 | h1; exact .inl h1; exact .inr (by simpa using h1)
  generalize hes : (ns.map fun n => [AVal.int .u8 n]) = es at hv
  cases hv with
  | slnl => exact ⟨.string .empty, rfl, .str_mk _ _ (by simp at hes; subst hes; rfl)⟩
  | slnil => exact ⟨.string .empty, rfl, .str_mk _ _ (by simp at hes; subst hes; rfl)⟩
  | sl _ _ _ a cap ha hcap hsz hc hr ho ht =>
    subst hes
    have hcell : ∀ j v, (ns.map (Value.int .u8))[j]? = some v → w.cell? (a.add j) = some v := fun j v hj => by
      have hlt : j < ns.length := by have := (List.getElem?_eq_some_iff.1 hj).1; simpa using this
      rcases hsz' with rfl | rfl
      · obtain ⟨⟨u, hu⟩, _⟩ := hc j (by simpa using hlt)
        have := hr j 0 [AVal.int .u8 ns[j]] (.int .u8 ns[j]) u (by simp [hlt]) rfl (by simpa using hu)
        rw [hu, this.int_inv, ← hj]
        simp [hlt]
      · simp at hlt
    have hload : (loadCells a ns.length).run P w = .ok (ns.map (Value.int .u8)).toArray w := by
      have := run_loadCells_list (P := P) w a (ns.map (Value.int .u8)) hcell
      simpa using this
    refine ⟨_, by rw [List.length_map]; exact run_bytesToString w a ns.length cap ns hload, .str_mk _ _ ?_⟩
    rw [foldl_push]
    rfl

theorem conv_ok {src dst : TypeId} {a x : AVal} {v : Value} {p : Prop} (ha : Rep h w a v) (hx : aconv P src dst a = some (p, x)) : ∃ u, (convert src dst v).run P w = .ok u w ∧ Rep h w x u := by
  unfold aconv at hx
  split at hx
  · rename_i k' hs hd
    simp only [Option.some.injEq, Prod.mk.injEq] at hx; obtain ⟨rfl, rfl⟩ := hx
    rw [ha.int_inv]
    obtain ⟨d, hd1, _⟩ := run_und hs
    have hd2 := und_int hd rfl
    refine ⟨_, ?_, .int _ _⟩
    unfold convert
    simp only [Sem.run_bind, run_underlying hd1, run_underlying hd2, Result.andThen_ok]
    simp [Conv.intToInt]
  · rename_i hs hd
    simp only [Option.some.injEq, Prod.mk.injEq] at hx; obtain ⟨rfl, rfl⟩ := hx
    obtain ⟨t, rfl, ht⟩ := ha.str_inv
    obtain ⟨d, hd1, _⟩ := run_und hs
    have hd2 := und_str hd rfl
    refine ⟨_, ?_, .str_mk _ _ ht⟩
    unfold convert
    simp only [Sem.run_bind, run_underlying hd1, run_underlying hd2, Result.andThen_ok]
    simp
  · rename_i e hs hd
    have hs1 := und_sl hs rfl
    have hd1 := und_str hd rfl
    split at hx
    · rename_i he
      have he1 := und_int he rfl
      split at hx
      · rename_i hc
        obtain ⟨s, hs', hxx⟩ := Option.map_eq_some_iff.1 hx
        simp only [Prod.mk.injEq] at hxx
        obtain ⟨rfl, rfl⟩ := hxx
        obtain ⟨u, hu, hur⟩ := bytes_ok (P := P) hc ha hs'
        refine ⟨u, ?_, hur⟩
        unfold convert
        simp only [Sem.run_bind, run_underlying hs1, run_underlying hd1, Result.andThen_ok]
        cases ha <;> simpa [Sem.run_bind, run_underlying he1] using hu
      · cases hx
    · cases hx
  · cases hx

end
end Go.Abs
