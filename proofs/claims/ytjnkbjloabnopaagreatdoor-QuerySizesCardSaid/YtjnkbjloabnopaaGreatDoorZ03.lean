/- Every operation that turns no managed memory, third part: slices, addresses, calls of builtins; and all of them in one theorem. Over any program; no conditions. -/
import Derived.Test.YtjnkbjloabnopaaGreatDoorZ02
import Derived.Lib.AppendStr
namespace Go.Abs

section
variable {P : Program} {G : Nat → Option Obj} {h : AHeap} {w : World} {ρa : Operand → Option AVal} {ρc : Operand → Value}

theorem sbound (P : Program) (w : World) (k : IntKind) (n : Int) (y : Nat) (code : BoundsCode) (h0 : 0 ≤ n) (h1 : n ≤ y) : (Instr.sliceBound (.int k n) y code).run P w = .ok n.toNat w := by
  unfold Instr.sliceBound
  simp only [asIntOf, Sem.run_bind, Sem.run_pure, Result.andThen_ok]
  rw [if_pos ⟨h0, h1⟩]
  rfl

/-- The bounds of a slice expression, where they are good. -/
theorem bounds_ok (isSl : Bool) (len cap : Nat) (lo hi : Option Int) (vlo vhi : Option Value) (hlo : ∀ n, lo = some n → ∃ k, vlo = some (.int k n)) (hlo' : lo = none → vlo = none)
    (hhi : ∀ n, hi = some n → ∃ k, vhi = some (.int k n)) (hhi' : hi = none → vhi = none) (h1 : 0 ≤ lo.getD 0) (h2 : lo.getD 0 ≤ hi.getD len) (h3 : hi.getD len ≤ len) (hc : len ≤ cap) (w : World) :
    (Instr.sliceBounds isSl len cap vlo vhi none).run P w = .ok ((lo.getD 0).toNat, (hi.getD len).toNat, cap) w := by
  cases hi with
  | none =>
    obtain rfl := hhi' rfl
    simp only [Option.getD_none] at h2 h3
    cases lo with
    | none =>
      obtain rfl := hlo' rfl
      simp [Instr.sliceBounds]
    | some n =>
      obtain ⟨k, rfl⟩ := hlo n rfl
      simp only [Option.getD_some] at h1 h2
      simp [Instr.sliceBounds, sbound P w k n len _ h1 h2]
  | some m =>
    obtain ⟨k', rfl⟩ := hhi m rfl
    simp only [Option.getD_some] at h2 h3
    have h4 : m ≤ (cap : Int) := by omega
    cases lo with
    | none =>
      obtain rfl := hlo' rfl
      simp only [Option.getD_none] at h2
      simp [Instr.sliceBounds, sbound P w k' m cap _ h2 h4]
    | some n =>
      obtain ⟨k, rfl⟩ := hlo n rfl
      simp only [Option.getD_some] at h1 h2
      have h5 : 0 ≤ m := by omega
      have h6 : n ≤ ((m.toNat : Nat) : Int) := by omega
      simp [Instr.sliceBounds, sbound P w k' m cap _ h5 h4, sbound P w k n m.toNat _ h1 h6]

theorem Cells.sub {a : Addr} {n m k : Nat} (hc : Cells h w a n) (hm : k + m ≤ n) : Cells h w (a.add k) m := fun i hi => by
  have e : (a.add k).add i = a.add (k + i) := by
    unfold Addr.add
    by_cases h1 : k = 0 <;> by_cases h2 : i = 0 <;> simp [h1, h2, Nat.add_assoc]
  rw [e]
  exact hc (k + i) (by omega)

theorem add_add (a : Addr) (k i : Nat) : (a.add k).add i = a.add (k + i) := by
  unfold Addr.add
  by_cases h1 : k = 0 <;> by_cases h2 : i = 0 <;> simp [h1, h2, Nat.add_assoc]

theorem Rep.len {sz : Nat} {es : List (List AVal)} {t : Tag} {v : Value} (hv : Rep h w (.sl sz es t) v) : ∃ a c, v = .slice a es.length c ∧ es.length ≤ c := by
  cases hv with
  | slnl => exact ⟨_, _, rfl, Nat.le_refl _⟩
  | slnil => exact ⟨_, _, rfl, Nat.le_refl _⟩
  | sl _ _ _ a cap ha hcap => exact ⟨_, _, rfl, hcap⟩

theorem slice_ok {T : TypeId} {a x : AVal} {v : Value} {lo hi : Option Int} {vlo vhi : Option Value} {p : Prop} (ha : Rep h w a v) (hx : aslice P T a lo hi = some (p, x)) (hp : p)
    (hlo : ∀ n, lo = some n → ∃ k, vlo = some (.int k n)) (hlo' : lo = none → vlo = none) (hhi : ∀ n, hi = some n → ∃ k, vhi = some (.int k n)) (hhi' : hi = none → vhi = none) :
    ∃ u, (Instr.sliceAt T v vlo vhi none).run P w = .ok u w ∧ Rep h w x u := by
  unfold aslice at hx
  split at hx
  · rename_i s hT
    simp only [Option.some.injEq, Prod.mk.injEq] at hx
    obtain ⟨rfl, rfl⟩ := hx
    obtain ⟨t, rfl, ht⟩ := ha.str_inv
    have hl : t.size = s.length := by rw [← ht, Array.length_toList]; rfl
    obtain ⟨h1, h2, h3⟩ := hp
    have hb := bounds_ok (P := P) false t.size t.size lo hi vlo vhi hlo hlo' hhi hhi' h1 (by rw [hl]; exact h2) (by rw [hl]; exact h3) (Nat.le_refl _) w
    have hu := und_str hT rfl
    refine ⟨_, ?_, .str_mk _ (t.extract (lo.getD 0).toNat (hi.getD s.length).toNat) ?_⟩
    · simp only [Instr.sliceAt, Instr.slice, Sem.run_bind, run_underlying hu, Result.andThen_ok]
      rw [hl] at hb
      simp [hl, hb]
    · rw [ByteArray.data_extract, Array.toList_extract, ht]
      simp [List.extract_eq_take_drop, List.drop_take]
  · rename_i e sz es t hT
    split at hx
    · rename_i ie hie
      split at hx
      · rename_i hsz
        simp only [Option.some.injEq, Prod.mk.injEq] at hx
        obtain ⟨rfl, rfl⟩ := hx
        obtain ⟨h1, h2, h3⟩ := hp
        have hu := und_sl hT rfl
        obtain ⟨A, C, rfl, hC⟩ := ha.len
        have hb := bounds_ok (P := P) true es.length C lo hi vlo vhi hlo hlo' hhi hhi' h1 h2 h3 hC w
        have hrun : (Instr.sliceAt T (.slice A es.length C) vlo vhi none).run P w = .ok (.slice (if C = (lo.getD 0).toNat then A else A.map (·.add ((lo.getD 0).toNat * ie.size))) ((hi.getD es.length).toNat - (lo.getD 0).toNat) (C - (lo.getD 0).toNat)) w := by
          simp only [Instr.sliceAt, Instr.slice, Sem.run_bind, run_underlying hu, Result.andThen_ok, hb, Sem.run_pure, run_sizeOf hie]
        generalize hL : (lo.getD 0).toNat = L at *
        generalize hH : (hi.getD es.length).toNat = H at *
        have hLH : L ≤ H := by omega
        have hHE : H ≤ es.length := by omega
        have hlen : ((es.take H).drop L).length = H - L := by simp; omega
        refine ⟨_, hrun, ?_⟩
        cases ha with
        | slnl =>
          simp at hHE
          obtain rfl : H = 0 := hHE
          obtain rfl : L = 0 := by omega
          simp
          exact .slnil _
        | slnil =>
          simp at hHE
          obtain rfl : H = 0 := hHE
          obtain rfl : L = 0 := by omega
          simp
          exact .slnil _
        | sl _ _ _ a cap ha hcap hes hc hr ho ht =>
          have hempty : es = [] → L = 0 ∧ H = 0 := fun he => by subst he; simp at hHE; omega
          have hmem : ∀ e, e ∈ (es.take H).drop L → e ∈ es := fun e he => List.mem_of_mem_take (List.mem_of_mem_drop he)
          by_cases hCL : C = L
          · rw [if_pos hCL]
            have hnil : (es.take H).drop L = [] := by apply List.eq_nil_of_length_eq_zero; rw [hlen]; omega
            rw [hnil, show H - L = ([] : List (List AVal)).length by simp; omega]
            exact .sl sz [] .frz a _ ha (by simp) (fun _ he => absurd he List.not_mem_nil) (fun i hi => by simp at hi) (fun i j e c v hi => by simp at hi) (fun _ _ he => absurd he List.not_mem_nil) trivial
          · rw [if_neg hCL, ← hlen]
            have hsz' : es = [] ∨ ie.size = sz := hsz.symm
            rcases hsz' with he | hs
            · obtain ⟨rfl, rfl⟩ := hempty he
              subst he
              simp only [Nat.zero_mul, Option.map_some]
              exact .sl sz _ .frz _ _ (spot_add _ _ ha) (by simp) (fun e hm => by simp at hm) (fun i hi => by simp at hi) (fun i j e c v hi => by simp at hi) (fun _ _ hm => by simp at hm) trivial
            · rw [hs]
              simp only [Option.map_some]
              refine .sl sz _ .frz _ _ (spot_add _ _ ha) (by rw [hlen]; omega) (fun e hm => hes e (hmem e hm)) ?_ (fun i j e c v hi hj hv => ?_) (fun e c hm hcm => ho e c (hmem e hm) hcm) trivial
              · rw [hlen]
                refine hc.sub ?_
                rw [← Nat.add_mul]
                exact Nat.mul_le_mul_right _ (by omega)
              · rw [List.getElem?_drop, List.getElem?_take] at hi
                split at hi
                · rw [add_add, ← Nat.add_assoc, ← Nat.add_mul] at hv
                  exact hr (L + i) j e c v hi hj hv
                · cases hi
      · cases hx
    · cases hx
  · cases hx

theorem part_ok {T : TypeId} {i : TI} {cs : List AVal} {vs : Array Value} {off : Nat} {x : AVal} (hi : tyi P T = some i) (hc : Reps h w cs vs.toList) (ho : ∀ c, c ∈ cs → c.one = true) (hx : apart i cs off = some x) :
    ∃ u, (part T vs off).run P w = .ok u w ∧ Rep h w x u := by
  unfold apart at hx
  unfold part
  simp only [Sem.run_bind, run_isAgg hi, Result.andThen_ok]
  split at hx
  · rename_i hagg
    rw [if_pos hagg]
    split at hx
    · rename_i hl
      injection hx with hx
      subst hx
      simp only [Sem.run_bind, run_sizeOf hi, Result.andThen_ok, Sem.run_pure]
      refine ⟨_, rfl, ?_⟩
      have := Rep.agg ((cs.drop off).take i.size) ((vs.toList.drop off).take i.size) ((hc.drop off).take i.size).1 ((hc.drop off).take i.size).2 (fun c hm => ho c (List.mem_of_mem_drop (List.mem_of_mem_take hm)))
      have e : (vs.extract off (off + i.size)) = ((vs.toList.drop off).take i.size).toArray := by
        apply Array.toList_inj.1
        rw [Array.toList_extract]
        simp [List.extract_eq_take_drop]
      rw [e]
      exact this
    · cases hx
  · rename_i hagg
    rw [if_neg hagg]
    have hlt := (List.getElem?_eq_some_iff.1 hx).1
    have hv : off < vs.size := by have := hc.1; simp at this; omega
    refine ⟨vs[off], by simp [Array.getElem?_eq_getElem hv], hc.2 off x _ hx (by simp [hv])⟩

theorem field_ok {T : TypeId} {i ft : TI} {fs : List (TypeId × Nat × Nat)} {cs : List AVal} {f ti off sz : Nat} {x : AVal} {v : Value} (hi : tyi P T = some i) (hk : i.kind = .st fs) (ha : Rep h w (.agg cs) v)
    (hf : fs[f]? = some (ti, off, sz)) (hft : tyi P ti = some ft) (hx : apart ft cs off = some x) : ∃ u, (Instr.field T v f).run P w = .ok u w ∧ Rep h w x u := by
  obtain ⟨l, hu, hfs, _⟩ := und_st hi hk
  cases ha with
  | agg _ vs hl hr ho =>
    rw [hfs, List.getElem?_map] at hf
    obtain ⟨fd, hf1, hf2⟩ := Option.map_eq_some_iff.1 hf
    simp only [Prod.mk.injEq] at hf2
    obtain ⟨rfl, rfl, _⟩ := hf2
    obtain ⟨u, h1, h2⟩ := part_ok (P := P) (vs := vs.toArray) hft ⟨by simpa using hl, by simpa using hr⟩ ho hx
    refine ⟨u, ?_, h2⟩
    have hf3 : l[f]? = some fd := by simpa using hf1
    simp only [Instr.field, Sem.run_bind, run_underlying hu, Result.andThen_ok, hf3, asAgg, Sem.run_pure, h1]

theorem fieldPlace_ok {T : TypeId} {i : TI} {fs : List (TypeId × Nat × Nat)} {f ti off sz : Nat} {a : Addr} (hi : tyi P T = some i) (hk : i.kind = .st fs) (hf : fs[f]? = some (ti, off, sz)) (hs : sz ≠ 0) (w : World) :
    (Instr.fieldAt T (.pointer (some a)) f).run P w = .ok (.pointer (some (a.add off))) w := by
  obtain ⟨l, hu, hfs, hinfo⟩ := und_st hi hk
  rw [hfs, List.getElem?_map] at hf
  obtain ⟨fd, hf1, hf2⟩ := Option.map_eq_some_iff.1 hf
  simp only [Prod.mk.injEq] at hf2
  obtain ⟨rfl, rfl, rfl⟩ := hf2
  obtain ⟨n, hn⟩ := hinfo fd (List.mem_of_getElem? hf1)
  have hf3 : l[f]? = some fd := by simpa using hf1
  have hz : n.size ≠ 0 := by simpa [cellsOf, hn] using hs
  simp only [Instr.fieldAt, Sem.run_bind, run_underlying hu, Result.andThen_ok, hf3, Instr.sureAddr, Sem.run_pure, fieldPlace, sizeOf, typeInfo, run_program, hn]
  rw [if_neg hz]
  simp

theorem cptr_drop {cs : List AVal} {a : Addr} {k : Nat} (hk : k ≤ cs.length) (hr : Rep h w (.cptr cs) (.pointer (some a))) : Rep h w (.cptr (cs.drop k)) (.pointer (some (a.add k))) := by
  cases hr with
  | cptr _ _ ha hc hr ho =>
    refine .cptr _ _ (spot_add _ _ ha) (hc.sub (by rw [List.length_drop]; omega)) (fun i c v hi hv => ?_) (fun c hm => ho c (List.mem_of_mem_drop hm))
    rw [List.getElem?_drop] at hi
    rw [add_add] at hv
    exact hr _ c v hi hv

theorem indexAddr_ok {T e : TypeId} {i ie : TI} {sz : Nat} {es : List (List AVal)} {t : Tag} {k : IntKind} {n : Int} {v : Value} (hi : tyi P T = some i) (hk : i.kind = .sl e) (hie : tyi P e = some ie) (hs : ie.size = sz)
    (hv : Rep h w (.sl sz es t) v) (h0 : 0 ≤ n) (h1 : n < es.length) : ∃ u, (Instr.indexAt T v (.int k n)).run P w = .ok u w ∧ Rep h w (.cptr (es.getD n.toNat [])) u := by
  have hu := und_sl hi hk
  cases hv with
  | slnl => simp at h1; omega
  | slnil => simp at h1; omega
  | sl _ _ _ a cap ha hcap hes hc hr ho ht =>
    have hlt : n.toNat < es.length := by omega
    have hget : es.getD n.toNat [] = es[n.toNat] := by rw [List.getD_eq_getElem?_getD, List.getElem?_eq_getElem hlt]; rfl
    have hle : n.toNat * sz + sz ≤ es.length * sz := by rw [← Nat.succ_mul]; exact Nat.mul_le_mul_right _ hlt
    refine ⟨.pointer (some (a.add (n.toNat * sz))), ?_, ?_⟩
    · simp only [Instr.indexAt, asIntOf, Sem.run_bind, Sem.run_pure, Result.andThen_ok, run_underlying hu, run_sizeOf hie, hs]
      rw [if_pos ⟨h0, h1⟩]
      simp only [Sem.run_bind, run_sizeOf hie, Result.andThen_ok, Sem.run_pure, hs]
    · have hesl := hes es[n.toNat] (List.getElem_mem hlt)
      rw [hget]
      refine .cptr _ _ (spot_add _ _ ha) (by rw [hesl]; exact hc.sub hle) (fun j c v hj hv => ?_) (fun c hm => ho _ c (List.getElem_mem hlt) hm)
      rw [add_add] at hv
      exact hr n.toNat j _ c v (List.getElem?_eq_getElem hlt) hj hv

theorem indexAddr_arr_ok {T e : TypeId} {i ie : TI} {len g o : Nat} {k : IntKind} {n : Int} {v : Value} (hi : tyi P T = some i) (hk : i.kind = .arr len e) (hie : tyi P e = some ie)
    (hv : Rep h w (.ptr g o) v) (h0 : 0 ≤ n) (h1 : n < len) : ∃ u, (Instr.indexAt T v (.int k n)).run P w = .ok u w ∧ Rep h w (.ptr g (o + n.toNat * ie.size)) u := by
  have hu := und_arr hi hk
  cases hv
  have ha : (⟨g, o, none⟩ : Addr).add (n.toNat * ie.size) = ⟨g, o + n.toNat * ie.size, none⟩ := by unfold Addr.add; split <;> simp_all
  refine ⟨.pointer (some ⟨g, o + n.toNat * ie.size, none⟩), ?_, .ptr _ _⟩
  simp only [Instr.indexAt, asIntOf, Sem.run_bind, Sem.run_pure, Result.andThen_ok, run_underlying hu, Instr.sureAddr]
  rw [if_pos ⟨h0, h1⟩]
  simp only [Sem.run_bind, run_sizeOf hie, Result.andThen_ok, Sem.run_pure, ha]

theorem index_ok {T : TypeId} {i : TI} {s : List UInt8} {k : IntKind} {n : Int} {v : Value} (hi : tyi P T = some i) (hk : i.kind = .str) (hv : Rep h w (.str s) v) (h0 : 0 ≤ n) (h1 : n < s.length) :
    (Instr.index T v (.int k n)).run P w = .ok (.int .u8 (s.getD n.toNat 0).toNat) w := by
  have hu := und_str hi hk
  obtain ⟨t, rfl, ht⟩ := hv.str_inv
  have hl : t.size = s.length := by rw [← ht, Array.length_toList]; rfl
  have hlt : n.toNat < t.size := by omega
  have hb : t[n.toNat]? = some t[n.toNat] := ByteArray.getElem?_lt' t _ hlt
  have he : s.getD n.toNat 0 = t[n.toNat] := by
    subst ht
    rw [List.getD_eq_getElem?_getD, List.getElem?_eq_getElem (by rw [Array.length_toList]; exact hlt)]
    rfl
  simp only [Instr.index, asIntOf, Sem.run_bind, Sem.run_pure, Result.andThen_ok, run_underlying hu]
  rw [if_pos h0, hb, he]
  rfl

theorem index_arr_ok {T e : TypeId} {i ie : TI} {len : Nat} {cs : List AVal} {k : IntKind} {n : Int} {v : Value} {x : AVal} (hi : tyi P T = some i) (hk : i.kind = .arr len e) (hie : tyi P e = some ie) (hv : Rep h w (.agg cs) v)
    (hx : apart ie cs (n.toNat * ie.size) = some x) (h0 : 0 ≤ n) (h1 : n < len) : ∃ u, (Instr.index T v (.int k n)).run P w = .ok u w ∧ Rep h w x u := by
  have hu := und_arr hi hk
  cases hv with
  | agg _ vs hl hr ho =>
    obtain ⟨u, a1, a2⟩ := part_ok (P := P) (vs := vs.toArray) hie ⟨by simpa using hl, by simpa using hr⟩ ho hx
    refine ⟨u, ?_, a2⟩
    simp only [Instr.index, asIntOf, Sem.run_bind, Sem.run_pure, Result.andThen_ok, run_underlying hu]
    rw [if_pos ⟨h0, h1⟩]
    simp only [Sem.run_bind, run_sizeOf hie, Result.andThen_ok, a1]


theorem min_ok (k : IntKind) (a b : Int) (T : Array TypeId) (t : TypeId) (w : World) : (Builtin.min_ T t #[.int k a, .int k b]).run P w = .ok (.int k (min a b)) w := by
  have : (if b < a then b else a) = min a b := by rw [Int.min_def]; split <;> split <;> omega
  simp [Builtin.min_, Builtin.min2, this]

theorem max_ok (k : IntKind) (a b : Int) (T : Array TypeId) (t : TypeId) (w : World) : (Builtin.max_ T t #[.int k a, .int k b]).run P w = .ok (.int k (max a b)) w := by
  have : (if b > a then b else a) = max a b := by rw [Int.max_def]; split <;> split <;> omega
  simp [Builtin.max_, Builtin.max2, this]

/-- ALL OF THEM. -/
theorem ard_ok {o : Oper} {p : Prop} {x : AVal} (hr : Rel G h w) (hx : ard P h ρa o.op = some (p, x)) (hp : p) (ho : OpsRep h w ρa ρc o.op.operands.toList) : ROk P G h w (execOp ρc o) x := by
  obtain ⟨dst, op, ty, pos, after, guard⟩ := o
  simp only at hx ho ⊢
  unfold execOp
  cases op <;> simp only [ard] at hx <;> (try cases hx) <;> dsimp only
  case move y =>
    obtain ⟨v, hv, hvx⟩ := Option.map_eq_some_iff.1 hx
    simp only [Prod.mk.injEq] at hvx
    obtain ⟨rfl, rfl⟩ := hvx
    exact rok hr rfl (ho y (by simp [Op.operands]) _ hv)
  case assign y =>
    obtain ⟨v, hv, hvx⟩ := Option.map_eq_some_iff.1 hx
    simp only [Prod.mk.injEq] at hvx
    obtain ⟨rfl, rfl⟩ := hvx
    exact rok hr rfl (ho y (by simp [Op.operands]) _ hv)
  case build t parts =>
    split at hx
    · rename_i fs z ps hti hpa
      obtain ⟨cs, hcs, hvx⟩ := Option.map_eq_some_iff.1 hx
      simp only [Prod.mk.injEq] at hvx
      obtain ⟨rfl, rfl⟩ := hvx
      obtain ⟨v, h1, h2⟩ := build_ok (P := P) hr hti rfl rfl hpa hcs (by simpa [Op.operands] using ho)
      exact rok hr (by simp only [Sem.run_bind, h1, Result.andThen_ok, Sem.run_pure]) h2
    · rename_i n el z ps hti hpa
      split at hx
      · rename_i ie hie
        obtain ⟨cs, hcs, hvx⟩ := Option.map_eq_some_iff.1 hx
        simp only [Prod.mk.injEq] at hvx
        obtain ⟨rfl, rfl⟩ := hvx
        obtain ⟨v, h1, h2⟩ := build_arr_ok (P := P) hr hti rfl hie rfl hpa hcs (by simpa [Op.operands] using ho)
        exact rok hr (by simp only [Sem.run_bind, h1, Result.andThen_ok, Sem.run_pure]) h2
      · cases hx
    · cases hx
  case buildSlice t len parts =>
    split at hx
    · rename_i e ps hti hpa
      split at hx
      · rename_i sz z hie
        split at hx
        · rename_i hc
          obtain ⟨c1, c2, c3, c4⟩ := hc
          obtain ⟨es, hes, hvx⟩ := Option.map_eq_some_iff.1 hx
          simp only [Prod.mk.injEq] at hvx
          obtain ⟨rfl, rfl⟩ := hvx
          obtain ⟨v, w', h1, h2, h3, h4⟩ := buildSlice_ok (P := P) hr hti rfl hie rfl rfl hpa c1 c2 c3 c4 hes (by simpa [Op.operands] using ho)
          exact ⟨v, w', by simp only [Sem.run_bind, h1, Result.andThen_ok, Sem.run_pure], h2, h3, h4⟩
        · cases hx
      · cases hx
    · cases hx
  case load T a =>
    split at hx
    · rename_i i xa hti ha
      split at hx
      · rename_i cs hcs
        obtain ⟨y, hy, hvx⟩ := Option.map_eq_some_iff.1 hx
        simp only [Prod.mk.injEq] at hvx
        obtain ⟨rfl, rfl⟩ := hvx
        obtain ⟨u, h1, h2⟩ := load_ok hti hr hcs (ho a (by simp [Op.operands]) _ ha) hy
        exact rok hr (by simp only [Sem.run_bind, h1, Result.andThen_ok, Sem.run_pure]) h2
      · cases hx
    · cases hx
  case nilCheck y =>
    split at hx
    · rename_i g off hy
      simp only [Option.some.injEq, Prod.mk.injEq] at hx; obtain ⟨rfl, rfl⟩ := hx
      have hv := ho y (by simp [Op.operands]) _ hy
      generalize hval : ρc y = v at hv
      cases hv
      refine rok hr (v := .pointer (some ⟨g, off, none⟩)) ?_ (.ptr _ _)
      rfl
    · rename_i cs hy
      simp only [Option.some.injEq, Prod.mk.injEq] at hx; obtain ⟨rfl, rfl⟩ := hx
      have hv := ho y (by simp [Op.operands]) _ hy
      generalize hval : ρc y = v at hv
      have hv' := hv
      cases hv
      refine rok hr ?_ hv'
      rfl
    · rename_i f a c hy
      simp only [Option.some.injEq, Prod.mk.injEq] at hx; obtain ⟨rfl, rfl⟩ := hx
      have hv := ho y (by simp [Op.operands]) _ hy
      generalize hval : ρc y = v at hv
      have hv' := hv
      cases hv
      refine rok hr ?_ hv'
      rfl
    · cases hx
  case binOp op T a b yT =>
    split at hx
    · rename_i xa xb hxa hxb
      have h1 := ho a (by simp [Op.operands]) _ hxa
      have h2 := ho b (by simp [Op.operands]) _ hxb
      obtain ⟨r, h3, h4⟩ := bin_ok (P := P) h1 h2 hx hp
      refine rok hr ?_ h4
      simp only [eqGuard_ok h1 h2 hx, Sem.run_bind, Sem.run_pure, Result.andThen_ok, h3]
    · cases hx
  case unOp op T a =>
    split at hx
    · rename_i xa hxa
      obtain ⟨r, h3, h4⟩ := un_ok (P := P) (ho a (by simp [Op.operands]) _ hxa) hx
      exact rok hr (by simp only [Sem.run_bind, h3, Result.andThen_ok, Sem.run_pure]) h4
    · cases hx
  case convert src dst a =>
    split at hx
    · rename_i xa hxa
      obtain ⟨r, h3, h4⟩ := conv_ok (P := P) (ho a (by simp [Op.operands]) _ hxa) hx
      exact rok hr (by simp only [Sem.run_bind, h3, Result.andThen_ok, Sem.run_pure]) h4
    · cases hx
  case makeInterface T a =>
    split at hx
    · cases hx
    · rename_i ti xa hne hti hxa
      simp only [Option.some.injEq, Prod.mk.injEq] at hx; obtain ⟨rfl, rfl⟩ := hx
      obtain ⟨d, hd, hk⟩ := run_und hti
      refine rok hr ?_ (.iface T _ _ (ho a (by simp [Op.operands]) _ hxa))
      simp only [Instr.makeInterface, Sem.run_bind, run_underlying hd, Result.andThen_ok]
      cases d <;> first | rfl | skip
      exfalso
      simp only [akOf] at hk
      exact hne ti.size ti.bytes ti.zero (by cases ti; simp only at hk; subst hk; rfl)
    · cases hx
  case makeFunc fn first captured =>
    split at hx
    · rename_i a c ha hc
      simp only [Option.some.injEq, Prod.mk.injEq] at hx; obtain ⟨rfl, rfl⟩ := hx
      obtain ⟨a1, a2⟩ := avals_rep ha (fun y hy => ho y (by simp [Op.operands]; exact .inl (by simpa using hy)))
      obtain ⟨c1, c2⟩ := avals_rep hc (fun y hy => ho y (by simp [Op.operands]; exact .inr (by simpa using hy)))
      refine rok hr (v := .func fn (first.map ρc) (captured.map ρc)) rfl ?_
      have := Rep.func fn a c (first.toList.map ρc) (captured.toList.map ρc) a1 c1 a2 c2
      rw [show first.map ρc = (first.toList.map ρc).toArray by rw [← Array.toList_map], show captured.map ρc = (captured.toList.map ρc).toArray by rw [← Array.toList_map]]
      exact this
    · cases hx
  case slice T a lo hi mx =>
    cases mx with
    | some m => cases hx
    | none =>
      simp only at hx
      split at hx
      · rename_i xa l u hxa hl hu
        split at hx
        · rename_i hc
          have hidx : ∀ (y : Option Operand) (l : Option Int), (∀ z, y = some z → z ∈ (Op.slice T a lo hi none).operands.toList) → aidx (y.bind ρa) = some l → (y.isSome → l.isSome) →
              (∀ n, l = some n → ∃ k, y.map ρc = some (.int k n)) ∧ (l = none → y.map ρc = none) := by
            intro y l hm hl hs
            cases y with
            | none => simp [aidx] at hl; subst hl; exact ⟨(fun n hn => by cases hn), fun _ => rfl⟩
            | some z =>
              have hz := ho z (hm z rfl)
              simp only [Option.bind_some] at hl
              unfold aidx at hl
              split at hl
              · simp at hl; subst hl; simp at hs
              · rename_i k n hk
                simp at hl; subst hl
                exact ⟨(fun m hm => by injection hm with hm; subst hm; exact ⟨k, by simp [(hz _ hk).int_inv]⟩), (fun h => by cases h)⟩
              · cases hl
          obtain ⟨l1, l2⟩ := hidx lo l (fun z hz => by subst hz; simp [Op.operands]) hl hc.1
          obtain ⟨u1, u2⟩ := hidx hi u (fun z hz => by subst hz; simp [Op.operands]) hu hc.2
          obtain ⟨r, h3, h4⟩ := slice_ok (P := P) (ho a (by simp [Op.operands]) _ hxa) hx hp l1 l2 u1 u2
          exact rok hr (by simp only [Option.map_none, Sem.run_bind, h3, Result.andThen_ok, Sem.run_pure]) h4
        · cases hx
      · cases hx
  case fieldAddr T a f =>
    split at hx
    · rename_i fs xa hti hxa
      have hv := ho a (by simp [Op.operands]) _ hxa
      split at hx
      · rename_i ft off sz g o hf
        split at hx
        · rename_i hs
          simp only [Option.some.injEq, Prod.mk.injEq] at hx; obtain ⟨rfl, rfl⟩ := hx
          generalize hval : ρc a = v at hv
          cases hv
          refine rok hr (v := .pointer (some ((⟨g, o, none⟩ : Addr).add off))) (by simp only [Sem.run_bind, fieldPlace_ok hti rfl hf hs, Result.andThen_ok, Sem.run_pure]) ?_
          have : (⟨g, o, none⟩ : Addr).add off = ⟨g, o + off, none⟩ := by unfold Addr.add; split <;> simp_all
          rw [this]
          exact .ptr _ _
        · cases hx
      · rename_i ft off sz cs hf
        split at hx
        · rename_i hs
          simp only [Option.some.injEq, Prod.mk.injEq] at hx; obtain ⟨rfl, rfl⟩ := hx
          generalize hval : ρc a = v at hv
          have hv' := hv
          cases hv with
          | cptr _ A ha hc hr' ho' =>
            exact rok hr (by simp only [Sem.run_bind, fieldPlace_ok hti rfl hf hs.1, Result.andThen_ok, Sem.run_pure]) (cptr_drop hs.2 hv')
        · cases hx
      · cases hx
    · cases hx
  case field T a f =>
    split at hx
    · rename_i fs cs hti hxa
      split at hx
      · rename_i ft off sz hf
        split at hx
        · rename_i i hft
          obtain ⟨y, hy, hvx⟩ := Option.map_eq_some_iff.1 hx
          simp only [Prod.mk.injEq] at hvx
          obtain ⟨rfl, rfl⟩ := hvx
          obtain ⟨r, h3, h4⟩ := field_ok (P := P) hti rfl (ho a (by simp [Op.operands]) _ hxa) hf hft hy
          exact rok hr (by simp only [Sem.run_bind, h3, Result.andThen_ok, Sem.run_pure]) h4
        · cases hx
      · cases hx
    · cases hx
  case indexAddr T a i =>
    split at hx
    · rename_i e sz es t k n hti hxa hxi
      split at hx
      · rename_i ti hie
        split at hx
        · rename_i hs
          simp only [Option.some.injEq, Prod.mk.injEq] at hx; obtain ⟨rfl, rfl⟩ := hx
          have hi := ho i (by simp [Op.operands]) _ hxi
          rw [hi.int_inv]
          obtain ⟨r, h3, h4⟩ := indexAddr_ok (P := P) (k := k) hti rfl hie hs (ho a (by simp [Op.operands]) _ hxa) hp.1 hp.2
          exact rok hr (by simp only [Sem.run_bind, h3, Result.andThen_ok, Sem.run_pure]) h4
        · cases hx
      · cases hx
    · rename_i len e g o k n hti hxa hxi
      split at hx
      · rename_i ti hie
        simp only [Option.some.injEq, Prod.mk.injEq] at hx; obtain ⟨rfl, rfl⟩ := hx
        have hi := ho i (by simp [Op.operands]) _ hxi
        rw [hi.int_inv]
        obtain ⟨r, h3, h4⟩ := indexAddr_arr_ok (P := P) (k := k) hti rfl hie (ho a (by simp [Op.operands]) _ hxa) hp.1 hp.2
        exact rok hr (by simp only [Sem.run_bind, h3, Result.andThen_ok, Sem.run_pure]) h4
      · cases hx
    · cases hx
  case index T a i =>
    split at hx
    · rename_i s k n hti hxa hxi
      simp only [Option.some.injEq, Prod.mk.injEq] at hx; obtain ⟨rfl, rfl⟩ := hx
      have hi := ho i (by simp [Op.operands]) _ hxi
      rw [hi.int_inv]
      exact rok hr (by simp only [Sem.run_bind, index_ok (k := k) hti rfl (ho a (by simp [Op.operands]) _ hxa) hp.1 hp.2, Result.andThen_ok, Sem.run_pure]) (.int _ _)
    · rename_i len e cs k n hti hxa hxi
      split at hx
      · rename_i ie hie
        obtain ⟨y, hy, hvx⟩ := Option.map_eq_some_iff.1 hx
        simp only [Prod.mk.injEq] at hvx
        obtain ⟨rfl, rfl⟩ := hvx
        have hi := ho i (by simp [Op.operands]) _ hxi
        rw [hi.int_inv]
        obtain ⟨r, h3, h4⟩ := index_arr_ok (P := P) (k := k) hti rfl hie (ho a (by simp [Op.operands]) _ hxa) hy hp.1 hp.2
        exact rok hr (by simp only [Sem.run_bind, h3, Result.andThen_ok, Sem.run_pure]) h4
      · cases hx
    · cases hx
  case extract a i =>
    split at hx
    · rename_i vs hxa
      obtain ⟨y, hy, hvx⟩ := Option.map_eq_some_iff.1 hx
      simp only [Prod.mk.injEq] at hvx
      obtain ⟨rfl, rfl⟩ := hvx
      have hv := ho a (by simp [Op.operands]) _ hxa
      generalize hval : ρc a = v at hv
      cases hv with
      | tuple _ us hl hr' =>
        have hlt := (List.getElem?_eq_some_iff.1 hy).1
        have hlt' : i < us.length := by omega
        refine rok hr (v := us[i]) ?_ (hr' i _ _ hy (List.getElem?_eq_getElem hlt'))

        simp [Instr.extract, hlt']
    · cases hx
  case call c =>
    obtain ⟨callee, args, argTypes⟩ := c
    cases callee with
    | value f => cases hx
    | invoke r m => cases hx
    | builtin b =>
      cases b <;> simp only at hx <;> (try cases hx)
      case len =>
        split at hx
        · rename_i y t hargs htys
          obtain rfl : args = #[y] := by rw [← Array.toArray_toList (xs := args), hargs]
          obtain rfl : argTypes = #[t] := by rw [← Array.toArray_toList (xs := argTypes), htys]
          split at hx
          · rename_i sz es tg e hy hti
            simp only [Option.some.injEq, Prod.mk.injEq] at hx; obtain ⟨rfl, rfl⟩ := hx
            obtain ⟨A, C, hv, _⟩ := (ho y (by simp [Op.operands, Call.operands]) _ hy).len
            refine rok hr ?_ (.int _ _)
            simp only [resolve, invoke, builtin, Sem.run_bind, Sem.run_pure, Result.andThen_ok, List.map_toArray, List.map_cons, List.map_nil, hv]
            simp [Builtin.len_, run_underlying (und_sl hti rfl), goInt]
          · rename_i s _ _ _ hy hti
            simp only [Option.some.injEq, Prod.mk.injEq] at hx; obtain ⟨rfl, rfl⟩ := hx
            obtain ⟨S, hv, hs⟩ := (ho y (by simp [Op.operands, Call.operands]) _ hy).str_inv
            have hl : S.size = s.length := by rw [← hs, Array.length_toList]; rfl
            refine rok hr ?_ (.int _ _)
            simp only [resolve, invoke, builtin, Sem.run_bind, Sem.run_pure, Result.andThen_ok, List.map_toArray, List.map_cons, List.map_nil, hv]
            simp [Builtin.len_, run_underlying (und_str hti rfl), goInt, hl]
          · cases hx
        · cases hx
      case min =>
        split at hx
        · rename_i y z hargs
          obtain rfl : args = #[y, z] := by rw [← Array.toArray_toList (xs := args), hargs]
          split at hx
          · rename_i k a k' b hy hz
            split at hx
            · rename_i hk
              subst hk
              simp only [Option.some.injEq, Prod.mk.injEq] at hx; obtain ⟨rfl, rfl⟩ := hx
              refine rok hr ?_ (.int _ _)
              simp only [resolve, invoke, builtin, Sem.run_bind, Sem.run_pure, Result.andThen_ok, List.map_toArray, List.map_cons, List.map_nil, (ho y (by simp [Op.operands, Call.operands]) _ hy).int_inv, (ho z (by simp [Op.operands, Call.operands]) _ hz).int_inv, min_ok]
            · cases hx
          · cases hx
        · cases hx
      case max =>
        split at hx
        · rename_i y z hargs
          obtain rfl : args = #[y, z] := by rw [← Array.toArray_toList (xs := args), hargs]
          split at hx
          · rename_i k a k' b hy hz
            split at hx
            · rename_i hk
              subst hk
              simp only [Option.some.injEq, Prod.mk.injEq] at hx; obtain ⟨rfl, rfl⟩ := hx
              refine rok hr ?_ (.int _ _)
              simp only [resolve, invoke, builtin, Sem.run_bind, Sem.run_pure, Result.andThen_ok, List.map_toArray, List.map_cons, List.map_nil, (ho y (by simp [Op.operands, Call.operands]) _ hy).int_inv, (ho z (by simp [Op.operands, Call.operands]) _ hz).int_inv, max_ok]
            · cases hx
          · cases hx
        · cases hx

end
end Go.Abs

/- Operations that turn managed memory: new variables, stores, append; what they leave. Over any program; no conditions. -/
namespace Go.Abs

/-- The row at g0 has become the row at g (the same, or a new one). -/
def AHeap.move (h : AHeap) (g0 g : Nat) (o : AObj) : AHeap := { get := fun x => if x = g then some o else if x = g0 then none else h.get x, next := max h.next (g + 1) }

section
variable {P : Program} {G : Nat → Option Obj} {h : AHeap} {w : World}

theorem drew_step (hr : Rel G h w) : Step h w h w.drew := by
  have := Step.refl hr
  exact ⟨this.os, this.tape, this.output, this.size, this.free, this.row, this.box⟩

theorem drew_rel (hr : Rel G h w) : Rel G h w.drew where
  wf := hr.wf
  nxt := hr.nxt
  box := fun g T cells hg => by
    obtain ⟨vs, h1, h2, h3⟩ := hr.box g T cells hg
    exact ⟨vs, h1, h2.step (drew_step hr), h3⟩
  row := hr.row
  glob := hr.glob

theorem new_step (hr : Rel G h w) (o : AObj) (b : Obj) : Step h w (h.new w.heap.size o) (w.alloc b) where
  os := rfl
  tape := rfl
  output := rfl
  size := by simp
  free := fun g hg hn => ⟨old_block w b g hg, by simp [AHeap.new, hn]; omega⟩
  row := fun g T len hg hh => by
    obtain ⟨vs, h1, _⟩ := hr.row g T len hh
    exact ⟨vs, vs, (0, 0), h1, (old_block w b g hg).trans h1, rfl, fun _ _ => rfl, .inr ⟨rfl, len, Nat.le_refl _, by simp [AHeap.new, hh]; omega⟩⟩
  box := fun g T cs hg hh => .inr ⟨cs, by simp [AHeap.new, hh]; omega⟩

theorem new_rel (hr : Rel G h w) (o : AObj) (b : Obj) (hbox : ∀ T cells, o = .box T cells → ∃ vs : List Value, b = .cells vs.toArray T (0, 0) ∧ Reps h w cells vs ∧ ∀ c, c ∈ cells → c.one = true)
    (hrow : ∀ T len, o = .row T len → ∃ vs : Array Value, b = .cells vs T (0, 0) ∧ len ≤ vs.size) : Rel G (h.new w.heap.size o) (w.alloc b) where
  wf := fun g o' hg => by
    simp only [AHeap.new] at hg ⊢
    split at hg
    · omega
    · have := hr.wf g o' hg; have := hr.nxt; omega
  nxt := by simp [AHeap.new]
  box := fun g T cells hg => by
    simp only [AHeap.new] at hg
    split at hg
    · rename_i he
      injection hg with hg
      obtain ⟨vs, h1, h2, h3⟩ := hbox T cells hg
      exact ⟨vs, by rw [he, new_block, h1], h2.step (new_step hr o b), h3⟩
    · obtain ⟨vs, h1, h2, h3⟩ := hr.box g T cells hg
      have : g < w.heap.size := (Array.getElem?_eq_some_iff.1 h1).1
      exact ⟨vs, (old_block w b g this).trans h1, h2.step (new_step hr o b), h3⟩
  row := fun g T len hg => by
    simp only [AHeap.new] at hg
    split at hg
    · rename_i he
      injection hg with hg
      obtain ⟨vs, h1, h2⟩ := hrow T len hg
      exact ⟨vs, by rw [he, new_block, h1], h2⟩
    · obtain ⟨vs, h1, h2⟩ := hr.row g T len hg
      have : g < w.heap.size := (Array.getElem?_eq_some_iff.1 h1).1
      exact ⟨vs, (old_block w b g this).trans h1, h2⟩
  glob := fun g o' hg => by
    obtain ⟨h1, h2⟩ := hr.glob g o' hg
    have : g < w.heap.size := (Array.getElem?_eq_some_iff.1 h1).1
    exact ⟨(old_block w b g this).trans h1, by simp [AHeap.new, h2]; omega⟩

/-! ### a store into a variable -/

theorem set_step (hr : Rel G h w) {g : Nat} {T : TypeId} {cs cs' : List AVal} {vs : Array Value} {f : Nat × Nat} (hg : h.get g = some (.box T cs)) (hb : w.heap[g]? = some (.cells vs T f)) (us : Array Value) :
    Step h w (h.set g (.box T cs')) (w.setRow g us) where
  os := rfl
  tape := rfl
  output := rfl
  size := by simp
  free := fun x hx hn => by
    have hne : x ≠ g := fun e => by rw [e, hg] at hn; cases hn
    exact ⟨setRow_other w g x us hne, by simp [AHeap.set, hne, hn]⟩
  row := fun x T' len hx hh => by
    have hne : x ≠ g := fun e => by rw [e, hg] at hh; cases hh
    obtain ⟨vs, h1, _⟩ := hr.row x T' len hh
    exact ⟨vs, vs, (0, 0), h1, (setRow_other w g x us hne).trans h1, rfl, fun _ _ => rfl, .inr ⟨rfl, len, Nat.le_refl _, by simp [AHeap.set, hne, hh]⟩⟩
  box := fun x T' c hx hh => by
    by_cases hne : x = g
    · subst hne
      rw [hg] at hh
      injection hh with hh
      injection hh with hT _
      subst hT
      exact .inr ⟨cs', by simp [AHeap.set]⟩
    · exact .inr ⟨c, by simp [AHeap.set, hne, hh]⟩

theorem set_rel (hr : Rel G h w) {g : Nat} {T : TypeId} {cs cs' : List AVal} {vs : Array Value} (hg : h.get g = some (.box T cs)) (hb : w.heap[g]? = some (.cells vs T (0, 0))) {us : List Value} (hu : Reps h w cs' us) (ho : ∀ c, c ∈ cs' → c.one = true) :
    Rel G (h.set g (.box T cs')) (w.setRow g us.toArray) where
  wf := fun x o hx => by
    simp only [AHeap.set] at hx ⊢
    split at hx
    · rename_i he; rw [he]; exact hr.wf g _ hg
    · exact hr.wf x o hx
  nxt := by show h.next ≤ _; simpa using hr.nxt
  box := fun x T' cells hx => by
    have hs := set_step (cs' := cs') hr hg hb us.toArray
    simp only [AHeap.set] at hx
    split at hx
    · rename_i he
      injection hx with hx
      injection hx with h1 h2
      subst h1
      subst h2
      subst he
      exact ⟨us, setRow_heap w x vs us.toArray T (0, 0) hb, hu.step hs, ho⟩
    · rename_i hne
      obtain ⟨vs, h1, h2, h3⟩ := hr.box x T' cells hx
      exact ⟨vs, (setRow_other w g x us.toArray hne).trans h1, h2.step hs, h3⟩
  row := fun x T' len hx => by
    simp only [AHeap.set] at hx
    split at hx
    · injection hx with hx; cases hx
    · rename_i hne
      obtain ⟨vs, h1, h2⟩ := hr.row x T' len hx
      exact ⟨vs, (setRow_other w g x us.toArray hne).trans h1, h2⟩
  glob := fun x o hx => by
    obtain ⟨h1, h2⟩ := hr.glob x o hx
    have hne : x ≠ g := fun e => by rw [e, hg] at h2; cases h2
    exact ⟨(setRow_other w g x us.toArray hne).trans h1, by simp [AHeap.set, hne, h2]⟩

theorem store_ok {T : TypeId} {i : TI} {T' : TypeId} {g off : Nat} {cs : List AVal} {x : AVal} {v : Value} (hr : Rel G h w) (hi : tyi P T = some i) (hg : h.get g = some (.box T' cs)) (hv : Rep h w x v) (hx : x.cells.length = i.size)
    (hl : off + i.size ≤ cs.length) (ht : isTuple x = false) :
    ∃ w', (Instr.storeAt T (.pointer (some ⟨g, off, none⟩)) v).run P w = .ok () w' ∧ Rel G (h.set g (.box T' (setCells cs off x.cells))) w' ∧ Step h w (h.set g (.box T' (setCells cs off x.cells))) w' := by
  obtain ⟨vs, hb, hc, ho⟩ := hr.box g T' cs hg
  obtain ⟨hcell, hone⟩ := hv.notTuple ht
  have hsz : v.cells.size = i.size := by rw [← hx, ← hcell.1]; simp
  have hvs : vs.length = cs.length := hc.1
  have h1 : ∀ u ∈ v.cells.toList, u.oneCell' = true := fun u hu => by
    obtain ⟨j, hj⟩ := List.getElem?_of_mem hu
    obtain ⟨c, hcj⟩ := get_of_len hcell.1.symm hj
    exact (hcell.2 j c u hcj hj).one (hone c (List.mem_of_getElem? hcj))
  have hst := run_storeCells_at P g off T' v.cells.toList 0 vs.toArray w hb (by simp; omega) h1
  refine ⟨w.setRow g (vs.take off ++ v.cells.toList ++ vs.drop (off + v.cells.size)).toArray, ?_, ?_, ?_⟩
  · simp only [Instr.storeAt, Instr.sureAddr, Sem.run_bind, Sem.run_pure, Result.andThen_ok, storeVar, run_sizeOf hi]
    rw [if_neg (by omega)]
    simpa using hst
  · refine set_rel hr hg hb ?_ (fun c hm => ?_)
    · unfold setCells
      rw [hx, hsz]
      exact ((hc.take off).append hcell).append (hc.drop _)
    · simp only [setCells, List.mem_append] at hm
      rcases hm with (hm | hm) | hm
      · exact ho c (List.mem_of_mem_take hm)
      · exact hone c hm
      · exact ho c (List.mem_of_mem_drop hm)
  · exact set_step hr hg hb _


/-! ### append -/

/-- A list of values that stands for the elements' cells, one after the other. -/
structure RowRep (h : AHeap) (w : World) (sz : Nat) (es : List (List AVal)) (vs : List Value) : Prop where
  len : vs.length = es.length * sz
  wid : ∀ e, e ∈ es → e.length = sz
  rep : ∀ (i j : Nat) (e : List AVal) (c : AVal) (v : Value), es[i]? = some e → e[j]? = some c → vs[i * sz + j]? = some v → Rep h w c v
  one : ∀ e c, e ∈ es → c ∈ e → c.one = true

theorem RowRep.vone {sz : Nat} {es : List (List AVal)} {vs : List Value} (hr : RowRep h w sz es vs) : ∀ u ∈ vs, u.oneCell' = true := by
  intro u hu
  obtain ⟨k, hk⟩ := List.getElem?_of_mem hu
  have hlt := (List.getElem?_eq_some_iff.1 hk).1
  rw [hr.len] at hlt
  have hs : 0 < sz := by
    rcases Nat.eq_zero_or_pos sz with h0 | h0
    · subst h0; simp at hlt
    · exact h0
  have hi : k / sz < es.length := (Nat.div_lt_iff_lt_mul hs).2 hlt
  have hj : k % sz < (es[k / sz]).length := by rw [hr.wid _ (List.getElem_mem hi)]; exact Nat.mod_lt _ hs
  have := hr.rep (k / sz) (k % sz) _ _ u (List.getElem?_eq_getElem hi) (List.getElem?_eq_getElem hj) (by rw [Nat.div_add_mod']; exact hk)
  exact this.one (hr.one _ _ (List.getElem_mem hi) (List.getElem_mem hj))

theorem RowRep.append {sz : Nat} {es fs : List (List AVal)} {vs us : List Value} (a : RowRep h w sz es vs) (b : RowRep h w sz fs us) : RowRep h w sz (es ++ fs) (vs ++ us) where
  len := by rw [List.length_append, List.length_append, a.len, b.len, Nat.add_mul]
  wid := fun e he => (List.mem_append.1 he).elim (a.wid e) (b.wid e)
  rep := fun i j e c v hi hj hv => by
    have hsz : e.length = sz := (List.mem_append.1 (List.mem_of_getElem? hi)).elim (a.wid e) (b.wid e)
    have hjl := (List.getElem?_eq_some_iff.1 hj).1
    by_cases hlt : i < es.length
    · rw [List.getElem?_append_left hlt] at hi
      have : i * sz + sz ≤ es.length * sz := by rw [← Nat.succ_mul]; exact Nat.mul_le_mul_right _ hlt
      rw [List.getElem?_append_left (by rw [a.len]; omega)] at hv
      exact a.rep i j e c v hi hj hv
    · rw [List.getElem?_append_right (by omega)] at hi
      have hle : es.length * sz ≤ i * sz := Nat.mul_le_mul_right _ (by omega)
      rw [List.getElem?_append_right (by rw [a.len]; omega), a.len, show i * sz + j - es.length * sz = (i - es.length) * sz + j by rw [Nat.sub_mul]; omega] at hv
      exact b.rep _ j e c v hi hj hv
  one := fun e c he hc => (List.mem_append.1 he).elim (fun he => a.one e c he hc) (fun he => b.one e c he hc)

theorem RowRep.step {h' : AHeap} {w' : World} {sz : Nat} {es : List (List AVal)} {vs : List Value} (a : RowRep h w sz es vs) (hs : Step h w h' w') : RowRep h' w' sz es vs :=
  ⟨a.len, a.wid, fun i j e c v hi hj hv => (a.rep i j e c v hi hj hv).step hs, a.one⟩

theorem RowRep.nil (sz : Nat) : RowRep h w sz [] [] := ⟨by simp, fun _ he => absurd he List.not_mem_nil, fun i j e c v hi => by simp at hi, fun _ _ he => absurd he List.not_mem_nil⟩

/-- What a slice that is not empty shows of its row. -/
theorem Rep.row {sz : Nat} {es : List (List AVal)} {t : Tag} {v : Value} (hv : Rep h w (.sl sz es t) v) (hne : es ≠ [] ∨ t = .full ∨ ∃ g, t = .own g) :
    ∃ (a : Addr) (cap : Nat) (vs : List Value), v = .slice (some a) es.length cap ∧ es.length ≤ cap ∧ RowRep h w sz es vs ∧ (∀ j u, vs[j]? = some u → w.cell? (a.add j) = some u) ∧ TagOk h w a es.length cap sz t ∧ a.spot = none ∧ Cells h w a (es.length * sz) := by
  cases hv with
  | slnl => rcases hne with h1 | h1 | ⟨g, h1⟩; exact absurd rfl h1; cases h1; cases h1
  | slnil => rcases hne with h1 | h1 | ⟨g, h1⟩; exact absurd rfl h1; cases h1; cases h1
  | sl _ _ _ a cap ha hcap hsz hc hr ho ht =>
    have hget : ∀ (k : Nat) (u : Value), ((List.range (es.length * sz)).map fun k => (w.cell? (a.add k)).getD undef)[k]? = some u → k < es.length * sz ∧ w.cell? (a.add k) = some u := fun k u hk => by
      have hlt := (List.getElem?_eq_some_iff.1 hk).1
      simp at hlt
      obtain ⟨⟨x, hx⟩, _⟩ := hc k hlt
      simp [List.getElem?_range hlt, hx] at hk
      subst hk
      exact ⟨hlt, hx⟩
    exact ⟨a, cap, (List.range (es.length * sz)).map fun k => (w.cell? (a.add k)).getD undef, rfl, hcap,
      ⟨by simp, hsz, fun i j e c v hi hj hv => hr i j e c v hi hj (hget _ v hv).2, ho⟩, fun j u hj => (hget j u hj).2, ht, ha, hc⟩

theorem zeroCells_size (z : Array Value) (n : Nat) : (Builtin.zeroCells z n).size = n * z.size := by simp [Builtin.zeroCells]

/-- A new row, managed: elements and room behind them. -/
theorem grown_ok {G : Nat → Option Obj} (hr : Rel G h w) {sz : Nat} {e : TypeId} {es : List (List AVal)} {vs : List Value} (hrow : RowRep h w sz es vs) (rest : Array Value) (cap : Nat) (hcap : es.length ≤ cap) (hm : cap ≤ maxLen)
    (hsize : (vs.toArray ++ rest).size = cap * sz) :
    Rel G (h.new w.heap.size (.row e (es.length * sz))) (w.drew.alloc (.cells (vs.toArray ++ rest) e)) ∧ Step h w (h.new w.heap.size (.row e (es.length * sz))) (w.drew.alloc (.cells (vs.toArray ++ rest) e)) ∧
    Rep (h.new w.heap.size (.row e (es.length * sz))) (w.drew.alloc (.cells (vs.toArray ++ rest) e)) (.sl sz es (.own w.heap.size)) (.slice (some ⟨w.heap.size, 0, none⟩) es.length cap) := by
  have hd := drew_rel hr
  have hs0 := drew_step hr
  have hs := new_step hd (.row e (es.length * sz)) (.cells (vs.toArray ++ rest) e)
  have hle : es.length * sz ≤ (vs.toArray ++ rest).size := by rw [hsize]; exact Nat.mul_le_mul_right _ hcap
  refine ⟨new_rel hd _ _ (fun T cells he => by cases he) (fun T len he => by injection he with h1 h2; subst h1; subst h2; exact ⟨_, rfl, hle⟩), hs0.trans hs, ?_⟩
  have hblk : (w.drew.alloc (.cells (vs.toArray ++ rest) e)).heap[w.heap.size]? = some (.cells (vs.toArray ++ rest) e (0, 0)) := new_block w.drew _
  have hcell : ∀ k, (w.drew.alloc (.cells (vs.toArray ++ rest) e)).cell? ((⟨w.heap.size, 0, none⟩ : Addr).add k) = (vs.toArray ++ rest)[k]? := fun k => by
    rw [cell_of (spot_add _ _ rfl) (by rw [block_add]; exact hblk), off_add]
    simp
  refine .sl sz es _ _ cap rfl hcap hrow.wid (fun k hk => ⟨?_, ?_⟩) (fun i j x c v hi hj hv => ?_) hrow.one ⟨rfl, hm, ⟨_, e, _, hblk, hsize⟩, fun T cs he => by simp [AHeap.new] at he⟩
  · rw [hcell]
    exact ⟨(vs.toArray ++ rest)[k]'(by omega), by rw [Array.getElem?_eq_getElem]⟩
  · refine ⟨by rw [block_add]; simp, .inr ⟨e, es.length * sz, ?_, ?_⟩⟩
    · rw [block_add]; simp [AHeap.new]
    · rw [off_add]; simpa using hk
  · rw [hcell] at hv
    have hx := hrow.wid x (List.mem_of_getElem? hi)
    have hjl := (List.getElem?_eq_some_iff.1 hj).1
    have hil := (List.getElem?_eq_some_iff.1 hi).1
    have : i * sz + sz ≤ es.length * sz := by rw [← Nat.succ_mul]; exact Nat.mul_le_mul_right _ hil
    rw [Array.getElem?_append_left (by simp [hrow.len]; omega)] at hv
    exact ((hrow.rep i j x c v hi hj (by simpa using hv)).step hs0).step hs

/-- Forgetting a managed block. -/
theorem erase_rel {G : Nat → Option Obj} (hr : Rel G h w) (g : Nat) : Rel G (h.erase g) w ∧ Step h w (h.erase g) w := by
  have hs : Step h w (h.erase g) w := by
    refine ⟨rfl, rfl, rfl, Nat.le_refl _, fun x _ hn => ⟨rfl, ?_⟩, fun x T len _ hh => ?_, fun x T cs _ hh => ?_⟩
    · simp [AHeap.erase, hn]
    · obtain ⟨vs, h1, _⟩ := hr.row x T len hh
      refine ⟨vs, vs, (0, 0), h1, h1, rfl, fun _ _ => rfl, ?_⟩
      by_cases e : x = g
      · exact .inl (by simp [AHeap.erase, e])
      · exact .inr ⟨rfl, len, Nat.le_refl _, by simp [AHeap.erase, e, hh]⟩
    · by_cases e : x = g
      · exact .inl (by simp [AHeap.erase, e])
      · exact .inr ⟨cs, by simp [AHeap.erase, e, hh]⟩
  have hget : ∀ x o, (h.erase g).get x = some o → h.get x = some o := fun x o hx => by
    simp only [AHeap.erase] at hx
    split at hx
    · cases hx
    · exact hx
  refine ⟨⟨fun x o hx => hr.wf x o (hget x o hx), hr.nxt, fun x T cells hx => ?_, fun x T len hx => hr.row x T len (hget x _ hx), fun x o hx => ?_⟩, hs⟩
  · obtain ⟨vs, h1, h2, h3⟩ := hr.box x T cells (hget x _ hx)
    exact ⟨vs, h1, h2.step hs, h3⟩
  · obtain ⟨h1, h2⟩ := hr.glob x o hx
    exact ⟨h1, by simp [AHeap.erase, h2]⟩

theorem move_new (hr : Rel G h w) (g0 : Nat) (o : AObj) (hg0 : g0 < w.heap.size) : h.move g0 w.heap.size o = (h.erase g0).new w.heap.size o := by
  have := hr.nxt
  simp only [AHeap.move, AHeap.new, AHeap.erase]
  congr 1
  omega

/-- The room behind a row is used up in place. -/
theorem room_ok {G : Nat → Option Obj} (hr : Rel G h w) {sz : Nat} {e : TypeId} {es fs : List (List AVal)} {us : List Value} {g cap : Nat} {cur : Array Value} (hg : h.get g = some (.row e (es.length * sz))) (hb : w.heap[g]? = some (.cells cur e (0, 0)))
    (hv : Rep h w (.sl sz es (.own g)) (.slice (some ⟨g, 0, none⟩) es.length cap)) (hu : RowRep h w sz fs us) (hroom : es.length + fs.length ≤ cap) (hsz : cur.size = cap * sz) (hm : cap ≤ maxLen) :
    Rel G (h.move g g (.row e ((es ++ fs).length * sz))) (w.setRow g (cur.toList.take (es.length * sz) ++ us ++ cur.toList.drop (es.length * sz + us.length)).toArray) ∧
    Step h w (h.move g g (.row e ((es ++ fs).length * sz))) (w.setRow g (cur.toList.take (es.length * sz) ++ us ++ cur.toList.drop (es.length * sz + us.length)).toArray) ∧
    Rep (h.move g g (.row e ((es ++ fs).length * sz))) (w.setRow g (cur.toList.take (es.length * sz) ++ us ++ cur.toList.drop (es.length * sz + us.length)).toArray) (.sl sz (es ++ fs) (.own g)) (.slice (some ⟨g, 0, none⟩) (es ++ fs).length cap) := by
  have hfit : es.length * sz + us.length ≤ cur.size := by rw [hu.len, hsz, ← Nat.add_mul]; exact Nat.mul_le_mul_right _ hroom
  have hgs : g < w.heap.size := (Array.getElem?_eq_some_iff.1 hb).1
  generalize hnew : (cur.toList.take (es.length * sz) ++ us ++ cur.toList.drop (es.length * sz + us.length)).toArray = new
  have hnl : new.size = cur.size := by subst hnew; simp; omega
  have hb' := setRow_heap w g cur new e (0, 0) hb
  have hlen : (es ++ fs).length * sz = es.length * sz + us.length := by rw [List.length_append, Nat.add_mul, hu.len]
  have hmove : ∀ x, (h.move g g (.row e ((es ++ fs).length * sz))).get x = if x = g then some (.row e ((es ++ fs).length * sz)) else h.get x := fun x => by
    simp only [AHeap.move]
    split
    · rfl
    · rfl
  have hkeep : ∀ i, i < es.length * sz → new[i]? = cur[i]? := fun i hi => by
    subst hnew
    rw [← Array.getElem?_toList, ← Array.getElem?_toList]
    simp only [List.append_assoc]
    rw [List.getElem?_append_left (by simp; omega), List.getElem?_take, if_pos hi]
  have hs : Step h w (h.move g g (.row e ((es ++ fs).length * sz))) (w.setRow g new) := by
    refine ⟨rfl, rfl, rfl, by simp, fun x hx hn => ?_, fun x T len hx hh => ?_, fun x T cs hx hh => ?_⟩
    · have hne : x ≠ g := fun e => by rw [e, hg] at hn; cases hn
      exact ⟨setRow_other w g x new hne, by rw [hmove, if_neg hne]; exact hn⟩
    · by_cases hne : x = g
      · subst hne
        rw [hg] at hh
        injection hh with hh
        injection hh with h1 h2
        subst h1
        subst h2
        exact ⟨cur, new, (0, 0), hb, hb', hnl, hkeep, .inr ⟨rfl, (es ++ fs).length * sz, by rw [hlen]; omega, by rw [hmove, if_pos rfl]⟩⟩
      · obtain ⟨vs, h1, _⟩ := hr.row x T len hh
        exact ⟨vs, vs, (0, 0), h1, (setRow_other w g x new hne).trans h1, rfl, fun _ _ => rfl, .inr ⟨rfl, len, Nat.le_refl _, by rw [hmove, if_neg hne]; exact hh⟩⟩
    · have hne : x ≠ g := fun e => by rw [e, hg] at hh; cases hh
      exact .inr ⟨cs, by rw [hmove, if_neg hne]; exact hh⟩
  refine ⟨⟨fun x o hx => ?_, ?_, fun x T cells hx => ?_, fun x T len hx => ?_, fun x o hx => ?_⟩, hs, ?_⟩
  · rw [hmove] at hx
    have hle : h.next ≤ (h.move g g (.row e ((es ++ fs).length * sz))).next := Nat.le_max_left _ _
    split at hx
    · rename_i he; rw [he]; exact Nat.lt_of_lt_of_le (hr.wf g _ hg) hle
    · exact Nat.lt_of_lt_of_le (hr.wf x o hx) hle
  · have := hr.wf g _ hg
    have := hr.nxt
    show max h.next (g + 1) ≤ _
    simp
    omega
  · rw [hmove] at hx
    split at hx
    · injection hx with hx; cases hx
    · rename_i hne
      obtain ⟨vs, h1, h2, h3⟩ := hr.box x T cells hx
      exact ⟨vs, (setRow_other w g x new hne).trans h1, h2.step hs, h3⟩
  · rw [hmove] at hx
    split at hx
    · rename_i he
      injection hx with hx
      injection hx with h1 h2
      subst h1
      subst h2
      subst he
      exact ⟨new, hb', by rw [hnl, hlen]; exact hfit⟩
    · rename_i hne
      obtain ⟨vs, h1, h2⟩ := hr.row x T len hx
      exact ⟨vs, (setRow_other w g x new hne).trans h1, h2⟩
  · obtain ⟨h1, h2⟩ := hr.glob x o hx
    have hne : x ≠ g := fun e => by rw [e, hg] at h2; cases h2
    exact ⟨(setRow_other w g x new hne).trans h1, by rw [hmove, if_neg hne]; exact h2⟩
  · have hcell : ∀ k, (w.setRow g new).cell? ((⟨g, 0, none⟩ : Addr).add k) = new[k]? := fun k => by
      rw [cell_of (spot_add _ _ rfl) (by rw [block_add]; exact hb'), off_add]
      simp
    have hnews : ∀ k, k < us.length → new[es.length * sz + k]? = us[k]? := fun k hk => by
      subst hnew
      rw [← Array.getElem?_toList]
      simp only [List.append_assoc]
      rw [List.getElem?_append_right (by simp; omega), List.getElem?_append_left (by simp; omega)]
      congr 1
      simp
      omega
    have hes : ∀ x, x ∈ es → x.length = sz := by cases hv with | sl _ _ _ a c ha hc hz => exact hz
    have heo : ∀ x c, x ∈ es → c ∈ x → c.one = true := by cases hv with | sl _ _ _ a c ha hc hz hcl hrr ho => exact ho
    have her : ∀ (i j : Nat) (x : List AVal) (c : AVal) (v : Value), es[i]? = some x → x[j]? = some c → cur[i * sz + j]? = some v → Rep h w c v := by
      cases hv with
      | sl _ _ _ a c ha hc hz hcl hrr ho =>
        intro i j x c v hi hj hcv
        refine hrr i j x c v hi hj ?_
        rw [cell_of (spot_add _ _ rfl) (by rw [block_add]; exact hb), off_add]
        simpa using hcv
    refine .sl sz (es ++ fs) _ _ cap rfl (by simpa using hroom) (fun x hx => (List.mem_append.1 hx).elim (hes x) (hu.wid x)) (fun k hk => ⟨?_, ?_⟩) (fun i j x c v hi hj hv' => ?_)
      (fun x c hx hc => (List.mem_append.1 hx).elim (fun hx => heo x c hx hc) (fun hx => hu.one x c hx hc)) ⟨rfl, hm, ⟨new, e, _, hb', by rw [hnl, hsz]⟩, fun T cs he => by rw [hmove, if_pos rfl] at he; injection he with he; cases he⟩
    · rw [hcell]
      exact ⟨new[k]'(by rw [hnl]; omega), by rw [Array.getElem?_eq_getElem]⟩
    · refine ⟨by rw [block_add]; simpa using hgs, .inr ⟨e, (es ++ fs).length * sz, ?_, ?_⟩⟩
      · rw [block_add, hmove, if_pos rfl]
      · rw [off_add]; simpa using hk
    · rw [hcell] at hv'
      have hx : x.length = sz := (List.mem_append.1 (List.mem_of_getElem? hi)).elim (hes x) (hu.wid x)
      have hjl := (List.getElem?_eq_some_iff.1 hj).1
      by_cases hlt : i < es.length
      · rw [List.getElem?_append_left hlt] at hi
        have : i * sz + sz ≤ es.length * sz := by rw [← Nat.succ_mul]; exact Nat.mul_le_mul_right _ hlt
        rw [hkeep _ (by omega)] at hv'
        exact (her i j x c v hi hj hv').step hs
      · rw [List.getElem?_append_right (by omega)] at hi
        have hil := (List.getElem?_eq_some_iff.1 hi).1
        have hle : es.length * sz ≤ i * sz := Nat.mul_le_mul_right _ (by omega)
        have hle2 : (i - es.length) * sz + sz ≤ fs.length * sz := by rw [← Nat.succ_mul]; exact Nat.mul_le_mul_right _ hil
        have heq : i * sz + j = es.length * sz + ((i - es.length) * sz + j) := by rw [Nat.sub_mul]; omega
        rw [heq, hnews _ (by rw [hu.len]; omega)] at hv'
        exact (hu.rep _ j x c v hi hj hv').step hs

end
end Go.Abs
