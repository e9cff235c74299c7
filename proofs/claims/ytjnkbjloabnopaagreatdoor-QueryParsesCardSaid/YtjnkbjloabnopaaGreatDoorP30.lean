/- The tied card of QueryParses is proved: for every text and every list of numbers the law returns true, and its arguments read as they did. Conditions: none beyond the given card's own. -/
import Derived.Test.YtjnkbjloabnopaaGreatDoorP29
import Derived.Test.YtjnkbjloabnopaaGreatDoorTie
import Derived.Test.YtjnkbjloabnopaaGreatDoorCards
import Derived.ProofKit
import Derived.OpenShut
import Derived.LaidMore
import Derived.Lay
import Derived.SevenTiedAt
import Derived.Stop.Joined
import Derived.Test.YtjnkbjloabnopaaGreatDoorRows
import Derived.JoinedOf
import Derived.KernelRfl
set_option maxRecDepth 100000
set_option linter.constructorNameAsVariable false
namespace Go.Proofs.YtjnkbjloabnopaaGreatDoor
open Go.ChangeShapes Go.WideShapes Go.ChangeAt Go.RowKit Go.Abs Go.ChangeMaps

theorem own : ownKnob Tryz.prog.godebug = none := by kernel_rfl

/-- Nothing is managed when the law is called. -/
def bare (W : World) : AHeap := ⟨fun _ => none, W.heap.size⟩
theorem bare_rel (W : World) : Rel (fun _ => none) (bare W) W where
  wf := fun _ _ h => by cases h
  nxt := Nat.le_refl _
  box := fun _ _ _ h => by cases h
  row := fun _ _ _ h => by cases h
  glob := fun _ _ h => by cases h
theorem step_old {W W' : World} {h' : AHeap} (hs : Step (bare W) W h' W') {g : Nat} (hg : g < W.heap.size) : W'.heap[g]? = W.heap[g]? := (hs.free g hg rfl).1
theorem step_kept {W W' : World} {h' : AHeap} (hs : Step (bare W) W h' W') (may : MemPlace → Prop) : W.keptBut W' may := by
  refine ⟨hs.os, hs.output, fun i hi => ?_⟩
  rw [step_old hs hi]
  rcases W.heap[i]? with _ | o
  · rfl
  · cases o <;> first | exact ⟨rfl, rfl, rfl, fun _ _ => rfl⟩ | exact .inr ⟨rfl, rfl⟩ | rfl
theorem step_cell {W W' : World} {h' : AHeap} (hs : Step (bare W) W h' W') {a : Addr} {v : Value} (hc : W.cell? a = some v) : W'.cell? a = some v := by
  have hb : a.block < W.heap.size := by
    have h1 := hc
    unfold World.cell? at h1
    cases hx : W.heap[a.block]? with
    | none => rw [hx] at h1; cases h1
    | some o => exact (Array.getElem?_eq_some_iff.1 hx).1
  unfold World.cell? at hc ⊢
  rw [step_old hs hb]
  exact hc

section
variable {H : Type} {enc : TypeId × Value → H} {P : Program}
/-- What a law's call must leave, where nothing of what stood has turned. -/
theorem post_of_step {f : Func} {s : ChangeSpec} {apart fresh handsOn again : Bool} {W W' : World} {h' : AHeap} {args : Array Value} {v : Value} {ds gs : List (DataW H)} {before pa pv : List MemPlace}
    (hW : DataW.Whole enc P f.params.toList s.vars apart W args.toList ds gs before)
    (hs : Step (bare W) W h' W')
    (hres : ∀ (b : Nat) (sp : Nat → Bool) (hd : Bool), DataW.TrodAll enc P W' b sp hd f.resultTypes.toList (v.resultList f.resultTypes.size) (s.fn H (ds ++ gs)).results [])
    (hargs : ∀ sp : Nat → Bool, (∀ p ∈ before, sp p.block = true) → DataW.TrodAll enc P W' 0 sp true f.params.toList args.toList (s.fn H (ds ++ gs)).args pa)
    (hvars : ∀ sp : Nat → Bool, (∀ p ∈ before, sp p.block = true) → DataW.TrodVars enc P W' sp s.vars (s.fn H (ds ++ gs)).vars pv)
    (hps : before = pa ++ pv)
    (hok : ∀ (j : Nat) (t : TypeId) (r : Value), f.resultTypes[j]? = some t → (v.resultList f.resultTypes.size)[j]? = some r → Value.okWide P W' .any 0 t r) :
    s.post enc P f apart fresh handsOn again W args v W' := by
  have hlt : ∀ p ∈ before, p.block < W.heap.size := fun p hp => hW.lt p hp
  have hold : ∀ p ∈ before, (fun b => decide (b < W.heap.size)) p.block = true := fun p hp => by simpa using hW.lt p hp
  refine ⟨ds, gs, before, [], pa, pv, hW, hres _ _ _, hargs _ hold, hvars _ hold, step_kept hs _, fun _ => ?_⟩
  obtain ⟨_, _, _, _, _, hz, hn⟩ := hW
  refine ⟨hok, _, _, ([] ++ pa) ++ pv, ⟨[] ++ pa, pv, trodAll_append (hargs _ (fun _ _ => rfl)) (hres _ _ _), hvars _ (fun _ _ => rfl), rfl, ?_, ?_⟩, ?_⟩
  · intro b off hp
    have hb : MemPlace.cell b off ∈ before := by rw [hps]; simpa using hp
    have h1 := hz b off hb
    have h2 := hlt _ hb
    have h3 : W'.heap[b]? = W.heap[b]? := step_old hs h2
    simp only [World.frozen?] at h1 ⊢
    rw [h3]
    exact h1
  · intro ha
    have := hn ha
    rw [hps] at this
    simpa using this
  · intro p hp _
    rw [hps]
    simpa using hp
end

/-! ### arguments -/

/-- A string. -/
theorem arg_string {W : World} (s : ByteArray) : Rep (bare W) W (.str s.data.toList) (.string s) := .str s

section
variable {H : Type} {enc : TypeId × Value → H} {W : World} {v : Value} {d : DataW H} {p : List MemPlace}

theorem ul22 : Tryz.prog.underlying 22 = some (.slice 3) := by kernel_rfl
theorem ul3 : Tryz.prog.underlying 3 = some (.int .i64) := by kernel_rfl
theorem ul4 : Tryz.prog.underlying 4 = some .bool := by kernel_rfl
theorem ul9 : Tryz.prog.underlying 9 = some .string := by kernel_rfl
theorem cells3 : Tryz.prog.cellsOf 3 = 1 := by kernel_rfl

/-- A list of numbers: it is told as such, and reads behind the call as before. -/
theorem arg_ints {base : Nat} (hval : Value.okWide Tryz.prog W .any base 22 v) (hd : DataW.Trod enc Tryz.prog W 0 (fun _ => true) true 22 v d p) :
    ∃ l : List Int, Rep (bare W) W (.sl 1 (l.map fun x => [AVal.int .i64 x]) .frz) v ∧ ∀ (W' : World) (h' : AHeap), Step (bare W) W h' W' → ∀ sp : Nat → Bool, (∀ q ∈ p, sp q.block = true) → DataW.Trod enc Tryz.prog W' 0 sp true 22 v d p := by
  obtain ⟨fuel, hf⟩ := hd
  obtain ⟨a0, n0, c0, rfl⟩ := okWide_slice ul22 hval
  have hce : (Value.slice a0 n0 c0).cells.toList = [Value.slice a0 n0 c0] := rfl
  rcases open_ints ul22 ul3 cells3 hf with ⟨hcs, hx⟩ | ⟨a, len, cap, zs, hcs, hb, hl, hm, hz, hx, hcell, hw⟩
  · rw [hce] at hcs
    obtain ⟨rfl, rfl, rfl⟩ := Value.slice.inj (List.cons.inj hcs).1
    obtain ⟨rfl, rfl⟩ := Prod.mk.inj hx
    exact ⟨[], .slnil 1, fun W' h' hs sp _ => ⟨1, by simp [DataW.trod, Value.cells, ul22]⟩⟩
  · rw [hce] at hcs
    obtain ⟨rfl, rfl, rfl⟩ := Value.slice.inj (List.cons.inj hcs).1
    obtain ⟨rfl, rfl⟩ := Prod.mk.inj hx
    have hspot : a.spot = none := by
      simp only [Value.okWide, ul22, Cell.okWide, Cell.ok] at hval
      exact hval.2.2.2.1
    simp only [if_true] at hz
    refine ⟨zs.take n0, ?_, fun W' h' hs sp hsp => ?_⟩
    · have hlen : ((zs.take n0).map fun x => [AVal.int .i64 x]).length = n0 := by simp; omega
      have := Rep.sl (h := bare W) (w := W) 1 ((zs.take n0).map fun x => [AVal.int .i64 x]) .frz a c0 hspot (by omega) (fun es he => by
        obtain ⟨x, _, rfl⟩ := List.mem_map.1 he; rfl) ?_ ?_ ?_ trivial
      · rw [hlen] at this; exact this
      · intro i hi
        rw [hlen, Nat.mul_one] at hi
        have hc := hcell i (by omega)
        refine ⟨⟨_, hc⟩, ?_, .inl rfl⟩
        exact World.block_lt_of_cell? _ _ hc
      · intro i j es c v he hc hv
        rw [List.getElem?_map, Option.map_eq_some_iff] at he
        obtain ⟨x, hx, rfl⟩ := he
        have hj : j = 0 := by
          rcases j with _ | j
          · rfl
          · simp at hc
        subst hj
        obtain rfl : AVal.int .i64 x = c := by simpa using hc
        have hi : i < n0 := by have := (List.getElem?_eq_some_iff.1 hx).1; simp at this; omega
        rw [Nat.mul_one, Nat.add_zero, hcell i (by omega)] at hv
        have hxx : zs.getD i 0 = x := by
          rw [List.getElem?_take_of_lt hi] at hx
          simp [List.getD, hx]
        rw [hxx] at hv
        injection hv with hv
        subst hv
        exact .int _ _
      · intro es c he hc
        obtain ⟨x, _, rfl⟩ := List.mem_map.1 he
        rw [List.mem_singleton] at hc
        subst hc
        rfl
    · have hzl : zs.length = if sp a.block then c0 else n0 := by
        by_cases hz0 : 0 < zs.length
        · have : sp a.block = true := hsp (.cell a.block (a.off + 0)) (List.mem_map.2 ⟨0, List.mem_range.2 hz0, rfl⟩)
          rw [this]
          exact hz
        · split <;> omega
      exact ⟨2, shut_ints 0 ul22 ul3 cells3 (Nat.zero_le _) hl hm hzl (fun i hi => step_cell hs (hcell i hi)) hw⟩
end
end Go.Proofs.YtjnkbjloabnopaaGreatDoor

/- The law QueryParses, lifted to what its row asks, given that 'known' answers true. Its one condition: the contract of 'known'. -/
set_option maxRecDepth 100000
set_option linter.constructorNameAsVariable false
namespace Go.Proofs.YtjnkbjloabnopaaGreatDoor
open Go.ChangeShapes Go.WideShapes Go.ChangeAt Go.RowKit Go.Abs Go.ChangeMaps

theorem reps_two {W : World} {a b : AVal} {u v : Value} (ha : Rep (bare W) W a u) (hb : Rep (bare W) W b v) : Reps (bare W) W [a, b] [u, v] := ⟨rfl, fun i c x hc hx => by
  rcases i with _ | _ | i
  · obtain rfl : a = c := by simpa using hc
    obtain rfl : u = x := by simpa using hx
    exact ha
  · obtain rfl : b = c := by simpa using hc
    obtain rfl : v = x := by simpa using hx
    exact hb
  · simp at hc⟩

theorem encIs_eq (l : List Int) : encIs l = l.map fun x => [AVal.int .i64 x] := rfl

theorem queryParses_lifted (K : ∀ h, ACalls Tryz.prog (fun _ => none) 16 [] h (Gives (.bool true) h)) (os : Os) (started : os.Started) (H : Type) (enc : TypeId × Value → H) :
    ReturnsInHanded {} Tryz.checked os 3 .any (fun w args => (Rows.queryParsesSpec.pre enc Tryz.prog Tryz.f3 Rows.queryParsesRow.domain false w args ∧ laidMetH Tryz.prog Rows.queryParsesRow.laid w) ∧ sizedMet enc Tryz.prog Tryz.f3 (OpenSpec.ofChange Rows.queryParsesSpec) false w args)
      (Rows.queryParsesSpec.post enc Tryz.prog Tryz.f3 false true false false) := by
  refine returnsInHanded_of_change_and (C := Tryz.checked) (X := fun w _ => laidMetH Tryz.prog Rows.queryParsesRow.laid w) (fun _ _ _ hh h => h.of_heap hh) own started (by kernel_rfl) Tryz.func3
    (ChangeSpec.witness_shaped (enc := enc) (C := Tryz.checked) (os := os) (X := fun w _ => laidMetH Tryz.prog Rows.queryParsesRow.laid w) false (World.laidAll Tryz.prog os Rows.queryParsesRow.laid) #[.string ⟨#[]⟩, .slice none 0 0] 8 (World.laidAll_os _ _ _)
      (World.shaped_of_ZipB (by kernel_rfl) (by kernel_rfl)) (by kernel_rfl) (by kernel_rfl) (by kernel_rfl)
      (by rw [MakeChecks.laidMetH_plain _ _ _ (by kernel_rfl)]; exact laidMet_laidAll _ (by kernel_rfl) (by kernel_rfl))) ?_
  intro W base args ds gs before hval0 hW hc _ hL _
  have hval : ∀ (j : Nat) t v, Tryz.f3.params[j]? = some t → args[j]? = some v → Value.okWide Tryz.prog W .any base t v := hval0
  have hW' := hW
  obtain ⟨p, q, hA0, hV, rfl, _, _⟩ := hW
  have hA : DataW.TrodAll enc Tryz.prog W 0 (fun _ => true) true Tryz.f3.params.toList args.toList ds p := hA0
  rw [show Tryz.f3.params = #[9, 22] by kernel_rfl] at hA hval
  obtain ⟨v0, v1, d0, d1, p0, p1, rfl, rfl, rfl, h0, h1⟩ := trodAll_two hA
  obtain ⟨rfl, rfl⟩ := trodVars_none hV
  obtain ⟨s, rfl, rfl, rfl, hs⟩ := open_string ul9 (hval 0 9 v0 rfl rfl) h0
  obtain ⟨l, hl, hback⟩ := arg_ints (hval 1 22 v1 rfl rfl) h1
  clear hA0 hval0
  simp only [List.append_nil, List.nil_append] at hW'
  have hcall := c3 K (s := s.data.toList) (l := l) (tg := .frz) (h := bare W) W [.string s, v1] (bare_rel W) (reps_two (arg_string s) hl)
  refine Calls.mono hcall ?_
  rintro e W' ⟨out, h', ⟨rfl, rfl⟩, _, hst, v, rfl, hv⟩
  cases hv
  exact ⟨_, rfl, post_of_step hW' hst (fun _ _ _ => trodAll_mk1 (shut_bool ul4 _)) (fun sp hsp => trodAll_mk2 (shut_string ul9 hs) (hback W' _ hst sp hsp)) (fun _ _ => rfl) (by simp) (ok_one (by kernel_rfl) rfl (okWide_bool_mk ul4 _))⟩
end Go.Proofs.YtjnkbjloabnopaaGreatDoor

/- The closed facts of the row of QueryParses, each checked by the kernel alone, and joined. No conditions. -/
namespace Go.Proofs.YtjnkbjloabnopaaGreatDoor
open Go
theorem and_mk {a b : Bool} (ha : a = true) (hb : b = true) : (a && b) = true := by rw [ha, hb]; rfl
theorem queryParses_fact0 : (fun (P : Program) (f : FuncId) (fn : Func) (s : ChangeSpec) (c : OpenClaim) => (c.wf (OpenSpec.ofChange s) : Bool)) Tryz.prog 3 Tryz.f3 Rows.queryParsesSpec Rows.queryParsesRow = true := by kernel_rfl
theorem queryParses_fact1 : (fun (P : Program) (f : FuncId) (fn : Func) (s : ChangeSpec) (c : OpenClaim) => (laidOutB P : Bool)) Tryz.prog 3 Tryz.f3 Rows.queryParsesSpec Rows.queryParsesRow = true := by kernel_rfl
theorem queryParses_fact2 : (fun (P : Program) (f : FuncId) (fn : Func) (s : ChangeSpec) (c : OpenClaim) => (mapsRowed P : Bool)) Tryz.prog 3 Tryz.f3 Rows.queryParsesSpec Rows.queryParsesRow = true := by kernel_rfl
theorem queryParses_fact3 : (fun (P : Program) (f : FuncId) (fn : Func) (s : ChangeSpec) (c : OpenClaim) => (fn.params.all (P.readableRec ·) : Bool)) Tryz.prog 3 Tryz.f3 Rows.queryParsesSpec Rows.queryParsesRow = true := by kernel_rfl
theorem queryParses_fact4 : (fun (P : Program) (f : FuncId) (fn : Func) (s : ChangeSpec) (c : OpenClaim) => (namedTie P c.named s.vars : Bool)) Tryz.prog 3 Tryz.f3 Rows.queryParsesSpec Rows.queryParsesRow = true := by kernel_rfl
theorem queryParses_fact5 : (fun (P : Program) (f : FuncId) (fn : Func) (s : ChangeSpec) (c : OpenClaim) => ((c.stops == []) : Bool)) Tryz.prog 3 Tryz.f3 Rows.queryParsesSpec Rows.queryParsesRow = true := by kernel_rfl
theorem queryParses_fact6 : (fun (P : Program) (f : FuncId) (fn : Func) (s : ChangeSpec) (c : OpenClaim) => ((P.stops == []) : Bool)) Tryz.prog 3 Tryz.f3 Rows.queryParsesSpec Rows.queryParsesRow = true := by kernel_rfl
theorem queryParses_fact7 : (fun (P : Program) (f : FuncId) (fn : Func) (s : ChangeSpec) (c : OpenClaim) => ((c.knobs == []) : Bool)) Tryz.prog 3 Tryz.f3 Rows.queryParsesSpec Rows.queryParsesRow = true := by kernel_rfl
theorem queryParses_fact8 : (fun (P : Program) (f : FuncId) (fn : Func) (s : ChangeSpec) (c : OpenClaim) => ((P.stopKnobs == []) : Bool)) Tryz.prog 3 Tryz.f3 Rows.queryParsesSpec Rows.queryParsesRow = true := by kernel_rfl
theorem queryParses_fact9 : (fun (P : Program) (f : FuncId) (fn : Func) (s : ChangeSpec) (c : OpenClaim) => ((c.inPlace == P.inPlace f) : Bool)) Tryz.prog 3 Tryz.f3 Rows.queryParsesSpec Rows.queryParsesRow = true := by kernel_rfl
theorem queryParses_fact10 : (fun (P : Program) (f : FuncId) (fn : Func) (s : ChangeSpec) (c : OpenClaim) => ((c.unfollowed == P.unfollowed f) : Bool)) Tryz.prog 3 Tryz.f3 Rows.queryParsesSpec Rows.queryParsesRow = true := by kernel_rfl
theorem queryParses_fact11 : (fun (P : Program) (f : FuncId) (fn : Func) (s : ChangeSpec) (c : OpenClaim) => ((c.recurses == P.recurses f) : Bool)) Tryz.prog 3 Tryz.f3 Rows.queryParsesSpec Rows.queryParsesRow = true := by kernel_rfl
theorem queryParses_fact12 : (fun (P : Program) (f : FuncId) (fn : Func) (s : ChangeSpec) (c : OpenClaim) => ((c.named == P.varsNamed f) : Bool)) Tryz.prog 3 Tryz.f3 Rows.queryParsesSpec Rows.queryParsesRow = true := by kernel_rfl
theorem queryParses_fact13 : (fun (P : Program) (f : FuncId) (fn : Func) (s : ChangeSpec) (c : OpenClaim) => ((c.maps == (fn.params.toList ++ s.plain.varTypes P).any (P.mapsRec ·)) : Bool)) Tryz.prog 3 Tryz.f3 Rows.queryParsesSpec Rows.queryParsesRow = true := by kernel_rfl
theorem queryParses_fact14 : (fun (P : Program) (f : FuncId) (fn : Func) (s : ChangeSpec) (c : OpenClaim) => ((c.ifaces == (fn.params.toList ++ s.plain.varTypes P).any (P.ifacesRec ·)) : Bool)) Tryz.prog 3 Tryz.f3 Rows.queryParsesSpec Rows.queryParsesRow = true := by kernel_rfl
theorem queryParses_fact15 : (fun (P : Program) (f : FuncId) (fn : Func) (s : ChangeSpec) (c : OpenClaim) => ((c.mapsOut == P.mapsAmong fn.resultTypes.toList) : Bool)) Tryz.prog 3 Tryz.f3 Rows.queryParsesSpec Rows.queryParsesRow = true := by kernel_rfl
theorem queryParses_fact16 : (fun (P : Program) (f : FuncId) (fn : Func) (s : ChangeSpec) (c : OpenClaim) => ((c.loops == (fn.params.toList ++ s.plain.varTypes P).any (P.loopsFrom ·)) : Bool)) Tryz.prog 3 Tryz.f3 Rows.queryParsesSpec Rows.queryParsesRow = true := by kernel_rfl
theorem queryParses_fact17 : (fun (P : Program) (f : FuncId) (fn : Func) (s : ChangeSpec) (c : OpenClaim) => ((c.wideKeys == (fn.params.toList ++ s.plain.varTypes P ++ fn.resultTypes.toList).any (P.wideKeysFrom ·)) : Bool)) Tryz.prog 3 Tryz.f3 Rows.queryParsesSpec Rows.queryParsesRow = true := by kernel_rfl
theorem queryParses_fact18 : (fun (P : Program) (f : FuncId) (fn : Func) (s : ChangeSpec) (c : OpenClaim) => (s.vars.all (P.varReadable ·) : Bool)) Tryz.prog 3 Tryz.f3 Rows.queryParsesSpec Rows.queryParsesRow = true := by kernel_rfl
theorem queryParses_fact19 : (fun (P : Program) (f : FuncId) (fn : Func) (s : ChangeSpec) (c : OpenClaim) => (fn.resultTypes.all (fun t => P.readableRec t && decide (t < P.types.size)) : Bool)) Tryz.prog 3 Tryz.f3 Rows.queryParsesSpec Rows.queryParsesRow = true := by kernel_rfl
theorem queryParses_fact20 : (fun (P : Program) (f : FuncId) (fn : Func) (s : ChangeSpec) (c : OpenClaim) => ((c.ifacesOut == fn.resultTypes.toList.any (P.ifacesRec ·)) : Bool)) Tryz.prog 3 Tryz.f3 Rows.queryParsesSpec Rows.queryParsesRow = true := by kernel_rfl
theorem queryParses_fact21 : (fun (P : Program) (f : FuncId) (fn : Func) (s : ChangeSpec) (c : OpenClaim) => ((c.loopsOut == fn.resultTypes.toList.any (P.loopsFrom ·)) : Bool)) Tryz.prog 3 Tryz.f3 Rows.queryParsesSpec Rows.queryParsesRow = true := by kernel_rfl
theorem queryParses_fact22 : (fun (P : Program) (f : FuncId) (fn : Func) (s : ChangeSpec) (c : OpenClaim) => ((c.plainKeys == P.plainKeys) : Bool)) Tryz.prog 3 Tryz.f3 Rows.queryParsesSpec Rows.queryParsesRow = true := by kernel_rfl
theorem queryParses_fact23 : (fun (P : Program) (f : FuncId) (fn : Func) (s : ChangeSpec) (c : OpenClaim) => (c.shortTexts.isNone : Bool)) Tryz.prog 3 Tryz.f3 Rows.queryParsesSpec Rows.queryParsesRow = true := by kernel_rfl
theorem queryParses_fact24 : (fun (P : Program) (f : FuncId) (fn : Func) (s : ChangeSpec) (c : OpenClaim) => (P.stopsHeard : Bool)) Tryz.prog 3 Tryz.f3 Rows.queryParsesSpec Rows.queryParsesRow = true := by kernel_rfl
theorem queryParses_fact25 : (fun (P : Program) (f : FuncId) (fn : Func) (s : ChangeSpec) (c : OpenClaim) => (P.mayEnter : Bool)) Tryz.prog 3 Tryz.f3 Rows.queryParsesSpec Rows.queryParsesRow = true := by kernel_rfl
theorem queryParses_fact26 : (fun (P : Program) (f : FuncId) (fn : Func) (s : ChangeSpec) (c : OpenClaim) => ((c.lifted == P.liftsFinal) : Bool)) Tryz.prog 3 Tryz.f3 Rows.queryParsesSpec Rows.queryParsesRow = true := by kernel_rfl
theorem queryParses_fact27 : (fun (P : Program) (f : FuncId) (fn : Func) (s : ChangeSpec) (c : OpenClaim) => ((P.make == some c.make) : Bool)) Tryz.prog 3 Tryz.f3 Rows.queryParsesSpec Rows.queryParsesRow = true := by kernel_rfl
theorem queryParses_fact28 : (fun (P : Program) (f : FuncId) (fn : Func) (s : ChangeSpec) (c : OpenClaim) => ((c.kinds == (if c.domain.isEmpty then [] else fn.params.toList.map fun t => match P.underlying t with | some (.int k) => some k | _ => none)) : Bool)) Tryz.prog 3 Tryz.f3 Rows.queryParsesSpec Rows.queryParsesRow = true := by kernel_rfl
theorem queryParses_fact29 : (fun (P : Program) (f : FuncId) (fn : Func) (s : ChangeSpec) (c : OpenClaim) => ((c.pinned == c.pinnedBy) : Bool)) Tryz.prog 3 Tryz.f3 Rows.queryParsesSpec Rows.queryParsesRow = true := by kernel_rfl
theorem queryParses_fact30 : (fun (P : Program) (f : FuncId) (fn : Func) (s : ChangeSpec) (c : OpenClaim) => ((c.veiled == (fn.params.toList ++ s.plain.varTypes P ++ fn.resultTypes.toList).any (P.veiledRec ·)) : Bool)) Tryz.prog 3 Tryz.f3 Rows.queryParsesSpec Rows.queryParsesRow = true := by kernel_rfl
theorem queryParses_fact31 : (fun (P : Program) (f : FuncId) (fn : Func) (s : ChangeSpec) (c : OpenClaim) => (c.veiledFits P fn.params.toList (fn.params.toList ++ s.plain.varTypes P ++ fn.resultTypes.toList) : Bool)) Tryz.prog 3 Tryz.f3 Rows.queryParsesSpec Rows.queryParsesRow = true := by kernel_rfl
set_option maxRecDepth 100000 in
theorem queryParses_joined : joinedFacts Tryz.prog 3 Tryz.f3 Rows.queryParsesSpec Rows.queryParsesRow = true :=
  and_mk (and_mk (and_mk (and_mk (and_mk (and_mk (and_mk (and_mk (and_mk (and_mk (and_mk (and_mk (and_mk (and_mk (and_mk (and_mk (and_mk (and_mk (and_mk (and_mk (and_mk (and_mk (and_mk (and_mk (and_mk (and_mk (and_mk (and_mk (and_mk (and_mk (and_mk (queryParses_fact0) queryParses_fact1) queryParses_fact2) queryParses_fact3) queryParses_fact4) queryParses_fact5) queryParses_fact6) queryParses_fact7) queryParses_fact8) queryParses_fact9) queryParses_fact10) queryParses_fact11) queryParses_fact12) queryParses_fact13) queryParses_fact14) queryParses_fact15) queryParses_fact16) queryParses_fact17) queryParses_fact18) queryParses_fact19) queryParses_fact20) queryParses_fact21) queryParses_fact22) queryParses_fact23) queryParses_fact24) queryParses_fact25) queryParses_fact26) queryParses_fact27) queryParses_fact28) queryParses_fact29) queryParses_fact30) queryParses_fact31
end Go.Proofs.YtjnkbjloabnopaaGreatDoor

/- Closed facts of the card of QueryParses, each checked by the kernel alone. No conditions. -/
set_option maxRecDepth 100000
namespace Go.Proofs.YtjnkbjloabnopaaGreatDoor
open Go
theorem queryParses_wfText : Rows.queryParsesRow.wfByText (OpenSpec.ofChange Rows.queryParsesSpec) = true := by kernel_rfl
theorem tryz_main : Tryz.prog.mainIs = some (true, "e5775eb3b770ab670d7ce22325ff37e677ca6ed29f51078c8d504c74ee3d5956".toList) := by kernel_rfl
theorem tryz_looks : true = Tryz.prog.looks [] := by kernel_rfl
theorem queryParses_goes : false = Rows.queryParsesRow.goesBy Tryz.prog := by kernel_rfl
theorem queryParses_wants : ([9, 22].all fun u => !Tryz.prog.wantsStandIn u) = true := by kernel_rfl
theorem queryParses_named : Tryz.prog.funcNamed Rows.queryParsesRow.func = some 3 := by kernel_rfl
theorem queryParses_params : Tryz.f3.params = #[9, 22] := by kernel_rfl
theorem queryParses_inst : Tryz.f3.isInstance Tryz.prog Rows.queryParsesRow.origin Rows.queryParsesRow.targs := of_decide_eq_true (by kernel_rfl)
theorem queryParses_wrap : Tryz.f3.isWrapper Tryz.prog Rows.queryParsesRow.wrapper Rows.queryParsesRow.mainSum := by unfold Func.isWrapper; first | (rw [if_pos (by decide +kernel)]; kernel_rfl) | (rw [if_neg (by decide +kernel)]; exact ⟨rfl, rfl⟩)
end Go.Proofs.YtjnkbjloabnopaaGreatDoor

/- QueryParses as its row and its card say it, given the contract of 'known'. -/
set_option maxRecDepth 100000
namespace Go.Proofs.YtjnkbjloabnopaaGreatDoor
open Go.ChangeShapes Go.WideShapes Go.ChangeAt Go.RowKit Go.Abs Go.ChangeMaps

theorem queryParses_row (K : ∀ h, ACalls Tryz.prog (fun _ => none) 16 [] h (Gives (.bool true) h)) : Rows.QueryParsesSaid :=
  OpenClaim.holds_of_wide 3 Tryz.f3 rfl rfl rfl rfl rfl rfl rfl ⟨rfl, rfl, rfl, rfl, rfl⟩ rfl rfl rfl rfl rfl queryParses_named Tryz.func3 queryParses_joined queryParses_inst queryParses_wrap
    (fun os started H enc _ => queryParses_lifted K os started H enc)

theorem queryParses_card (K : ∀ h, ACalls Tryz.prog (fun _ => none) 16 [] h (Gives (.bool true) h)) : Rows.QueryParsesCardSaid :=
  Claim7.holds_tied_plain_at .later [] [.data, .data, .data, .data, .pinned] true (true, "e5775eb3b770ab670d7ce22325ff37e677ca6ed29f51078c8d504c74ee3d5956") true (queryParses_row K) (fun _ h => by cases h) queryParses_wfText (fun _ h => by cases h) queryParses_row_tie rfl ⟨rfl, rfl⟩ tryz_main rfl
    (fun f fn hf hfn => by
      obtain rfl : f = 3 := Option.some.inj (queryParses_named.symm.trans hf) |>.symm
      obtain rfl : fn = Tryz.f3 := (Option.some.inj (Tryz.func3.symm.trans hfn)).symm
      exact ⟨tryz_looks, fun j t ht => by
        rw [queryParses_params] at ht
        have hm : t ∈ [9, 22] := by simpa using Array.mem_of_getElem? ht
        exact (show Tryz.prog.wantsStandIn t = false by simpa using List.all_eq_true.1 queryParses_wants t hm)⟩)
    queryParses_goes
end Go.Proofs.YtjnkbjloabnopaaGreatDoor

/- The tied card of QueryParses is proved: for every text and every list of numbers the law returns true, and its arguments read as they did. Conditions: none beyond the given card's own. -/
namespace Go.Proofs.YtjnkbjloabnopaaGreatDoor
open Go.Abs

theorem queryParses_holds : Rows.QueryParsesCardSaid := queryParses_card (fun _ => c16)
#print axioms queryParses_holds
end Go.Proofs.YtjnkbjloabnopaaGreatDoor
