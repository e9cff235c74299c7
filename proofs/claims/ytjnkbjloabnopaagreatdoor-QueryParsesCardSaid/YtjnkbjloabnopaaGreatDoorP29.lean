/- Four functions of Go's library that the abstract steps do not reach, walked over the world: a Builder's copy check and its String, and Count of one byte. No conditions. -/
import Derived.Test.YtjnkbjloabnopaaGreatDoorP28
import Derived.Test.YtjnkbjloabnopaaGreatDoorProg
import Derived.WalkKit
import Derived.Lib.Builder
import Derived.Lib.UnsafeStr
import Derived.Lib.Strings
import Derived.Lib.Slices
import Derived.Lib.Bytealg
import Derived.Lib.Walk
import Derived.Laws.Externs
import Derived.Shelf.RegionOpenPlain
import Derived.KernelRfl
namespace Go.Proofs
open Go.RowKit

theorem vul110 : Tryz.prog.underlying 110 = some (.pointer 112) := by kernel_rfl
theorem vul173 : Tryz.prog.underlying 173 = some .unsafePointer := by kernel_rfl

set_option maxHeartbeats 1000000 in
set_option maxRecDepth 100000 in
/-- copyCheck at a builder that has been used: nothing turns. -/
theorem wCopyUsed (b : Nat) (w : World) (h0 : w.cell? ⟨b, 0, none⟩ = some (.pointer (some ⟨b, 0, none⟩))) :
    Calls Tryz.prog 137 #[.pointer (some ⟨b, 0, none⟩)] w fun e w' => e = .returned (.tuple #[]) ∧ w' = w := by
  obtain ⟨j, hj, _⟩ := Option.map_eq_some_iff.1 (show (Tryz.prog.info? 112).map (·.size) = some 2 by kernel_rfl)
  go_enter Tryz.func137, Tryz.ntmps137
  go_wp2
  rw [Lib.run_neq_ptr_same w _ vul110 hj]
  go_wp2
  go_end0
  exact ⟨rfl, rfl⟩

set_option maxHeartbeats 1000000 in
set_option maxRecDepth 100000 in
/-- copyCheck at a fresh builder in a writer: it stores its own address. -/
theorem wCopyFresh (b : Nat) (T : TypeId) (hT : liesAt Tryz.prog Tryz.prog.depth T (2 / Tryz.prog.cellsOf T) 0 112 1 = true) (w : World) (h0 : w.cell? ⟨b, 0, none⟩ = some (.pointer none)) (hsh : w.shape? b = some (T, 2)) (hfz : w.frozen? ⟨b, 0, none⟩ = false) :
    Calls Tryz.prog 137 #[.pointer (some ⟨b, 0, none⟩)] w fun e w' => e = .returned (.tuple #[]) ∧ w' = w.setCell ⟨b, 0, none⟩ (.pointer (some ⟨b, 0, none⟩)) := by
  obtain ⟨j, hj, hjs⟩ := Option.map_eq_some_iff.1 (show (Tryz.prog.info? 112).map (·.size) = some 2 by kernel_rfl)
  go_enter Tryz.func137, Tryz.ntmps137
  go_wp2
  rw [Lib.run_to_unsafe w ⟨b, 0, none⟩ vul110 vul173 hj (by rw [hjs]; decide) hsh (Nat.zero_lt_succ 1)]
  simp only [Result.andThen]
  rw [Oper.upon_value]
  go_wp2
  rw [run_callFunc_extern Tryz.func175 (by kernel_rfl) (by kernel_rfl) (by kernel_rfl) (e := Extern.AbiNoEscape.same) (by kernel_rfl)]
  rw [Lib.run_noEscape]
  simp only [Result.andThen]
  rw [Oper.upon_value]
  go_wp2
  rw [Lib.run_from_unsafe w ⟨b, 0, none⟩ vul173 vul110 hj hsh hT]
  simp only [Result.andThen]
  rw [Oper.upon_value]
  go_wp2
  go_end0
  exact ⟨rfl, rfl⟩

set_option maxHeartbeats 1000000 in
set_option maxRecDepth 100000 in
/-- Count of one byte. -/
theorem wCount (s : ByteArray) (c : UInt8) (w : World) : Calls Tryz.prog 261 #[.string s, .string ⟨#[c]⟩] w fun e w' => e = .returned (.int .i64 (Lib.countByte s.data.toList c)) ∧ w' = w := by
  go_enter Tryz.func261, Tryz.ntmps261
  go_wp2
  rw [run_callFunc_extern Tryz.func291 (by kernel_rfl) (by kernel_rfl) (by kernel_rfl) (e := Extern.BytealgCount.count) (by kernel_rfl), Lib.run_countString]
  simp only [Result.andThen]
  rw [Oper.upon_value]
  go_wp2
  go_ret
  exact ⟨rfl, rfl⟩

theorem vmixed : Tryz.prog.follows Departure.mixedOrders = true := by kernel_rfl
theorem vul50 : Tryz.prog.underlying 50 = some (.slice 5) := by kernel_rfl
theorem vul156 : Tryz.prog.underlying 156 = some (.pointer 5) := by kernel_rfl
theorem vcells5 : Tryz.prog.cellsOf 5 = 1 := by kernel_rfl

set_option maxHeartbeats 2000000 in
set_option maxRecDepth 100000 in
/-- String of a builder that holds something: its bytes; the row is frozen. -/
theorem wString (b g cap : Nat) (l : List UInt8) (h0 : l ≠ []) (cur : Array Value) (w : World) (c1 : w.cell? ⟨b, 1, none⟩ = some (.slice (some ⟨g, 0, none⟩) l.length cap)) (hg : w.heap[g]? = some (.cells cur 5 (0, 0)))
    (hcap : l.length ≤ cap) (hcm : cap ≤ maxLen) (hcs : cur.size = cap) (hb : ∀ j x, l[j]? = some x → w.cell? ((⟨g, 0, none⟩ : Addr).add j) = some (.int .u8 x.toNat)) :
    Calls Tryz.prog 72 #[.pointer (some ⟨b, 0, none⟩)] w fun e w' => e = .returned (.string ⟨l.toArray⟩) ∧ w' = w.drew.freeze ⟨g, 0, none⟩ l.length := by
  have hl0 : l.length ≠ 0 := by simpa using h0
  have c1 : w.drew.cell? ⟨b, 1, none⟩ = some (.slice (some ⟨g, 0, none⟩) l.length cap) := c1
  have hSD : (Builtin.unsafeSliceData_ #[50] 156 #[.slice (some ⟨g, 0, none⟩) l.length cap]).run Tryz.prog w.drew = .ok (.pointer (some ⟨g, 0, none⟩)) w.drew :=
    Lib.run_unsafeSliceData_row _ _ _ _ _ _ (by omega)
  have hUS : (Builtin.unsafeString_ #[156, 3] 9 #[.pointer (some ⟨g, 0, none⟩), .int .i64 l.length]).run Tryz.prog w.drew = .ok (.string ⟨l.toArray⟩) (w.drew.freeze ⟨g, 0, none⟩ l.length) := by
    refine Lib.run_unsafeString_row w.drew 156 3 9 5 vul156 vcells5 g cur.size (by have hg' : w.drew.heap[g]? = some (.cells cur 5 (0, 0)) := hg; simp [World.shape?, hg']) l h0 (by omega) (by unfold maxLen at hcm; omega) ?_
    intro j x hx
    exact hb j x hx
  have mixed := vmixed
  go_enter Tryz.func72, Tryz.ntmps72
  go_wp2
  go_region_o
  all_goals (go_wp2; go_ret; exact ⟨rfl, rfl⟩)
end Go.Proofs

/- The Builder's copy check and its String, and Count of one byte, said of abstract values. No conditions. -/
namespace Go.Proofs
open Go.Abs Go.Q
section
variable {G : Nat → Option Obj} {h : AHeap}

theorem acalls_wf {P : Program} {f : FuncId} {args : List AVal} {Post : AOut → AHeap → Prop} (hc : ACalls P G f args h Post) : ACalls P G f args h (fun out h' => Post out h' ∧ h'.Wf) :=
  fun w vs hr ha => (hc w vs hr ha).mono fun _ _ ⟨out, h', h1, h2, h3⟩ => ⟨out, h', ⟨h1, h2.wf⟩, h2, h3⟩

/-- A loop that ends in its first round. -/
theorem w_once {P : Program} {Q : AExit → Env → AHeap → Prop} {l : List Abs.Frame} {e : Env} {a : ACode} (hr : awp P G a (Run P G Q (.loop (fun e' h' n => n = 0 ∧ e' = e ∧ h' = h) 0 :: l)) e h) : awp P G (.loop a) (Run P G Q l) e h :=
  w_loop (fun e' h' n => n = 0 ∧ e' = e ∧ h' = h) e 0 (.refl e) ⟨rfl, rfl, rfl⟩ (by rintro _ _ _ ⟨rfl, rfl, rfl⟩; exact hr)

theorem reps_one {w : World} {x : AVal} {vs : List Value} (hr : Reps h w [x] vs) : ∃ v, vs = [v] ∧ Rep h w x v := by
  obtain ⟨hl, hr⟩ := hr
  match vs, hl with
  | [v], _ => exact ⟨v, rfl, hr 0 x v rfl rfl⟩
theorem reps_two {w : World} {x y : AVal} {vs : List Value} (hr : Reps h w [x, y] vs) : ∃ u v, vs = [u, v] ∧ Rep h w x u ∧ Rep h w y v := by
  obtain ⟨hl, hr⟩ := hr
  match vs, hl with
  | [u, v], _ => exact ⟨u, v, rfl, hr 0 x u rfl rfl, hr 1 y v rfl rfl⟩
theorem rep_tuple0 {w : World} : Rep h w (.tuple []) (.tuple #[]) := .tuple [] [] rfl fun i c v hc => by simp at hc

theorem c137u {g : Nat} {T : TypeId} {cs : List AVal} (hg : h.get g = some (.box T (.ptr g 0 :: cs))) : ACalls Tryz.prog G 137 [.ptr g 0] h (Gives (.tuple []) h) := by
  refine acalls_of fun w vs hr ha => ?_
  obtain ⟨v, rfl, hv⟩ := reps_one ha
  cases hv
  obtain ⟨us, hb, hc, _⟩ := hr.box g T _ hg
  have h0 : w.cell? ⟨g, 0, none⟩ = some (.pointer (some ⟨g, 0, none⟩)) := by
    obtain ⟨u, hu⟩ : ∃ u, us[0]? = some u := ⟨_, List.getElem?_eq_getElem (by rw [hc.1]; simp)⟩
    have h1 := hc.2 0 _ u rfl hu
    cases h1
    rw [cell_of rfl hb]
    simpa using hu
  refine (wCopyUsed g w h0).mono ?_
  rintro e w' ⟨rfl, rfl⟩
  exact ⟨_, h, ⟨rfl, rfl⟩, hr, .refl hr, _, rfl, rep_tuple0⟩

theorem c137f {g : Nat} {T : TypeId} {x : AVal} (hT : liesAt Tryz.prog Tryz.prog.depth T (2 / Tryz.prog.cellsOf T) 0 112 1 = true) (hg : h.get g = some (.box T [.nilptr, x])) :
    ACalls Tryz.prog G 137 [.ptr g 0] h (fun out h' => out = .ret (.tuple []) ∧ h' = h.set g (.box T [.ptr g 0, x])) := by
  refine acalls_of fun w vs hr ha => ?_
  obtain ⟨v, rfl, hv⟩ := reps_one ha
  cases hv
  obtain ⟨us, hb, hc, ho⟩ := hr.box g T _ hg
  obtain ⟨u0, u1, rfl, h0, h1⟩ := reps_two hc
  cases h0
  refine (wCopyFresh g T hT w (by rw [cell_of rfl hb]; rfl) (by simp [World.shape?, hb]) (by simp [World.frozen?, hb])).mono ?_
  rintro e w' ⟨rfl, rfl⟩
  rw [setCell_eq_setRow w g 0 _ T (0, 0) _ hb]
  refine ⟨_, _, ⟨rfl, rfl⟩, set_rel (us := [.pointer (some ⟨g, 0, none⟩), u1]) hr hg hb ⟨rfl, fun i c v hi hv => ?_⟩ (fun c hm => ?_), set_step hr hg hb _, _, rfl, rep_tuple0⟩
  · rcases i with _ | _ | i
    · obtain rfl : AVal.ptr g 0 = c := by simpa using hi
      obtain rfl := (by simpa using hv : Value.pointer (some ⟨g, 0, none⟩) = v)
      exact .ptr g 0
    · obtain rfl : x = c := by simpa using hi
      obtain rfl : u1 = v := by simpa using hv
      exact h1
    · simp at hi
  · rcases List.mem_cons.1 hm with rfl | hm
    · rfl
    · exact ho c (List.mem_cons_of_mem _ hm)

theorem freeze_ok {w : World} (hr : Rel G h w) {b : Nat} {T : TypeId} {l : Nat} (hb : h.get b = some (.row T l)) (n : Nat) : Rel G (h.erase b) (w.freeze ⟨b, 0, none⟩ n) ∧ Step h w (h.erase b) (w.freeze ⟨b, 0, none⟩ n) := by
  obtain ⟨vs, hv, hl⟩ := hr.row b T l hb
  have hother : ∀ x, x ≠ b → (w.freeze ⟨b, 0, none⟩ n).heap[x]? = w.heap[x]? := fun x hx => by
    unfold World.freeze
    split
    · rfl
    · simp only [Array.getElem?_modify]
      rw [if_neg (by simpa using fun e => hx e.symm)]
  have hself : ∃ f, (w.freeze ⟨b, 0, none⟩ n).heap[b]? = some (.cells vs T f) := by
    unfold World.freeze
    split
    · exact ⟨_, hv⟩
    · simp only [Array.getElem?_modify, if_true, hv, Option.map_some]
      exact ⟨_, rfl⟩
  have hget : ∀ x o, (h.erase b).get x = some o → x ≠ b ∧ h.get x = some o := fun x o hx => by
    simp only [AHeap.erase] at hx
    split at hx
    · cases hx
    · exact ⟨‹_›, hx⟩
  have hs : Step h w (h.erase b) (w.freeze ⟨b, 0, none⟩ n) := by
    refine ⟨?_, ?_, ?_, ?_, fun x _ hn => ?_, fun x T' len _ hh => ?_, fun x T' cs _ hh => ?_⟩
    · unfold World.freeze; split <;> rfl
    · unfold World.freeze; split <;> rfl
    · unfold World.freeze; split <;> rfl
    · unfold World.freeze; split <;> simp
    · have hne : x ≠ b := fun e => by rw [e, hb] at hn; cases hn
      exact ⟨hother x hne, by simp [AHeap.erase, hn]⟩
    · by_cases hne : x = b
      · subst hne
        rw [hb] at hh
        injection hh with hh
        injection hh with h1 h2
        subst h1; subst h2
        obtain ⟨f, hf⟩ := hself
        exact ⟨vs, vs, f, hv, hf, rfl, fun _ _ => rfl, .inl (by simp [AHeap.erase])⟩
      · obtain ⟨us, h1, _⟩ := hr.row x T' len hh
        exact ⟨us, us, (0, 0), h1, (hother x hne).trans h1, rfl, fun _ _ => rfl, .inr ⟨rfl, len, Nat.le_refl _, by simp [AHeap.erase, hne, hh]⟩⟩
    · have hne : x ≠ b := fun e => by rw [e, hb] at hh; cases hh
      exact .inr ⟨cs, by simp [AHeap.erase, hne, hh]⟩
  refine ⟨⟨fun x o hx => hr.wf x o (hget x o hx).2, Nat.le_trans hr.nxt hs.size, fun x T' cells hx => ?_, fun x T' len hx => ?_, fun x o hx => ?_⟩, hs⟩
  · obtain ⟨hne, hx⟩ := hget x _ hx
    obtain ⟨us, h1, h2, h3⟩ := hr.box x T' cells hx
    exact ⟨us, (hother x hne).trans h1, h2.step hs, h3⟩
  · obtain ⟨hne, hx⟩ := hget x _ hx
    obtain ⟨us, h1, h2⟩ := hr.row x T' len hx
    exact ⟨us, (hother x hne).trans h1, h2⟩
  · obtain ⟨h1, h2⟩ := hr.glob x o hx
    have hne : x ≠ b := fun e => by rw [e, hb] at h2; cases h2
    exact ⟨(hother x hne).trans h1, by simp [AHeap.erase, h2]⟩

theorem c72 {g b T l : Nat} {x : AVal} {s : Str} (hs : s ≠ []) (hg : h.get g = some (.box T [x, .sl 1 (bytesE s) (.own b)])) (hb : h.get b = some (.row 5 l)) :
    ACalls Tryz.prog G 72 [.ptr g 0] h (fun out h' => out = .ret (.str s) ∧ h' = h.erase b) := by
  refine acalls_of fun w vs hr ha => ?_
  obtain ⟨v, rfl, hv⟩ := reps_one ha
  cases hv
  obtain ⟨us, hub, hc, ho⟩ := hr.box g T _ hg
  obtain ⟨u0, u1, rfl, h0, h1⟩ := reps_two hc
  obtain ⟨cur, hcur, _⟩ := hr.row b 5 l hb
  have hlen := bytesE_length s
  generalize hes : bytesE s = es at h1 hlen
  cases h1 with
  | sl _ _ _ a cap ha hcap hsz hcells hrep hone hT =>
    obtain ⟨rfl, hcm, ⟨cur', T', f, hc', hcs⟩, _⟩ := hT
    rw [hcur] at hc'
    injection hc' with hc'
    injection hc' with e1 e2 e3
    subst e1; subst e2; subst e3
    rw [hlen] at hcap hcells hub
    have hdr := drew_rel hr
    have hfz := freeze_ok hdr hb s.length
    have hst : Step h w (h.erase b) (w.drew.freeze ⟨b, 0, none⟩ s.length) := (drew_step hr).trans hfz.2
    refine (wString g b cap s hs cur w (by rw [cell_of rfl hub]; rfl) hcur hcap hcm (by omega) fun j y hy => ?_).mono ?_
    · have hjl : j < s.length := (List.getElem?_eq_some_iff.1 hy).1
      obtain ⟨⟨u, hu⟩, _⟩ := hcells j (by omega)
      have h3 := hrep j 0 [.int .u8 y.toNat] (.int .u8 y.toNat) u (by rw [← hes]; simp [bytesE, hy]) rfl (by simpa using hu)
      cases h3
      exact hu
    · rintro e w' ⟨rfl, rfl⟩
      exact ⟨_, _, ⟨rfl, rfl⟩, hfz.1, hst, _, rfl, by have := Rep.str (h := h.erase b) (w := w.drew.freeze ⟨b, 0, none⟩ s.length) ⟨s.toArray⟩; simpa using this⟩

theorem c261 {s : Str} {c : UInt8} : ACalls Tryz.prog G 261 [.str s, .str [c]] h (Gives (.int .i64 (Lib.countByte s c)) h) := by
  refine acalls_of fun w vs hr ha => ?_
  obtain ⟨u, v, rfl, hu, hv⟩ := reps_two ha
  obtain ⟨t, rfl, rfl⟩ := hu.str_inv
  obtain ⟨t', rfl, ht'⟩ := hv.str_inv
  obtain rfl : t' = ⟨#[c]⟩ := by
    obtain ⟨⟨l⟩⟩ := t'
    simp only at ht'
    rw [ht']
  refine (wCount t c w).mono ?_
  rintro e w' ⟨rfl, rfl⟩
  exact ⟨_, h, ⟨rfl, rfl⟩, hr, .refl hr, _, rfl, .int _ _⟩
end
end Go.Proofs

/- Writing to a Builder in a writer. No conditions. -/
namespace Go.Proofs
open Go.Abs Go.Q
attribute [local irreducible] awp aops Run BodyQ ACalls Back

theorem ca137 : Callable Tryz.prog 137 := ⟨_, Tryz.func137, by kernel_rfl, by kernel_rfl⟩
theorem ca72 : Callable Tryz.prog 72 := ⟨_, Tryz.func72, by kernel_rfl, by kernel_rfl⟩
theorem ca261 : Callable Tryz.prog 261 := ⟨_, Tryz.func261, by kernel_rfl, by kernel_rfl⟩
theorem lies114 : liesAt Tryz.prog Tryz.prog.depth 114 (2 / Tryz.prog.cellsOf 114) 0 112 1 = true := by kernel_rfl

section
variable {G : Nat → Option Obj} {h : AHeap}

theorem s_append_g {P : Program} {Q : AExit → Env → AHeap → Prop} {r : List (AOp × List AOp)} {e : Env} {d : Nat} {chk : List AOp} {x y : Operand} {t u E s1 b1 s2 b2 sz by' : Nat} {k : AK} {es : List (List AVal)} {s : List UInt8} {tg : Tag} {z : List AVal} {z1 z2 : Option (List AVal)} (hx : Abs.look e x = some (true, .sl sz es tg)) (hy : Abs.look e y = some (true, .str s)) (hT : tyi P t = some ⟨s1, b1, .sl E, z1⟩) (hU : tyi P u = some ⟨s2, b2, .str, z2⟩) (hE : tyi P E = some ⟨1, by', k, some z⟩)
    (hz : (Nat.beq z.length 1 && Nat.blt 0 by') = true) (hs : s ≠ []) (hsz : sz = 1 ∨ tg = .nl) (hby : (es.length + s.length) * by' ≤ 140737488355328)
    (hn : growTo h E es.length (es.length + s.length) tg fun tg' h' => recheck P h' ((d, true, .sl 1 (es ++ bytesE s) tg') :: e) chk ∧ aops P G Q r ((d, true, .sl 1 (es ++ bytesE s) tg') :: e) h') :
    aops P G Q ((⟨some d, .call ⟨.builtin .append, #[x, y], #[t, u]⟩, none⟩, chk) :: r) e h := by
  simp only [Bool.and_eq_true] at hz
  have h1 := Nat.eq_of_beq_eq_true hz.1
  have h3 := Nat.le_of_ble_eq_true hz.2
  refine s_eff rfl (c2 hx hy (fun _ => rfl) (g := true) rfl) ?_
  obtain ⟨c, l, rfl⟩ : ∃ c l, s = c :: l := by
    cases s with
    | nil => exact absurd rfl hs
    | cons c l => exact ⟨c, l, rfl⟩
  simp only [aeff, hT, hU, lookv_of hx, lookv_of hy, aappend, hE, srcElems, if_true, List.map_cons, bytesE] at hn ⊢
  have hl : ∀ (l : List UInt8), (List.map (fun b => [AVal.int .u8 b.toNat]) l).length = l.length := fun l => List.length_map ..
  simp only [List.length_cons, List.length_append, hl, Nat.mul_one] at hby hn ⊢
  have hlen : es.length + (l.length + 1) ≤ 9223372036854775807 := by
    have : es.length + (l.length + 1) ≤ (es.length + (l.length + 1)) * by' := Nat.le_mul_of_pos_right _ h3
    omega
  exact ⟨hsz, Nat.one_pos, h1, hby, hlen, hn⟩

/-- A writer at g that holds s; what is its own lies from B on. -/
def Wr (B g : Nat) (s : Str) (h : AHeap) : Prop :=
  B ≤ g ∧ ((s = [] ∧ h.get g = some (.box 114 [.nilptr, .sl 0 [] .nl])) ∨ ∃ b, B ≤ b ∧ b ≠ g ∧ h.get g = some (.box 114 [.ptr g 0, .sl 1 (bytesE s) (.own b)]) ∧ h.get b = some (.row 5 s.length))

/-- All variables but g stand, and all that lies ahead of B. -/
structure Keep (B g : Nat) (h h' : AHeap) : Prop where
  next : h.next ≤ h'.next
  box : ∀ x T cs, x ≠ g → h.get x = some (.box T cs) → h'.get x = some (.box T cs)
  old : ∀ x o, x < B → h.get x = some o → h'.get x = some o

theorem Keep.refl {B g : Nat} : Keep B g h h := ⟨Nat.le_refl _, fun _ _ _ _ hx => hx, fun _ _ _ hx => hx⟩
theorem Keep.trans {B g : Nat} {h1 h2 h3 : AHeap} (a : Keep B g h1 h2) (b : Keep B g h2 h3) : Keep B g h1 h3 := ⟨Nat.le_trans a.next b.next, fun x T cs hx hh => b.box x T cs hx (a.box x T cs hx hh), fun x o hx hh => b.old x o hx (a.old x o hx hh)⟩
theorem Keep.new {B g b : Nat} {o : AObj} (hw : h.Wf) (hb : h.next ≤ b) : Keep B g h (h.new b o) := ⟨by simp only [new_next]; omega, fun x T cs _ hh => hn_ne (by have := hw x _ hh; omega) hh, fun x o _ hh => hn_ne (by have := hw x _ hh; omega) hh⟩
theorem Wr.lt {B g : Nat} {s : Str} (hw : h.Wf) (hW : Wr B g s h) : g < h.next := by
  rcases hW with ⟨_, ⟨_, hg⟩ | ⟨b, _, _, hg, _⟩⟩ <;> exact hw _ _ hg
theorem Wr.new {B g b : Nat} {s : Str} {o : AObj} (hw : h.Wf) (hb : h.next ≤ b) (hW : Wr B g s h) : Wr B g s (h.new b o) := by
  obtain ⟨hB, hW⟩ := hW
  refine ⟨hB, ?_⟩
  rcases hW with ⟨hs, hg⟩ | ⟨b', hBb, hne, hg, hr⟩
  · exact .inl ⟨hs, hn_ne (by have := hw _ _ hg; omega) hg⟩
  · exact .inr ⟨b', hBb, hne, hn_ne (by have := hw _ _ hg; omega) hg, hn_ne (by have := hw _ _ hr; omega) hr⟩
theorem Wr.set {B g b T : Nat} {s : Str} {cs cs' : List AVal} (hne : b ≠ g) (hbx : h.get b = some (.box T cs)) (hW : Wr B g s h) : Wr B g s (h.set b (.box T cs')) := by
  obtain ⟨hB, hW⟩ := hW
  refine ⟨hB, ?_⟩
  rcases hW with ⟨hs, hg⟩ | ⟨b', hBb, hb', hg, hr⟩
  · exact .inl ⟨hs, hs_ne (Ne.symm hne) hg⟩
  · exact .inr ⟨b', hBb, hb', hs_ne (Ne.symm hne) hg, hs_ne (fun e => by rw [e, hbx] at hr; cases hr) hr⟩

/-- What a writing function does. -/
def WP (B g : Nat) (s t : Str) (v : AVal) (h : AHeap) : AOut → AHeap → Prop := fun out h' => out = .ret v ∧ Wr B g (s ++ t) h' ∧ Keep B g h h'

set_option maxHeartbeats 1000000 in
theorem c68 {B g : Nat} {s t : Str} (hW : Wr B g s h) (ht : t ≠ []) (hl : s.length + t.length ≤ 1000000000) : ACalls Tryz.prog G 68 [.ptr g 0, .str t] h (WP B g s t (.tuple [.int .i64 t.length, .niliface]) h) := by
  refine en68 (by simp) fun hw => ?_
  have hlt := hW.lt hw
  obtain ⟨hB, hW⟩ := hW
  rcases hW with ⟨rfl, hg⟩ | ⟨b0, hB0, hne, hg, hr⟩
  · refine g1 ?_
    refine s_call rfl rfl rfl ca137 ?_
    refine (c137f lies114 hg).mono ?_
    rintro _ _ ⟨rfl, rfl⟩
    refine back trivial ?_
    refine g1 ?_
    refine s_append_g rfl rfl (tt rfl) (tt rfl) (tt rfl) rfl ht (.inr rfl) (by simp; omega) ?_
    refine fun b hb => ⟨trivial, ?_⟩
    simp only [set_next] at hb
    refine g1 ?_
    refine ⟨rfl, ⟨hB, .inr ⟨b, by omega, by omega, hs_self, ?_⟩⟩, ?_, fun x T cs hx hh => ?_, fun x o hx hh => ?_⟩
    · refine hs_ne (by omega) ?_
      rw [hn_self]
      simp
    · simp only [set_next, new_next]; omega
    · have := hw _ _ hh
      exact hs_ne hx (hn_ne (by omega) (hs_ne hx hh))
    · have := hw _ _ hh
      exact hs_ne (by omega) (hn_ne (by omega) (hs_ne (by omega) hh))
  · refine g1 ?_
    refine s_call rfl rfl rfl ca137 ?_
    refine (c137u hg).mono ?_
    rintro _ _ ⟨rfl, hh⟩
    obtain rfl := hh.symm
    refine back trivial ?_
    refine g1 ?_
    have hlen := bytesE_length s
    refine s_append_g rfl rfl (tt rfl) (tt rfl) (tt rfl) rfl ht (.inl rfl) (by omega) ?_
    have hb0 := hw _ _ hr
    simp only [growTo, hr, hlen]
    refine ⟨trivial, trivial, fun b hb => ⟨trivial, ?_⟩⟩
    have hgb : g ≠ b := by omega
    have hg2 : (h.move b0 b (.row 5 (s.length + t.length))).get g = some (.box 114 [.ptr g 0, .sl 1 (bytesE s) (.own b0)]) := hm_ne hgb (Ne.symm hne) hg
    refine g1 ?_
    refine ⟨rfl, ⟨hB, .inr ⟨b, by omega, Ne.symm hgb, ?_, ?_⟩⟩, ?_, fun x T cs hx hh => ?_, fun x o hx hh => ?_⟩
    · rw [hs_self]
      simp [bytesE, setCells, AVal.cells]
    · rw [hs_ne (Ne.symm hgb) hm_self]
      simp
    · simp only [set_next, AHeap.move]; omega
    · have := hw _ _ hh
      have hx0 : x ≠ b0 := fun e => by rw [e, hr] at hh; cases hh
      have hxb : x ≠ b := by
        rcases hb with rfl | hb
        · exact hx0
        · omega
      exact hs_ne hx (hm_ne hxb hx0 hh)
    · have := hw _ _ hh
      exact hs_ne (by omega) (hm_ne (by omega) (by omega) hh)

theorem wfw_new {b : Nat} {o : AObj} (hw : h.Wf) (hb : h.next ≤ b) : (h.new b o).Wf := fun x o' hx => by
  simp only [AHeap.new] at hx ⊢
  split at hx
  · omega
  · have := hw x o' hx; omega
theorem wfw_set {b T : Nat} {cs cs' : List AVal} (hw : h.Wf) (hb : h.get b = some (.box T cs)) : (h.set b (.box T cs')).Wf := fun x o' hx => by
  simp only [AHeap.set] at hx ⊢
  split at hx
  · rename_i he; rw [he]; exact hw b _ hb
  · exact hw x o' hx
theorem Keep.set {B g b T : Nat} {cs' : List AVal} {h0 : AHeap} (hw : h0.Wf) (hb : h0.next ≤ b) (k : Keep B g h0 h) : Keep B g h0 (h.set b (.box T cs')) :=
  ⟨k.next, fun x T' cs hx hh => hs_ne (by have := hw _ _ hh; omega) (k.box x T' cs hx hh), fun x o hx hh => hs_ne (by have := hw _ _ hh; omega) (k.old x o hx hh)⟩

section
variable {P : Program} {Q : AExit → Env → AHeap → Prop} {r : List (AOp × List AOp)} {e : Env} {d : Nat} {chk : List AOp} {v : AVal}
/-- A variable beside a writer. -/
theorem s_boxw {B g T : Nat} {s : Str} {x : Operand} (hw : h.Wf) (hW : Wr B g s h) (hx : Abs.look e x = some (true, v)) (hv : isTuple v = false)
    (hn : ∀ b h1, b ≠ g → h.next ≤ b → h1.Wf → Wr B g s h1 → Keep B g h h1 → h1.get b = some (.box T v.cells) → recheck P h1 ((d, true, .ptr b 0) :: e) chk ∧ aops P G Q r ((d, true, .ptr b 0) :: e) h1) :
    aops P G Q ((⟨some d, .box T x, none⟩, chk) :: r) e h :=
  s_box hx hv fun b hb => hn b _ (by have := hW.lt hw; omega) hb (wfw_new hw hb) (hW.new hw hb) (.new hw hb) hn_self
theorem s_allocw {B g T sz by' : Nat} {k : AK} {s : Str} {zz : List AVal} (hw : h.Wf) (hW : Wr B g s h) (ht : tyi P T = some ⟨sz, by', k, some zz⟩)
    (hn : ∀ b h1, b ≠ g → h.next ≤ b → h1.Wf → Wr B g s h1 → Keep B g h h1 → h1.get b = some (.box T zz) → recheck P h1 ((d, true, .ptr b 0) :: e) chk ∧ aops P G Q r ((d, true, .ptr b 0) :: e) h1) :
    aops P G Q ((⟨some d, .alloc T, none⟩, chk) :: r) e h :=
  s_alloc ht fun b hb => hn b _ (by have := hW.lt hw; omega) hb (wfw_new hw hb) (hW.new hw hb) (.new hw hb) hn_self
end
end
end Go.Proofs

/- Writing a quoted text, a condition, a token. No conditions. -/
namespace Go.Proofs
open Go.Abs Go.Q
attribute [local irreducible] awp aops Run BodyQ ACalls Back
section
variable {G : Nat → Option Obj} {h : AHeap}

/-- Replacing what is not there. -/
theorem c240 {s : Str} (h0 : Lib.countByte s 34 = 0) : ACalls Tryz.prog G 240 [.str s, .str [34], .str [34, 34], .int .i64 (-1)] h (Gives (.str s) h) := by
  have hc : ∀ h, ACalls Tryz.prog G 261 [.str s, .str [34]] h (Gives (.int .i64 0) h) := fun h => by
    have := c261 (G := G) (h := h) (s := s) (c := 34)
    rw [h0] at this
    exact this
  refine en240 (by simp) fun hw => ?_
  refine g1 ?_
  refine s_call rfl rfl rfl ca261 ?_
  refine (hc _).mono ?_
  rintro _ _ ⟨rfl, hh⟩
  obtain rfl := hh.symm
  refine back trivial ?_
  refine g1 ?_
  exact ⟨rfl, rfl⟩
theorem c213 {s : Str} (h0 : Lib.countByte s 34 = 0) : ACalls Tryz.prog G 213 [.str s, .str [34], .str [34, 34]] h (Gives (.str s) h) := by
  refine en213 (by simp) fun hw => ?_
  refine g1 ?_
  refine s_call rfl rfl rfl ca240 ?_
  refine (c240 h0).mono ?_
  rintro _ _ ⟨rfl, hh⟩
  obtain rfl := hh.symm
  refine back trivial ?_
  refine g1 ?_
  exact ⟨rfl, rfl⟩

theorem c176 {B g : Nat} {s x : Str} (hW : Wr B g s h) (h0 : Lib.countByte x 34 = 0) (hl : s.length + (x.length + 2) ≤ 1000000000) : ACalls Tryz.prog G 176 [.ptr g 0, .str x] h (WP B g s ([34] ++ x ++ [34]) (.tuple []) h) := by
  refine en176 (by simp) fun hw => ?_
  refine g1 ?_
  refine s_call rfl rfl rfl ca213 ?_
  refine (c213 h0).mono ?_
  rintro _ _ ⟨rfl, hh⟩
  obtain rfl := hh.symm
  refine back trivial ?_
  refine g1 ?_
  refine s_call rfl rfl rfl ca68 ?_
  refine (acalls_wf (c68 hW (by simp) (by simp; omega))).mono ?_
  rintro _ h2 ⟨⟨rfl, W2, k2⟩, w2⟩
  refine back trivial ?_
  refine g1 ?_
  exact ⟨rfl, W2, k2⟩

/-- A quoted text and the sign of folding. -/
def valueF (x : Str) (fold : Bool) : Str := [34] ++ x ++ [34] ++ (if fold then [37, 99] else [])

theorem c138 {B g : Nat} {s x : Str} {fold : Bool} (hW : Wr B g s h) (h0 : Lib.countByte x 34 = 0) (hl : s.length + (x.length + 4) ≤ 1000000000) : ACalls Tryz.prog G 138 [.ptr g 0, .str x, .bool fold] h (WP B g s (valueF x fold) (.tuple []) h) := by
  refine en138 (by simp) fun hw => ?_
  refine g1 ?_
  refine s_call rfl rfl rfl ca176 ?_
  refine (acalls_wf (c176 hW h0 (by omega))).mono ?_
  rintro _ h2 ⟨⟨rfl, W2, k2⟩, w2⟩
  refine back trivial ?_
  cases fold with
  | true =>
    refine g1 ?_
    refine s_call rfl rfl rfl ca68 ?_
    refine (acalls_wf (c68 W2 (by simp) (by simp; omega))).mono ?_
    rintro _ h3 ⟨⟨rfl, W3, k3⟩, w3⟩
    refine back trivial ?_
    refine g1 ?_
    exact ⟨rfl, by simpa [valueF] using W3, k2.trans k3⟩
  | false =>
    refine g1 ?_
    exact ⟨rfl, by simpa [valueF] using W2, k2⟩

set_option maxHeartbeats 1000000 in
/-- A comparison with a value. -/
theorem c173v {B g : Nat} {s name x : Str} {fold : Bool} (hW : Wr B g s h) (hn : name ≠ []) (h0 : Lib.countByte x 34 = 0) (hl : s.length + (name.length + x.length + 5) ≤ 1000000000) :
    ACalls Tryz.prog G 173 [.ptr g 0, encCa (.mk 2 name [] x [] fold [])] h (WP B g s (name ++ [61] ++ valueF x fold) (.tuple []) h) := by
  refine en173 (by simp) fun hw => ?_
  have e1 : (name != []) = true := by simp [hn]
  refine g1 ?_
  refine s_boxw hw hW rfl rfl fun b1 h1 n1 hbb1 w1 W1 k1 gb1 => ⟨trivial, ?_⟩
  refine g1 ?_
  refine s_boxw w1 W1 rfl rfl fun b2 h2 n2 hbb2 w2 W2 k2 gb2 => ⟨trivial, ?_⟩
  have gb1 := k2.box _ _ _ n1 gb1
  refine g1 ?_
  refine s_call rfl rfl rfl ca68 ?_
  refine (acalls_wf (c68 W2 (by simp) (by simp; omega))).mono ?_
  rintro _ h3 ⟨⟨rfl, W3, k3⟩, w3⟩
  refine back trivial ?_
  have gb1 := k3.box _ _ _ n1 gb1
  have gb2 := k3.box _ _ _ n2 gb2
  refine g1 ?_
  refine s_call rfl rfl rfl ca138 ?_
  refine (acalls_wf (c138 W3 h0 (by simp; omega))).mono ?_
  rintro _ h4 ⟨⟨rfl, W4, k4⟩, w4⟩
  refine back trivial ?_
  refine g1 ?_
  exact ⟨rfl, by simpa using W4, ((k1.trans k2).trans k3).trans k4⟩

def tokF (name x : Str) (fold : Bool) : Str := [91] ++ (name ++ [61] ++ valueF x fold) ++ [93]

set_option maxHeartbeats 1000000 in
/-- A token pattern that compares with a value. -/
theorem c132v {B g : Nat} {s name x : Str} {fold : Bool} (hW : Wr B g s h) (hn : name ≠ []) (h0 : Lib.countByte x 34 = 0) (hl : s.length + (name.length + x.length + 7) ≤ 1000000000) :
    ACalls Tryz.prog G 132 [.ptr g 0, encPa (.mk 1 (.mk 2 name [] x [] fold []) [] [] 0 0 [])] h (WP B g s (tokF name x fold) (.tuple []) h) := by
  refine en132 (by simp) fun hw => ?_
  have e1 : (name == []) = false := by simp [hn]
  refine g1 ?_
  refine s_boxw hw hW rfl rfl fun b1 h1 n1 hbb1 w1 W1 k1 gb1 => ⟨trivial, ?_⟩
  refine g1 ?_
  refine s_call rfl rfl rfl ca68 ?_
  refine (acalls_wf (c68 W1 (by simp) (by simp; omega))).mono ?_
  rintro _ h2 ⟨⟨rfl, W2, k2⟩, w2⟩
  refine back trivial ?_
  have gb1 := k2.box _ _ _ n1 gb1
  refine g1 ?_
  refine s_call rfl rfl rfl ca173 ?_
  refine (acalls_wf (c173v W2 hn h0 (by simp; omega))).mono ?_
  rintro _ h3 ⟨⟨rfl, W3, k3⟩, w3⟩
  refine back trivial ?_
  refine g1 ?_
  refine s_call rfl rfl rfl ca68 ?_
  refine (acalls_wf (c68 W3 (by simp) (by simp [valueF]; cases fold <;> simp <;> omega))).mono ?_
  rintro _ h4 ⟨⟨rfl, W4, k4⟩, w4⟩
  refine back trivial ?_
  refine g1 ?_
  exact ⟨rfl, by simpa [tokF] using W4, ((k1.trans k2).trans k3).trans k4⟩
end
end Go.Proofs

/- Writing a pattern: begins of regions, tokens, flat sequences. No conditions. -/
namespace Go.Proofs
open Go.Abs Go.Q
attribute [local irreducible] awp aops Run BodyQ ACalls Back

/-- The pattern is written so. -/
def PatW (G : Nat → Option Obj) (p : Pat) (t : Str) : Prop := ∀ {B g : Nat} {s : Str} {h : AHeap}, Wr B g s h → s.length ≤ 10000000 → ACalls Tryz.prog G 67 [.ptr g 0, encPa p] h (WP B g s t (.tuple []) h)

section
variable {G : Nat → Option Obj} {h : AHeap}

set_option maxHeartbeats 1000000 in
theorem w_begin {cond : Cond} {label region : Str} {lo hi : Int} {kids : List Pat} (hr : region.length ≤ 1000) : PatW G (.mk 2 cond label region lo hi kids) ([60] ++ region ++ [62]) := by
  intro B g s h hW hs
  obtain ⟨op', nm, ag, vl, lb, fd, kd⟩ := cond
  refine en67 (by simp) fun hw => ?_
  refine g1 ?_
  refine s_boxw hw hW rfl rfl fun b1 h1 n1 hbb1 w1 W1 k1 gb1 => ⟨trivial, ?_⟩
  refine g1 ?_
  refine s_boxw w1 W1 rfl rfl fun b2 h2 n2 hbb2 w2 W2 k2 gb2 => ⟨trivial, ?_⟩
  have gb1 := k2.box _ _ _ n1 gb1
  refine g1 ?_
  refine s_call rfl rfl rfl ca68 ?_
  refine (acalls_wf (c68 W2 (by simp) (by simp; omega))).mono ?_
  rintro _ h3 ⟨⟨rfl, W3, k3⟩, w3⟩
  refine back trivial ?_
  refine g1 ?_
  exact ⟨rfl, by simpa using W3, (k1.trans k2).trans k3⟩

set_option maxHeartbeats 1000000 in
theorem w_token {name x : Str} {fold : Bool} (hn : name ≠ []) (h0 : Lib.countByte x 34 = 0) (hl : name.length + x.length ≤ 1000) : PatW G (.mk 1 (.mk 2 name [] x [] fold []) [] [] 0 0 []) (tokF name x fold) := by
  intro B g s h hW hs
  refine en67 (by simp) fun hw => ?_
  refine g1 ?_
  refine s_boxw hw hW rfl rfl fun b1 h1 n1 hbb1 w1 W1 k1 gb1 => ⟨trivial, ?_⟩
  refine g1 ?_
  refine s_boxw w1 W1 rfl rfl fun b2 h2 n2 hbb2 w2 W2 k2 gb2 => ⟨trivial, ?_⟩
  have gb1 := k2.box _ _ _ n1 gb1
  refine g1 ?_
  refine s_call rfl rfl rfl ca132 ?_
  refine (acalls_wf (c132v W2 hn h0 (by omega))).mono ?_
  rintro _ h3 ⟨⟨rfl, W3, k3⟩, w3⟩
  refine back trivial ?_
  refine g1 ?_
  exact ⟨rfl, by simpa using W3, (k1.trans k2).trans k3⟩

theorem c136 {B g b1 b2 : Nat} {s t : Str} {p : Pat} (hp : PatW G p t) (hW : Wr B g s h) (hs : s.length ≤ 10000000) (gb1 : h.get b1 = some (.box 109 [.ptr g 0])) (gb2 : h.get b2 = some (.box 32 (encP p))) :
    ACalls Tryz.prog G 136 [.ptr b1 0, .ptr b2 0] h (WP B g s t (.tuple []) h) := by
  have hp' := hp hW hs
  obtain ⟨a1, ⟨c1, c2, c3, c4, c5, c6, c7⟩, a2, a3, a4, a5, a6⟩ := p
  refine en136 (by simp) fun hw => ?_
  refine g1 ?_
  refine s_call rfl rfl rfl ca67 ?_
  refine (acalls_wf (hp')).mono ?_
  rintro _ h3 ⟨⟨rfl, W3, k3⟩, w3⟩
  refine back trivial ?_
  refine g1 ?_
  exact ⟨rfl, W3, k3⟩

theorem c133f {B g : Nat} {s t : Str} {k : FuncId} {cap : List AVal} (hk : Callable Tryz.prog k) (hf : ACalls Tryz.prog G k cap h (WP B g s t (.tuple []) h)) :
    ACalls Tryz.prog G 133 [.ptr g 0, .bool false, .func (.func k) [] cap] h (WP B g s t (.tuple []) h) := by
  refine en133 (by simp) fun hw => ?_
  refine g1 ?_
  refine s_call rfl rfl rfl hk ?_
  refine hf.mono ?_
  rintro _ h2 ⟨rfl, W2, k2⟩
  refine back trivial ?_
  refine g1 ?_
  exact ⟨rfl, W2, k2⟩

def seqF (T : Pat → Str) : List Pat → Str
  | [] => []
  | k :: r => T k ++ r.flatMap fun k => 32 :: T k
theorem seqF_take {T : Pat → Str} {l : List Pat} {i : Nat} {y : Pat} (h : l[i]? = some y) : seqF T (l.take (i + 1)) = seqF T (l.take i) ++ ((if i = 0 then [] else [32]) ++ T y) := by
  cases l with
  | nil => simp at h
  | cons k r =>
    cases i with
    | zero =>
      obtain rfl : k = y := by simpa using h
      simp [seqF]
    | succ i =>
      have h' : r[i]? = some y := by simpa using h
      rw [List.take_succ_cons, List.take_succ_cons, seqF, seqF, List.take_add_one, h']
      simp
theorem seqF_len {T : Pat → Str} (l : List Pat) (h : ∀ k, k ∈ l → (T k).length ≤ 2000) : (seqF T l).length ≤ l.length * 2001 := by
  have h2 : ∀ r : List Pat, (∀ k, k ∈ r → (T k).length ≤ 2000) → (r.flatMap fun k => 32 :: T k).length ≤ r.length * 2001 := by
    intro r hr
    induction r with
    | nil => simp
    | cons k r ih =>
      have h3 := hr k List.mem_cons_self
      have h4 := ih fun x hx => hr x (List.mem_cons_of_mem _ hx)
      simp only [List.flatMap_cons, List.length_append, List.length_cons]
      omega
  cases l with
  | nil => simp [seqF]
  | cons k r =>
    have h3 := h k List.mem_cons_self
    have h4 := h2 r fun x hx => h x (List.mem_cons_of_mem _ hx)
    simp only [seqF, List.length_append, List.length_cons]
    omega

def opOf : Pat → Int
  | .mk op _ _ _ _ _ _ => op

set_option maxHeartbeats 2000000 in
theorem w_seq4 {cond : Cond} {label region : Str} {lo hi' : Int} {kids : List Pat} {T : Pat → Str} (hl : kids.length ≤ 1000) (hk : ∀ k, k ∈ kids → opOf k ≠ 4 ∧ opOf k ≠ 5 ∧ PatW G k (T k) ∧ (T k).length ≤ 2000) :
    ∀ {B g : Nat} {s : Str} {h : AHeap}, Wr B g s h → s.length ≤ 1000000 → ACalls Tryz.prog G 67 [.ptr g 0, encPa (.mk 4 cond label region lo hi' kids)] h (WP B g s (seqF T kids) (.tuple []) h) := by
  intro B g s h hW hs
  obtain ⟨op', nm, ag, vl, lb, fd, kd⟩ := cond
  refine en67 (by simp) fun hw => ?_
  have hlen := encPs_length kids
  refine g1 ?_
  refine s_boxw hw hW rfl rfl fun b1 h1 n1 hbb1 w1 W1 k1 gb1 => ⟨trivial, ?_⟩
  refine g1 ?_
  refine s_boxw w1 W1 rfl rfl fun b2 h2 n2 hbb2 w2 W2 k2 gb2 => ⟨trivial, ?_⟩
  have gb1 := k2.box _ _ _ n1 gb1
  refine g1 ?_
  have kk := k1.trans k2
  clear k1 k2
  refine w_loop (fun e h' n => ∃ i : Nat, i ≤ kids.length ∧ n = kids.length - i ∧ h'.Wf ∧ Wr B g (s ++ seqF T (kids.take i)) h' ∧ Keep B g h h' ∧ h'.get b1 = some (.box 109 [.ptr g 0]) ∧ h'.get b2 = some (.box 32 (encPa (.mk 4 (.mk op' nm ag vl lb fd kd) label region lo hi' kids)).cells) ∧
      e = [(2, true, .ptr b1 0), (3, true, .ptr b2 0), (10, true, .sl 13 (encPs kids) .frz), (11, true, .int .i64 (encPs kids).length), (12, true, .int .i64 i)])
    _ _ (.cons rfl (.cons rfl (.cons rfl (.cons rfl (.cons rfl (.nil _)))))) ⟨0, by omega, rfl, w2, by simpa [seqF] using W2, kk, gb1, gb2, rfl⟩ ?_
  rintro _ h3 _ ⟨i, hi, rfl, w3, W3, k3, gb1, gb2, rfl⟩
  refine g2 ?_ ?_ <;> intros
  · obtain ⟨y, hy⟩ : ∃ y, kids[i]? = some y := ⟨_, List.getElem?_eq_getElem (by omega)⟩
    have hrow : (encPs kids)[(i : Int).toNat]? = some (encP y) := by rw [n0, encPs_map, List.getElem?_map, hy]; rfl
    have hmem := List.mem_of_getElem? hy
    obtain ⟨hn4, hn5, hP, hT⟩ := hk y hmem
    have hst := seqF_take (T := T) hy
    have hpre := seqF_len (T := T) (kids.take i) fun k hkk => (hk k (List.mem_of_mem_take hkk)).2.2.2
    have htl : (kids.take i).length ≤ 1000 := by rw [List.length_take]; omega
    have hb1' := w3 _ _ gb1
    have hb2' := w3 _ _ gb2
    generalize T y = ty at *
    obtain ⟨a1, ⟨c1, c2, c3, c4, c5, c6, c7⟩, a2, a3, a4, a5, a6⟩ := y
    have e4 : (a1 == 4) = false := by simpa [opOf] using hn4
    have e5 : (a1 == 5) = false := by simpa [opOf] using hn5
    refine s_ia rfl (tt rfl) (tt rfl) rfl rfl rfl (fun _ => rfl) (by omega) hrow ?_
    refine g1 ?_
    refine s_allocw w3 W3 (tt rfl) fun b3 h4 n3 hbb3 w4 W4 k4 gb3 => ⟨trivial, ?_⟩
    have gb1 := k4.box _ _ _ n1 gb1
    have gb2 := k4.box _ _ _ n2 gb2
    by_cases hi0 : i = 0
    · have e0 : decide ((i : Int) > 0) = false := by simp; omega
      refine g1 ?_
      refine s_call rfl rfl rfl ca133 ?_
      refine (acalls_wf (c133f ca136 (c136 hP (W4.set n3 gb3) (by simp only [List.length_append]; omega) (hs_ne (by omega) gb1) hs_self))).mono ?_
      rintro _ h6 ⟨⟨rfl, W6, k6⟩, w6⟩
      refine back trivial ?_
      refine g1 ?_
      refine l_n _ _ ?_ ?_ ⟨i + 1, by omega, rfl, w6, ?_, (k3.trans (Keep.set w3 hbb3 k4)).trans k6, k6.box _ _ _ n1 (hs_ne (by omega) gb1), k6.box _ _ _ n2 (hs_ne (by omega) gb2), rfl⟩
      · omega
      · exact envv
      · rw [hst]
        simpa [hi0] using W6
    · have e0 : decide ((i : Int) > 0) = true := by simp; omega
      refine g1 ?_
      refine s_call rfl rfl rfl ca68 ?_
      refine (acalls_wf (c68 (W4.set n3 gb3) (by simp) (by simp only [List.length_append, List.length_cons, List.length_nil]; omega))).mono ?_
      rintro _ h5 ⟨⟨rfl, W5, k5⟩, w5⟩
      refine back trivial ?_
      have gb3' : h5.get b3 = some (.box 32 (encP (.mk a1 (.mk c1 c2 c3 c4 c5 c6 c7) a2 a3 a4 a5 a6))) := k5.box _ _ _ n3 hs_self
      have gb1 := k5.box _ _ _ n1 (hs_ne (by omega) gb1)
      have gb2 := k5.box _ _ _ n2 (hs_ne (by omega) gb2)
      refine g1 ?_
      refine s_call rfl rfl rfl ca133 ?_
      refine (acalls_wf (c133f ca136 (c136 hP W5 (by simp only [List.length_append, List.length_cons, List.length_nil]; omega) gb1 gb3'))).mono ?_
      rintro _ h6 ⟨⟨rfl, W6, k6⟩, w6⟩
      refine back trivial ?_
      refine g1 ?_
      refine l_n _ _ ?_ ?_ ⟨i + 1, by omega, rfl, w6, ?_, ((k3.trans (Keep.set w3 hbb3 k4)).trans k5).trans k6, k6.box _ _ _ n1 gb1, k6.box _ _ _ n2 gb2, rfl⟩
      · omega
      · exact envv
      · rw [hst]
        simpa [hi0] using W6
  · have hik : kids.take i = kids := List.take_of_length_le (by omega)
    rw [hik] at W3
    exact ⟨rfl, W3, k3⟩
end
end Go.Proofs

/- A comparison's shape; copies; leaves of a flat sequence; what Format asks before it writes. No conditions. -/
namespace Go.Proofs
open Go.Abs Go.Q
attribute [local irreducible] awp aops Run BodyQ ACalls Back
section
variable {G : Nat → Option Obj} {h : AHeap}

/-- A comparison with a value. -/
abbrev valC (name x : Str) (fold : Bool) : Cond := .mk 2 name [] x [] fold []
abbrev tokP (name x : Str) (fold : Bool) : Pat := .mk 1 (valC name x fold) [] [] 0 0 []

theorem c121e {f : AVal} : ACalls Tryz.prog G 121 [.sl 3 [] .frz, f] h (Gives (.int .i64 (-1)) h) := by
  refine en121 (by simp) fun hw => ?_
  refine g1 ?_
  refine w_once ?_
  refine g1 ?_
  exact ⟨rfl, rfl⟩
theorem c60e {f : AVal} : ACalls Tryz.prog G 60 [.sl 3 [] .frz, f] h (Gives (.bool false) h) := by
  refine en60 (by simp) fun hw => ?_
  refine g1 ?_
  refine s_call rfl rfl rfl ca121 ?_
  refine (c121e).mono ?_
  rintro _ _ ⟨rfl, hh⟩
  obtain rfl := hh.symm
  refine back trivial ?_
  refine g1 ?_
  exact ⟨rfl, rfl⟩
theorem c62z : ACalls Tryz.prog G 62 [encGa .zero] h (Gives (.bool true) h) := by
  refine ACalls.fin (en62 (by simp) fun hw => ?_)
  refine g1 ?_
  refine s_box rfl rfl fun b1 hb1 => ⟨trivial, ?_⟩
  try simp only [set_next, new_next] at hb1
  refine g1 ?_
  refine s_call rfl rfl rfl ca122 ?_
  refine (c122).mono ?_
  rintro _ _ ⟨rfl, hh⟩
  obtain rfl := hh.symm
  refine back trivial ?_
  refine g1 ?_
  exact fin_sub (.new (.refl hw) hb1 _) (.ret _ _ (.refl _)) ⟨rfl, rfl⟩

set_option maxHeartbeats 1000000 in
theorem c131v {name x : Str} {fold : Bool} : ACalls Tryz.prog G 131 [encCa (valC name x fold)] h (Gives (.bool true) h) := by
  refine ACalls.fin (en131 (by simp) fun hw => ?_)
  have e1 : (name == name) = true := by simp
  have e2 : (x == x) = true := by simp
  have e3 : (fold == fold) = true := by simp
  refine g1 ?_
  refine s_box rfl rfl fun b1 hb1 => ⟨trivial, ?_⟩
  try simp only [set_next, new_next] at hb1
  refine g1 ?_
  refine s_alloc (tt rfl) fun b2 hb2 => ⟨trivial, ?_⟩
  try simp only [set_next, new_next] at hb2
  refine g1 ?_
  (refine s_store (tt rfl) rfl rfl hpp rfl rfl rfl rfl ⟨⟨rk_load (tt rfl) rfl rfl hpp rfl rfl rfl, trivial⟩, ?_⟩)
  refine g1 ?_
  refine fin_sub ?_ (.ret _ _ (.refl _)) ⟨?_, rfl⟩
  · repeat first | exact Sub.refl hw | refine Sub.setl ?_ (by omega) _ | refine Sub.new ?_ (by first | omega | (simp only [set_next, new_next]; omega)) _
  · simp

theorem c130v {name x : Str} {fold : Bool} : ACalls Tryz.prog G 130 [encCa (valC name x fold)] h (Gives (.int .i64 0) h) := by
  refine ACalls.fin (en130 (by simp) fun hw => ?_)
  refine g1 ?_
  refine s_box rfl rfl fun b1 hb1 => ⟨trivial, ?_⟩
  try simp only [set_next, new_next] at hb1
  refine g1 ?_
  refine s_call rfl rfl rfl ca131 ?_
  refine (c131v).mono ?_
  rintro _ _ ⟨rfl, hh⟩
  obtain rfl := hh.symm
  refine back trivial ?_
  refine g1 ?_
  exact fin_sub (.new (.refl hw) hb1 _) (.ret _ _ (.refl _)) ⟨rfl, rfl⟩

theorem c129v {name x : Str} {fold : Bool} : ACalls Tryz.prog G 129 [encCa (valC name x fold), .func (.func 130) [] []] h (Gives (.int .i64 0) h) := by
  refine ACalls.fin (en129 (by simp) fun hw => ?_)
  refine g1 ?_
  refine s_box rfl rfl fun b1 hb1 => ⟨trivial, ?_⟩
  try simp only [set_next, new_next] at hb1
  refine g1 ?_
  refine s_call rfl rfl rfl ca130 ?_
  refine (c130v).mono ?_
  rintro _ _ ⟨rfl, hh⟩
  obtain rfl := hh.symm
  refine back trivial ?_
  refine g1 ?_
  refine w_loop (fun e h' n => h' = h.new b1 (.box 29 (encCa (valC name x fold)).cells) ∧ e = [(17, true, .int .i64 0), (18, true, .int .i64 0)]) _ 0 (.cons rfl (.cons rfl (.nil _))) ⟨rfl, rfl⟩ ?_
  rintro _ _ _ ⟨rfl, rfl⟩
  refine g1 ?_
  exact fin_sub (.new (.refl hw) hb1 _) (.ret _ _ (.refl _)) ⟨rfl, rfl⟩

theorem c128v {name x : Str} {fold : Bool} : ACalls Tryz.prog G 128 [encCa (valC name x fold), .int .i64 0, .int .i64 1] h (Gives (.tuple [.int .i64 1, .int .i64 1]) h) := by
  refine ACalls.fin (en128 (by simp) fun hw => ?_)
  refine g1 ?_
  refine s_box rfl rfl fun b1 hb1 => ⟨trivial, ?_⟩
  try simp only [set_next, new_next] at hb1
  refine g1 ?_
  refine w_loop (fun e h' n => h' = h.new b1 (.box 29 (encCa (valC name x fold)).cells) ∧ e = [(1, true, .int .i64 1), (8, true, .int .i64 1), (18, true, .int .i64 0), (19, true, .int .i64 0)]) _ 0 (.cons rfl (.cons rfl (.cons rfl (.cons rfl (.nil _))))) ⟨rfl, rfl⟩ ?_
  rintro _ _ _ ⟨rfl, rfl⟩
  refine g1 ?_
  exact fin_sub (.new (.refl hw) hb1 _) (.ret _ _ (.refl _)) ⟨rfl, rfl⟩

theorem c66v {name x : Str} {fold : Bool} : ACalls Tryz.prog G 66 [encCa (valC name x fold)] h (Gives (.bool true) h) := by
  refine ACalls.fin (en66 (by simp) fun hw => ?_)
  refine g1 ?_
  refine s_box rfl rfl fun b1 hb1 => ⟨trivial, ?_⟩
  try simp only [set_next, new_next] at hb1
  refine g1 ?_
  refine s_call rfl rfl rfl ca128 ?_
  refine (c128v).mono ?_
  rintro _ _ ⟨rfl, hh⟩
  obtain rfl := hh.symm
  refine back trivial ?_
  refine g1 ?_
  refine s_call rfl rfl rfl ca129 ?_
  refine (c129v).mono ?_
  rintro _ _ ⟨rfl, hh⟩
  obtain rfl := hh.symm
  refine back trivial ?_
  refine g1 ?_
  exact fin_sub (.new (.refl hw) hb1 _) (.ret _ _ (.refl _)) ⟨rfl, rfl⟩

theorem c65v {name x : Str} {fold : Bool} : ACalls Tryz.prog G 65 [encPa (tokP name x fold)] h (Gives (.bool false) h) := by
  refine ACalls.fin (en65 (by simp) fun hw => ?_)
  refine g1 ?_
  refine s_box rfl rfl fun b1 hb1 => ⟨trivial, ?_⟩
  try simp only [set_next, new_next] at hb1
  refine g1 ?_
  refine s_call rfl rfl rfl ca66 ?_
  refine (c66v).mono ?_
  rintro _ _ ⟨rfl, hh⟩
  obtain rfl := hh.symm
  refine back trivial ?_
  refine g1 ?_
  exact fin_sub (.new (.refl hw) hb1 _) (.ret _ _ (.refl _)) ⟨rfl, rfl⟩

/-! ### copies -/
theorem c172v {name x : Str} {fold : Bool} : ACalls Tryz.prog G 172 [encCa (valC name x fold)] h (Gives (encCa (valC name x fold)) h) := by
  refine ACalls.fin (en172 (by simp) fun hw => ?_)
  refine g1 ?_
  refine s_box rfl rfl fun b1 hb1 => ⟨trivial, ?_⟩
  try simp only [set_next, new_next] at hb1
  refine g1 ?_
  refine s_alloc (tt rfl) fun b2 hb2 => ⟨trivial, ?_⟩
  try simp only [set_next, new_next] at hb2
  refine g1 ?_
  refine s_alloc (tt rfl) fun b3 hb3 => ⟨trivial, ?_⟩
  try simp only [set_next, new_next] at hb3
  refine g1 ?_
  refine w_once ?_
  refine g1 ?_
  refine fin_sub ?_ (.ret _ _ wkk) ⟨rfl, rfl⟩
  repeat first | exact Sub.refl hw | refine Sub.setl ?_ (by omega) _ | refine Sub.new ?_ (by first | omega | (simp only [set_next, new_next]; omega)) _

theorem c127v {name x : Str} {fold : Bool} : ACalls Tryz.prog G 127 [encPa (tokP name x fold)] h (Gives (encPa (tokP name x fold)) h) := by
  refine ACalls.fin (en127 (by simp) fun hw => ?_)
  refine g1 ?_
  refine s_box rfl rfl fun b1 hb1 => ⟨trivial, ?_⟩
  try simp only [set_next, new_next] at hb1
  refine g1 ?_
  refine s_alloc (tt rfl) fun b2 hb2 => ⟨trivial, ?_⟩
  try simp only [set_next, new_next] at hb2
  refine g1 ?_
  refine s_call rfl rfl rfl ca172 ?_
  refine (c172v (name := name) (x := x) (fold := fold)).mono ?_
  rintro _ _ ⟨rfl, hh⟩
  obtain rfl := hh.symm
  refine back ⟨rk_load (tt rfl) rfl rfl hpp rfl rfl rfl, rk_load (tt rfl) rfl rfl hpp rfl rfl rfl, trivial⟩ ?_
  refine g1 ?_
  refine fin_sub ?_ (.ret _ _ wkk) ⟨rfl, rfl⟩
  repeat first | exact Sub.refl hw | refine Sub.setl ?_ (by omega) _ | refine Sub.new ?_ (by first | omega | (simp only [set_next, new_next]; omega)) _
end
end Go.Proofs

/- The leaves of a flat sequence; Format of one query. No conditions. -/
namespace Go.Proofs
open Go.Abs Go.Q
attribute [local irreducible] awp aops Run BodyQ ACalls Back
section
variable {G : Nat → Option Obj} {h : AHeap}

abbrev begP (region : Str) : Pat := .mk 2 .zero [] region 0 0 []
abbrev nilL : AVal := .sl 0 [] .nl

theorem c64b {region : Str} : ACalls Tryz.prog G 64 [encPa (begP region), nilL] h (Gives nilL h) := by
  refine ACalls.fin (en64 (by simp) fun hw => ?_)
  refine g1 ?_
  refine s_box rfl rfl fun b1 hb1 => ⟨trivial, ?_⟩
  try simp only [set_next, new_next] at hb1
  refine g1 ?_
  refine w_once ?_
  refine g1 ?_
  refine fin_sub ?_ (.ret _ _ (.refl _)) ⟨rfl, rfl⟩
  repeat first | exact Sub.refl hw | assumption | refine Sub.setl ?_ (by omega) _ | refine Sub.new ?_ (by first | omega | (simp only [set_next, new_next]; omega)) _

theorem c64t {name x : Str} {fold : Bool} : ACalls Tryz.prog G 64 [encPa (tokP name x fold), nilL] h (Gives (.sl 13 [encP (tokP name x fold)] .frz) h) := by
  refine ACalls.fin (en64 (by simp) fun hw => ?_)
  refine g1 ?_
  refine s_box rfl rfl fun b1 hb1 => ⟨trivial, ?_⟩
  try simp only [set_next, new_next] at hb1
  refine g1 ?_
  refine s_call rfl rfl rfl ca127 ?_
  refine (c127v).mono ?_
  rintro _ _ ⟨rfl, hh⟩
  obtain rfl := hh.symm
  refine back trivial ?_
  refine g1 ?_
  refine s_append h rfl rfl (tt rfl) (tt rfl) rfl (.inr rfl) (by simp only [new_next]; omega) trivial (by simp) fun tg' h' hroom hext => ⟨trivial, ?_⟩
  refine g1 ?_
  refine fin_sub (hext.sub _ (Nat.le_refl _) ?_) (.ret _ _ (weak_frz)) ⟨rfl, rfl⟩
  repeat first | exact Sub.refl hw | assumption | refine Sub.setl ?_ (by omega) _ | refine Sub.new ?_ (by first | omega | (simp only [set_next, new_next]; omega)) _

set_option maxHeartbeats 1000000 in
theorem c64s {region name x : Str} {fold : Bool} : ACalls Tryz.prog G 64 [encPa (.mk 4 .zero [] [] 0 0 [begP region, tokP name x fold]), nilL] h (Gives (.sl 13 [encP (tokP name x fold)] .frz) h) := by
  refine ACalls.fin (en64 (by simp) fun hw => ?_)
  refine g1 ?_
  refine s_box rfl rfl fun b1 hb1 => ⟨trivial, ?_⟩
  try simp only [set_next, new_next] at hb1
  refine g1 ?_
  have hsub : Sub h (h.new b1 (.box 32 (encPa (.mk 4 .zero [] [] 0 0 [begP region, tokP name x fold])).cells)) := .new (.refl hw) hb1 _
  refine w_loop (fun e h' n => Sub h h' ∧ ((n = 2 ∧ e = [(1, true, nilL), (16, true, .sl 13 (encPs [begP region, tokP name x fold]) .frz), (17, true, .int .i64 2), (18, true, .int .i64 0)]) ∨
      (n = 1 ∧ e = [(1, true, nilL), (16, true, .sl 13 (encPs [begP region, tokP name x fold]) .frz), (17, true, .int .i64 2), (18, true, .int .i64 1)]) ∨
      (n = 0 ∧ e = [(1, true, .sl 13 [encP (tokP name x fold)] .frz), (16, true, .sl 13 (encPs [begP region, tokP name x fold]) .frz), (17, true, .int .i64 2), (18, true, .int .i64 2)])))
    _ 2 (.cons rfl (.cons rfl (.cons rfl (.cons rfl (.nil _))))) ⟨hsub, .inl ⟨rfl, rfl⟩⟩ ?_
  rintro _ h2 _ ⟨hs2, ⟨rfl, rfl⟩ | ⟨rfl, rfl⟩ | ⟨rfl, rfl⟩⟩
  · have hn2 := hs2.next
    refine g1 ?_
    refine s_ia (row := encP (begP region)) rfl (tt rfl) (tt rfl) rfl rfl rfl (fun _ => rfl) (by decide) rfl ?_
    refine g1 ?_
    refine s_alloc (tt rfl) fun b2 hb2 => ⟨trivial, ?_⟩
    try simp only [set_next, new_next] at hb2
    refine g1 ?_
    refine s_call rfl rfl rfl ca64 ?_
    refine (c64b).mono ?_
    rintro _ _ ⟨rfl, hh⟩
    obtain rfl := hh.symm
    refine back trivial ?_
    refine g1 ?_
    refine l_n _ 1 (by omega) ?_ ⟨?_, .inr (.inl ⟨rfl, rfl⟩)⟩
    · exact envv
    · repeat first | exact Sub.refl hw | assumption | refine Sub.setl ?_ (by omega) _ | refine Sub.new ?_ (by first | omega | (simp only [set_next, new_next]; omega)) _
  · have hn2 := hs2.next
    refine g1 ?_
    refine s_ia (row := encP (tokP name x fold)) rfl (tt rfl) (tt rfl) rfl rfl rfl (fun _ => rfl) (by decide) rfl ?_
    refine g1 ?_
    refine s_alloc (tt rfl) fun b2 hb2 => ⟨trivial, ?_⟩
    try simp only [set_next, new_next] at hb2
    refine g1 ?_
    refine s_call rfl rfl rfl ca64 ?_
    refine (c64t).mono ?_
    rintro _ _ ⟨rfl, hh⟩
    obtain rfl := hh.symm
    refine back trivial ?_
    refine g1 ?_
    refine l_n _ 0 (by omega) ?_ ⟨?_, .inr (.inr ⟨rfl, rfl⟩)⟩
    · exact envv
    · repeat first | exact Sub.refl hw | assumption | refine Sub.setl ?_ (by omega) _ | refine Sub.new ?_ (by first | omega | (simp only [set_next, new_next]; omega)) _
  · refine g1 ?_
    exact fin_sub hs2 (.ret _ _ (.refl _)) ⟨rfl, rfl⟩
end
end Go.Proofs

/- Format of the query of an example. No conditions. -/
namespace Go.Proofs
open Go.Abs Go.Q
attribute [local irreducible] awp aops Run BodyQ ACalls Back
section
variable {G : Nat → Option Obj} {h : AHeap}

def B0 : Pat := begP [115]
def T0 : Pat := tokP [119, 111, 114, 100] [84, 104, 101] true
def P0 : Pat := .mk 4 .zero [] [] 0 0 [B0, T0]
def Q0 : Qry := ⟨P0, .zero, [], 0⟩
def text0 : Str := [60, 115, 62, 32, 91, 119, 111, 114, 100, 61, 34, 84, 104, 101, 34, 37, 99, 93]

theorem shape0 : shapeP P0 = true := by decide
theorem right0 : rightP P0 = true := by decide
theorem size0 : sizeP P0 = 2 := by decide
theorem ok0 : PatOK 1000 P0 := .mk _ _ _ _ _ _ _ cond_leaf (by decide) fun k hk => by
  rcases List.mem_cons.1 hk with rfl | hk
  · exact .mk _ _ _ _ _ _ _ cond_leaf (by decide) fun k hk => by cases hk
  · rcases List.mem_cons.1 hk with rfl | hk
    · exact .mk _ _ _ _ _ _ _ cond_leaf (by decide) fun k hk => by cases hk
    · cases hk

def T1 : Pat → Str
  | .mk 2 _ _ region _ _ _ => [60] ++ region ++ [62]
  | _ => tokF [119, 111, 114, 100] [84, 104, 101] true

theorem kids0 : ∀ k, k ∈ [B0, T0] → opOf k ≠ 4 ∧ opOf k ≠ 5 ∧ PatW G k (T1 k) ∧ (T1 k).length ≤ 2000 := fun k hk => by
  rcases List.mem_cons.1 hk with rfl | hk
  · exact ⟨by decide, by decide, w_begin (by decide), by decide⟩
  · rcases List.mem_cons.1 hk with rfl | hk
    · exact ⟨by decide, by decide, w_token (by decide) (by decide) (by decide), by decide⟩
    · cases hk
theorem text0_eq : seqF T1 [B0, T0] = text0 := by decide


set_option maxHeartbeats 2000000 in
theorem c20v : ACalls Tryz.prog G 20 [encQa Q0] h (Gives (.str text0) h) := by
  refine ACalls.fin (en20 (by simp) fun hw => ?_)
  refine g1 ?_
  refine s_box rfl rfl fun b1 hb1 => ⟨trivial, ?_⟩
  try simp only [set_next, new_next] at hb1
  refine g1 ?_
  refine s_call rfl rfl rfl ca59 ?_
  refine (c59 (by decide) ok0 shape0).mono ?_
  rintro _ _ ⟨rfl, hh⟩
  obtain rfl := hh.symm
  refine back trivial ?_
  refine g1 ?_
  refine s_call rfl rfl rfl ca60 ?_
  refine (c60e).mono ?_
  rintro _ _ ⟨rfl, hh⟩
  obtain rfl := hh.symm
  refine back trivial ?_
  refine g1 ?_
  refine s_call rfl rfl rfl ca62 ?_
  refine (c62z).mono ?_
  rintro _ _ ⟨rfl, hh⟩
  obtain rfl := hh.symm
  refine back trivial ?_
  refine g1 ?_
  refine s_call rfl rfl rfl ca64 ?_
  refine (c64s).mono ?_
  rintro _ _ ⟨rfl, hh⟩
  obtain rfl := hh.symm
  refine back trivial ?_
  refine g1 ?_
  refine s_call rfl rfl rfl ca63 ?_
  refine (c63 (l := [T0]) (cap := []) ca65 (by decide) (fun y hy => by obtain rfl := List.mem_singleton.1 hy; exact c65v)).mono ?_
  rintro _ _ ⟨rfl, hh⟩
  obtain rfl := hh.symm
  refine back trivial ?_
  refine g1 ?_
  refine s_box rfl rfl fun b2 hb2 => ⟨trivial, ?_⟩
  try simp only [set_next, new_next] at hb2
  refine g1 ?_
  refine s_call rfl rfl rfl ca67 ?_
  refine (acalls_wf (w_seq4 (T := T1) (cond := .zero) (label := []) (region := []) (lo := 0) (hi' := 0) (kids := [B0, T0]) (by decide) kids0 (⟨by omega, .inl ⟨rfl, hn_self⟩⟩ : Wr h.next b2 [] _) (by decide))).mono ?_
  rintro _ h3 ⟨⟨rfl, W3, k3⟩, w3⟩
  refine back trivial ?_
  have gq := k3.box b1 38 _ (by omega) (hn_ne (by omega) hn_self)
  have W3 : Wr h.next b2 text0 h3 := by rw [← text0_eq]; simpa using W3
  refine g1 ?_
  refine w_once ?_
  refine g1 ?_
  obtain ⟨hB, ⟨h0, _⟩ | ⟨b, hbB, hne, hg, hr⟩⟩ := W3
  · exact absurd h0 (by decide)
  refine s_call rfl rfl rfl ca72 ?_
  refine (c72 (by decide) hg hr).mono ?_
  rintro _ _ ⟨rfl, rfl⟩
  refine back trivial ?_
  refine g1 ?_
  have hsub : Sub h h3 := ⟨by have := k3.next; simp only [new_next] at this; omega, hw, fun x o hx => by
    have hlt := hw _ _ hx
    have h4 := k3.old x o hlt (hn_ne (by omega) (hn_ne (by omega) hx))
    cases o with
    | row T l => exact .inl ⟨T, l, rfl, h4⟩
    | box T cs => exact .inr ⟨T, cs, cs, rfl, h4, .refl cs⟩⟩
  exact fin_sub (hsub.erasel hbB) (.ret _ _ (.refl _)) ⟨rfl, rfl⟩
end
end Go.Proofs

/- The example of the chapter: known answers true. No conditions. -/
namespace Go.Proofs
open Go.Abs Go.Q
attribute [local irreducible] awp aops Run BodyQ ACalls Back

theorem parse0 : queryP text0 100 = some (.ok Q0 (⟨0, [], 18⟩, 18)) := by kernel_rfl
theorem comes0 : Comes text0 (Q0, 0, 0) := .inr ⟨by decide, 100, _, by decide, parse0, rfl⟩

section
variable {G : Nat → Option Obj} {h : AHeap}

set_option maxHeartbeats 2000000 in
theorem c16 : ACalls Tryz.prog G 16 [] h (Gives (.bool true) h) := by
  have hp : ∀ h, ACalls Tryz.prog G 13 [.str text0] h (Gives (Post13 text0 (Q0, 0, 0)) h) := fun h => comes0.p (by decide)
  have hs : ∀ h, ACalls Tryz.prog G 28 [encPa P0] h (Gives (.int .i64 2) h) := fun h => by
    have := c28 (G := G) (h := h) (by decide) ok0 right0
    rw [size0] at this
    exact this
  refine ACalls.fin (en16 (by simp) fun hw => ?_)
  refine g1 ?_
  refine s_call rfl rfl rfl ca13 ?_
  refine (hp _).mono ?_
  rintro _ _ ⟨rfl, hh⟩
  obtain rfl := hh.symm
  refine back trivial ?_
  refine g1 ?_
  refine s_alloc (tt rfl) fun b1 hb1 => ⟨trivial, ?_⟩
  try simp only [set_next, new_next] at hb1
  refine g1 ?_
  refine s_ia (row := encP T0) rfl (tt rfl) (tt rfl) rfl rfl rfl (fun _ => rfl) (by decide) rfl ?_
  refine g1 ?_
  refine s_call rfl rfl rfl ca28 ?_
  refine (hs _).mono ?_
  rintro _ _ ⟨rfl, hh⟩
  obtain rfl := hh.symm
  refine back trivial ?_
  refine g1 ?_
  refine s_call rfl rfl rfl ca20 ?_
  refine (c20v).mono ?_
  rintro _ _ ⟨rfl, hh⟩
  obtain rfl := hh.symm
  refine back trivial ?_
  refine g1 ?_
  refine fin_sub (.setl (.new (.refl hw) hb1 _) hb1 _) (.ret _ _ (.refl _)) ⟨rfl, rfl⟩
end
end Go.Proofs
