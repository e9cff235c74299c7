/- The tied card of QuerySizes is proved: for every list of numbers the law returns true, and its argument reads as it did. Conditions: none beyond the given card's own. -/
import Derived.Test.YtjnkbjloabnopaaGreatDoorZ25
import Derived.KernelRfl
import Derived.Test.YtjnkbjloabnopaaGreatDoorTie
import Derived.Test.YtjnkbjloabnopaaGreatDoorCards
import Derived.ProofKit
import Derived.OpenShut
import Derived.LaidMore
import Derived.Lay
import Derived.SevenTiedAt
import Derived.Stop.Joined
import Derived.Test.YtjnkbjloabnopaaGreatDoorRows
import Derived.JoinedOf
namespace Go.Proofs
open Go.Abs Go.Q
attribute [local irreducible] awp aops Run BodyQ ACalls Back

/-- The pattern is written so. -/
def PatW (G : Nat → Option Obj) (p : Pat) (t : Str) : Prop := ∀ {B g : Nat} {s : Str} {h : AHeap}, Wr B g s h → s.length ≤ 10000000 → ACalls Tryz.prog G 67 [.ptr g 0, encPa p] h (WP B g s t (.tuple []) h)

section
variable {G : Nat → Option Obj} {h : AHeap}

set_option maxHeartbeats 1000000 in
theorem w_begin {cond : Cond} {label region : Str} {lo hi : Int} {kids : List Pat} (hr : region.length ≤ 1000) : PatW G (.mk 2 cond label region lo hi kids) ([60] ++ region ++ [62]) := by
  intro B g s h hW hs
  obtain ⟨op', nm, ag, vl, lb, fd, kd⟩ := cond
  refine en67 (by simp) fun hw => ?_
  refine g1 ?_
  refine s_boxw hw hW rfl rfl fun b1 h1 n1 hbb1 w1 W1 k1 gb1 => ⟨trivial, ?_⟩
  refine g1 ?_
  refine s_boxw w1 W1 rfl rfl fun b2 h2 n2 hbb2 w2 W2 k2 gb2 => ⟨trivial, ?_⟩
  have gb1 := k2.box _ _ _ n1 gb1
  refine g1 ?_
  refine s_call rfl rfl rfl ca68 ?_
  refine (acalls_wf (c68 W2 (by simp) (by simp; omega))).mono ?_
  rintro _ h3 ⟨⟨rfl, W3, k3⟩, w3⟩
  refine back trivial ?_
  refine g1 ?_
  exact ⟨rfl, by simpa using W3, (k1.trans k2).trans k3⟩

set_option maxHeartbeats 1000000 in
theorem w_token {name x : Str} {fold : Bool} (hn : name ≠ []) (h0 : Lib.countByte x 34 = 0) (hl : name.length + x.length ≤ 1000) : PatW G (.mk 1 (.mk 2 name [] x [] fold []) [] [] 0 0 []) (tokF name x fold) := by
  intro B g s h hW hs
  refine en67 (by simp) fun hw => ?_
  refine g1 ?_
  refine s_boxw hw hW rfl rfl fun b1 h1 n1 hbb1 w1 W1 k1 gb1 => ⟨trivial, ?_⟩
  refine g1 ?_
  refine s_boxw w1 W1 rfl rfl fun b2 h2 n2 hbb2 w2 W2 k2 gb2 => ⟨trivial, ?_⟩
  have gb1 := k2.box _ _ _ n1 gb1
  refine g1 ?_
  refine s_call rfl rfl rfl ca132 ?_
  refine (acalls_wf (c132v W2 hn h0 (by omega))).mono ?_
  rintro _ h3 ⟨⟨rfl, W3, k3⟩, w3⟩
  refine back trivial ?_
  refine g1 ?_
  exact ⟨rfl, by simpa using W3, (k1.trans k2).trans k3⟩

theorem c136 {B g b1 b2 : Nat} {s t : Str} {p : Pat} (hp : PatW G p t) (hW : Wr B g s h) (hs : s.length ≤ 10000000) (gb1 : h.get b1 = some (.box 109 [.ptr g 0])) (gb2 : h.get b2 = some (.box 32 (encP p))) :
    ACalls Tryz.prog G 136 [.ptr b1 0, .ptr b2 0] h (WP B g s t (.tuple []) h) := by
  have hp' := hp hW hs
  obtain ⟨a1, ⟨c1, c2, c3, c4, c5, c6, c7⟩, a2, a3, a4, a5, a6⟩ := p
  refine en136 (by simp) fun hw => ?_
  refine g1 ?_
  refine s_call rfl rfl rfl ca67 ?_
  refine (acalls_wf (hp')).mono ?_
  rintro _ h3 ⟨⟨rfl, W3, k3⟩, w3⟩
  refine back trivial ?_
  refine g1 ?_
  exact ⟨rfl, W3, k3⟩

theorem c133f {B g : Nat} {s t : Str} {k : FuncId} {cap : List AVal} (hk : Callable Tryz.prog k) (hf : ACalls Tryz.prog G k cap h (WP B g s t (.tuple []) h)) :
    ACalls Tryz.prog G 133 [.ptr g 0, .bool false, .func (.func k) [] cap] h (WP B g s t (.tuple []) h) := by
  refine en133 (by simp) fun hw => ?_
  refine g1 ?_
  refine s_call rfl rfl rfl hk ?_
  refine hf.mono ?_
  rintro _ h2 ⟨rfl, W2, k2⟩
  refine back trivial ?_
  refine g1 ?_
  exact ⟨rfl, W2, k2⟩

def seqF (T : Pat → Str) : List Pat → Str
  | [] => []
  | k :: r => T k ++ r.flatMap fun k => 32 :: T k
theorem seqF_take {T : Pat → Str} {l : List Pat} {i : Nat} {y : Pat} (h : l[i]? = some y) : seqF T (l.take (i + 1)) = seqF T (l.take i) ++ ((if i = 0 then [] else [32]) ++ T y) := by
  cases l with
  | nil => simp at h
  | cons k r =>
    cases i with
    | zero =>
      obtain rfl : k = y := by simpa using h
      simp [seqF]
    | succ i =>
      have h' : r[i]? = some y := by simpa using h
      rw [List.take_succ_cons, List.take_succ_cons, seqF, seqF, List.take_add_one, h']
      simp
theorem seqF_len {T : Pat → Str} (l : List Pat) (h : ∀ k, k ∈ l → (T k).length ≤ 2000) : (seqF T l).length ≤ l.length * 2001 := by
  have h2 : ∀ r : List Pat, (∀ k, k ∈ r → (T k).length ≤ 2000) → (r.flatMap fun k => 32 :: T k).length ≤ r.length * 2001 := by
    intro r hr
    induction r with
    | nil => simp
    | cons k r ih =>
      have h3 := hr k List.mem_cons_self
      have h4 := ih fun x hx => hr x (List.mem_cons_of_mem _ hx)
      simp only [List.flatMap_cons, List.length_append, List.length_cons]
      omega
  cases l with
  | nil => simp [seqF]
  | cons k r =>
    have h3 := h k List.mem_cons_self
    have h4 := h2 r fun x hx => h x (List.mem_cons_of_mem _ hx)
    simp only [seqF, List.length_append, List.length_cons]
    omega

def opOf : Pat → Int
  | .mk op _ _ _ _ _ _ => op

set_option maxHeartbeats 2000000 in
theorem w_seq4 {cond : Cond} {label region : Str} {lo hi' : Int} {kids : List Pat} {T : Pat → Str} (hl : kids.length ≤ 1000) (hk : ∀ k, k ∈ kids → opOf k ≠ 4 ∧ opOf k ≠ 5 ∧ PatW G k (T k) ∧ (T k).length ≤ 2000) :
    ∀ {B g : Nat} {s : Str} {h : AHeap}, Wr B g s h → s.length ≤ 1000000 → ACalls Tryz.prog G 67 [.ptr g 0, encPa (.mk 4 cond label region lo hi' kids)] h (WP B g s (seqF T kids) (.tuple []) h) := by
  intro B g s h hW hs
  obtain ⟨op', nm, ag, vl, lb, fd, kd⟩ := cond
  refine en67 (by simp) fun hw => ?_
  have hlen := encPs_length kids
  refine g1 ?_
  refine s_boxw hw hW rfl rfl fun b1 h1 n1 hbb1 w1 W1 k1 gb1 => ⟨trivial, ?_⟩
  refine g1 ?_
  refine s_boxw w1 W1 rfl rfl fun b2 h2 n2 hbb2 w2 W2 k2 gb2 => ⟨trivial, ?_⟩
  have gb1 := k2.box _ _ _ n1 gb1
  refine g1 ?_
  have kk := k1.trans k2
  clear k1 k2
  refine w_loop (fun e h' n => ∃ i : Nat, i ≤ kids.length ∧ n = kids.length - i ∧ h'.Wf ∧ Wr B g (s ++ seqF T (kids.take i)) h' ∧ Keep B g h h' ∧ h'.get b1 = some (.box 109 [.ptr g 0]) ∧ h'.get b2 = some (.box 32 (encPa (.mk 4 (.mk op' nm ag vl lb fd kd) label region lo hi' kids)).cells) ∧
      e = [(2, true, .ptr b1 0), (3, true, .ptr b2 0), (10, true, .sl 13 (encPs kids) .frz), (11, true, .int .i64 (encPs kids).length), (12, true, .int .i64 i)])
    _ _ (.cons rfl (.cons rfl (.cons rfl (.cons rfl (.cons rfl (.nil _)))))) ⟨0, by omega, rfl, w2, by simpa [seqF] using W2, kk, gb1, gb2, rfl⟩ ?_
  rintro _ h3 _ ⟨i, hi, rfl, w3, W3, k3, gb1, gb2, rfl⟩
  refine g2 ?_ ?_ <;> intros
  · obtain ⟨y, hy⟩ : ∃ y, kids[i]? = some y := ⟨_, List.getElem?_eq_getElem (by omega)⟩
    have hrow : (encPs kids)[(i : Int).toNat]? = some (encP y) := by rw [n0, encPs_map, List.getElem?_map, hy]; rfl
    have hmem := List.mem_of_getElem? hy
    obtain ⟨hn4, hn5, hP, hT⟩ := hk y hmem
    have hst := seqF_take (T := T) hy
    have hpre := seqF_len (T := T) (kids.take i) fun k hkk => (hk k (List.mem_of_mem_take hkk)).2.2.2
    have htl : (kids.take i).length ≤ 1000 := by rw [List.length_take]; omega
    have hb1' := w3 _ _ gb1
    have hb2' := w3 _ _ gb2
    generalize T y = ty at *
    obtain ⟨a1, ⟨c1, c2, c3, c4, c5, c6, c7⟩, a2, a3, a4, a5, a6⟩ := y
    have e4 : (a1 == 4) = false := by simpa [opOf] using hn4
    have e5 : (a1 == 5) = false := by simpa [opOf] using hn5
    refine s_ia rfl (tt rfl) (tt rfl) rfl rfl rfl (fun _ => rfl) (by omega) hrow ?_
    refine g1 ?_
    refine s_allocw w3 W3 (tt rfl) fun b3 h4 n3 hbb3 w4 W4 k4 gb3 => ⟨trivial, ?_⟩
    have gb1 := k4.box _ _ _ n1 gb1
    have gb2 := k4.box _ _ _ n2 gb2
    by_cases hi0 : i = 0
    · have e0 : decide ((i : Int) > 0) = false := by simp; omega
      refine g1 ?_
      refine s_call rfl rfl rfl ca133 ?_
      refine (acalls_wf (c133f ca136 (c136 hP (W4.set n3 gb3) (by simp only [List.length_append]; omega) (hs_ne (by omega) gb1) hs_self))).mono ?_
      rintro _ h6 ⟨⟨rfl, W6, k6⟩, w6⟩
      refine back trivial ?_
      refine g1 ?_
      refine l_n _ _ ?_ ?_ ⟨i + 1, by omega, rfl, w6, ?_, (k3.trans (Keep.set w3 hbb3 k4)).trans k6, k6.box _ _ _ n1 (hs_ne (by omega) gb1), k6.box _ _ _ n2 (hs_ne (by omega) gb2), rfl⟩
      · omega
      · exact envv
      · rw [hst]
        simpa [hi0] using W6
    · have e0 : decide ((i : Int) > 0) = true := by simp; omega
      refine g1 ?_
      refine s_call rfl rfl rfl ca68 ?_
      refine (acalls_wf (c68 (W4.set n3 gb3) (by simp) (by simp only [List.length_append, List.length_cons, List.length_nil]; omega))).mono ?_
      rintro _ h5 ⟨⟨rfl, W5, k5⟩, w5⟩
      refine back trivial ?_
      have gb3' : h5.get b3 = some (.box 32 (encP (.mk a1 (.mk c1 c2 c3 c4 c5 c6 c7) a2 a3 a4 a5 a6))) := k5.box _ _ _ n3 hs_self
      have gb1 := k5.box _ _ _ n1 (hs_ne (by omega) gb1)
      have gb2 := k5.box _ _ _ n2 (hs_ne (by omega) gb2)
      refine g1 ?_
      refine s_call rfl rfl rfl ca133 ?_
      refine (acalls_wf (c133f ca136 (c136 hP W5 (by simp only [List.length_append, List.length_cons, List.length_nil]; omega) gb1 gb3'))).mono ?_
      rintro _ h6 ⟨⟨rfl, W6, k6⟩, w6⟩
      refine back trivial ?_
      refine g1 ?_
      refine l_n _ _ ?_ ?_ ⟨i + 1, by omega, rfl, w6, ?_, ((k3.trans (Keep.set w3 hbb3 k4)).trans k5).trans k6, k6.box _ _ _ n1 gb1, k6.box _ _ _ n2 gb2, rfl⟩
      · omega
      · exact envv
      · rw [hst]
        simpa [hi0] using W6
  · have hik : kids.take i = kids := List.take_of_length_le (by omega)
    rw [hik] at W3
    exact ⟨rfl, W3, k3⟩
end
end Go.Proofs

/- A comparison's shape; copies; leaves of a flat sequence; what Format asks before it writes. No conditions. -/
namespace Go.Proofs
open Go.Abs Go.Q
attribute [local irreducible] awp aops Run BodyQ ACalls Back
section
variable {G : Nat → Option Obj} {h : AHeap}

/-- A comparison with a value. -/
abbrev valC (name x : Str) (fold : Bool) : Cond := .mk 2 name [] x [] fold []
abbrev tokP (name x : Str) (fold : Bool) : Pat := .mk 1 (valC name x fold) [] [] 0 0 []

theorem c121e {f : AVal} : ACalls Tryz.prog G 121 [.sl 3 [] .frz, f] h (Gives (.int .i64 (-1)) h) := by
  refine en121 (by simp) fun hw => ?_
  refine g1 ?_
  refine w_once ?_
  refine g1 ?_
  exact ⟨rfl, rfl⟩
theorem c60e {f : AVal} : ACalls Tryz.prog G 60 [.sl 3 [] .frz, f] h (Gives (.bool false) h) := by
  refine en60 (by simp) fun hw => ?_
  refine g1 ?_
  refine s_call rfl rfl rfl ca121 ?_
  refine (c121e).mono ?_
  rintro _ _ ⟨rfl, hh⟩
  obtain rfl := hh.symm
  refine back trivial ?_
  refine g1 ?_
  exact ⟨rfl, rfl⟩
theorem c62z : ACalls Tryz.prog G 62 [encGa .zero] h (Gives (.bool true) h) := by
  refine ACalls.fin (en62 (by simp) fun hw => ?_)
  refine g1 ?_
  refine s_box rfl rfl fun b1 hb1 => ⟨trivial, ?_⟩
  try simp only [set_next, new_next] at hb1
  refine g1 ?_
  refine s_call rfl rfl rfl ca122 ?_
  refine (c122).mono ?_
  rintro _ _ ⟨rfl, hh⟩
  obtain rfl := hh.symm
  refine back trivial ?_
  refine g1 ?_
  exact fin_sub (.new (.refl hw) hb1 _) (.ret _ _ (.refl _)) ⟨rfl, rfl⟩

set_option maxHeartbeats 1000000 in
theorem c131v {name x : Str} {fold : Bool} : ACalls Tryz.prog G 131 [encCa (valC name x fold)] h (Gives (.bool true) h) := by
  refine ACalls.fin (en131 (by simp) fun hw => ?_)
  have e1 : (name == name) = true := by simp
  have e2 : (x == x) = true := by simp
  have e3 : (fold == fold) = true := by simp
  refine g1 ?_
  refine s_box rfl rfl fun b1 hb1 => ⟨trivial, ?_⟩
  try simp only [set_next, new_next] at hb1
  refine g1 ?_
  refine s_alloc (tt rfl) fun b2 hb2 => ⟨trivial, ?_⟩
  try simp only [set_next, new_next] at hb2
  refine g1 ?_
  (refine s_store (tt rfl) rfl rfl hpp rfl rfl rfl rfl ⟨⟨rk_load (tt rfl) rfl rfl hpp rfl rfl rfl, trivial⟩, ?_⟩)
  refine g1 ?_
  refine fin_sub ?_ (.ret _ _ (.refl _)) ⟨?_, rfl⟩
  · repeat first | exact Sub.refl hw | refine Sub.setl ?_ (by omega) _ | refine Sub.new ?_ (by first | omega | (simp only [set_next, new_next]; omega)) _
  · simp

theorem c130v {name x : Str} {fold : Bool} : ACalls Tryz.prog G 130 [encCa (valC name x fold)] h (Gives (.int .i64 0) h) := by
  refine ACalls.fin (en130 (by simp) fun hw => ?_)
  refine g1 ?_
  refine s_box rfl rfl fun b1 hb1 => ⟨trivial, ?_⟩
  try simp only [set_next, new_next] at hb1
  refine g1 ?_
  refine s_call rfl rfl rfl ca131 ?_
  refine (c131v).mono ?_
  rintro _ _ ⟨rfl, hh⟩
  obtain rfl := hh.symm
  refine back trivial ?_
  refine g1 ?_
  exact fin_sub (.new (.refl hw) hb1 _) (.ret _ _ (.refl _)) ⟨rfl, rfl⟩

theorem c129v {name x : Str} {fold : Bool} : ACalls Tryz.prog G 129 [encCa (valC name x fold), .func (.func 130) [] []] h (Gives (.int .i64 0) h) := by
  refine ACalls.fin (en129 (by simp) fun hw => ?_)
  refine g1 ?_
  refine s_box rfl rfl fun b1 hb1 => ⟨trivial, ?_⟩
  try simp only [set_next, new_next] at hb1
  refine g1 ?_
  refine s_call rfl rfl rfl ca130 ?_
  refine (c130v).mono ?_
  rintro _ _ ⟨rfl, hh⟩
  obtain rfl := hh.symm
  refine back trivial ?_
  refine g1 ?_
  refine w_loop (fun e h' n => h' = h.new b1 (.box 29 (encCa (valC name x fold)).cells) ∧ e = [(17, true, .int .i64 0), (18, true, .int .i64 0)]) _ 0 (.cons rfl (.cons rfl (.nil _))) ⟨rfl, rfl⟩ ?_
  rintro _ _ _ ⟨rfl, rfl⟩
  refine g1 ?_
  exact fin_sub (.new (.refl hw) hb1 _) (.ret _ _ (.refl _)) ⟨rfl, rfl⟩

theorem c128v {name x : Str} {fold : Bool} : ACalls Tryz.prog G 128 [encCa (valC name x fold), .int .i64 0, .int .i64 1] h (Gives (.tuple [.int .i64 1, .int .i64 1]) h) := by
  refine ACalls.fin (en128 (by simp) fun hw => ?_)
  refine g1 ?_
  refine s_box rfl rfl fun b1 hb1 => ⟨trivial, ?_⟩
  try simp only [set_next, new_next] at hb1
  refine g1 ?_
  refine w_loop (fun e h' n => h' = h.new b1 (.box 29 (encCa (valC name x fold)).cells) ∧ e = [(1, true, .int .i64 1), (8, true, .int .i64 1), (18, true, .int .i64 0), (19, true, .int .i64 0)]) _ 0 (.cons rfl (.cons rfl (.cons rfl (.cons rfl (.nil _))))) ⟨rfl, rfl⟩ ?_
  rintro _ _ _ ⟨rfl, rfl⟩
  refine g1 ?_
  exact fin_sub (.new (.refl hw) hb1 _) (.ret _ _ (.refl _)) ⟨rfl, rfl⟩

theorem c66v {name x : Str} {fold : Bool} : ACalls Tryz.prog G 66 [encCa (valC name x fold)] h (Gives (.bool true) h) := by
  refine ACalls.fin (en66 (by simp) fun hw => ?_)
  refine g1 ?_
  refine s_box rfl rfl fun b1 hb1 => ⟨trivial, ?_⟩
  try simp only [set_next, new_next] at hb1
  refine g1 ?_
  refine s_call rfl rfl rfl ca128 ?_
  refine (c128v).mono ?_
  rintro _ _ ⟨rfl, hh⟩
  obtain rfl := hh.symm
  refine back trivial ?_
  refine g1 ?_
  refine s_call rfl rfl rfl ca129 ?_
  refine (c129v).mono ?_
  rintro _ _ ⟨rfl, hh⟩
  obtain rfl := hh.symm
  refine back trivial ?_
  refine g1 ?_
  exact fin_sub (.new (.refl hw) hb1 _) (.ret _ _ (.refl _)) ⟨rfl, rfl⟩

theorem c65v {name x : Str} {fold : Bool} : ACalls Tryz.prog G 65 [encPa (tokP name x fold)] h (Gives (.bool false) h) := by
  refine ACalls.fin (en65 (by simp) fun hw => ?_)
  refine g1 ?_
  refine s_box rfl rfl fun b1 hb1 => ⟨trivial, ?_⟩
  try simp only [set_next, new_next] at hb1
  refine g1 ?_
  refine s_call rfl rfl rfl ca66 ?_
  refine (c66v).mono ?_
  rintro _ _ ⟨rfl, hh⟩
  obtain rfl := hh.symm
  refine back trivial ?_
  refine g1 ?_
  exact fin_sub (.new (.refl hw) hb1 _) (.ret _ _ (.refl _)) ⟨rfl, rfl⟩

/-! ### copies -/
theorem c172v {name x : Str} {fold : Bool} : ACalls Tryz.prog G 172 [encCa (valC name x fold)] h (Gives (encCa (valC name x fold)) h) := by
  refine ACalls.fin (en172 (by simp) fun hw => ?_)
  refine g1 ?_
  refine s_box rfl rfl fun b1 hb1 => ⟨trivial, ?_⟩
  try simp only [set_next, new_next] at hb1
  refine g1 ?_
  refine s_alloc (tt rfl) fun b2 hb2 => ⟨trivial, ?_⟩
  try simp only [set_next, new_next] at hb2
  refine g1 ?_
  refine s_alloc (tt rfl) fun b3 hb3 => ⟨trivial, ?_⟩
  try simp only [set_next, new_next] at hb3
  refine g1 ?_
  refine w_once ?_
  refine g1 ?_
  refine fin_sub ?_ (.ret _ _ wkk) ⟨rfl, rfl⟩
  repeat first | exact Sub.refl hw | refine Sub.setl ?_ (by omega) _ | refine Sub.new ?_ (by first | omega | (simp only [set_next, new_next]; omega)) _

theorem c127v {name x : Str} {fold : Bool} : ACalls Tryz.prog G 127 [encPa (tokP name x fold)] h (Gives (encPa (tokP name x fold)) h) := by
  refine ACalls.fin (en127 (by simp) fun hw => ?_)
  refine g1 ?_
  refine s_box rfl rfl fun b1 hb1 => ⟨trivial, ?_⟩
  try simp only [set_next, new_next] at hb1
  refine g1 ?_
  refine s_alloc (tt rfl) fun b2 hb2 => ⟨trivial, ?_⟩
  try simp only [set_next, new_next] at hb2
  refine g1 ?_
  refine s_call rfl rfl rfl ca172 ?_
  refine (c172v (name := name) (x := x) (fold := fold)).mono ?_
  rintro _ _ ⟨rfl, hh⟩
  obtain rfl := hh.symm
  refine back ⟨rk_load (tt rfl) rfl rfl hpp rfl rfl rfl, rk_load (tt rfl) rfl rfl hpp rfl rfl rfl, trivial⟩ ?_
  refine g1 ?_
  refine fin_sub ?_ (.ret _ _ wkk) ⟨rfl, rfl⟩
  repeat first | exact Sub.refl hw | refine Sub.setl ?_ (by omega) _ | refine Sub.new ?_ (by first | omega | (simp only [set_next, new_next]; omega)) _
end
end Go.Proofs

/- The leaves of a flat sequence; Format of one query. No conditions. -/
namespace Go.Proofs
open Go.Abs Go.Q
attribute [local irreducible] awp aops Run BodyQ ACalls Back
section
variable {G : Nat → Option Obj} {h : AHeap}

abbrev begP (region : Str) : Pat := .mk 2 .zero [] region 0 0 []
abbrev nilL : AVal := .sl 0 [] .nl

theorem c64b {region : Str} : ACalls Tryz.prog G 64 [encPa (begP region), nilL] h (Gives nilL h) := by
  refine ACalls.fin (en64 (by simp) fun hw => ?_)
  refine g1 ?_
  refine s_box rfl rfl fun b1 hb1 => ⟨trivial, ?_⟩
  try simp only [set_next, new_next] at hb1
  refine g1 ?_
  refine w_once ?_
  refine g1 ?_
  refine fin_sub ?_ (.ret _ _ (.refl _)) ⟨rfl, rfl⟩
  repeat first | exact Sub.refl hw | assumption | refine Sub.setl ?_ (by omega) _ | refine Sub.new ?_ (by first | omega | (simp only [set_next, new_next]; omega)) _

theorem c64t {name x : Str} {fold : Bool} : ACalls Tryz.prog G 64 [encPa (tokP name x fold), nilL] h (Gives (.sl 13 [encP (tokP name x fold)] .frz) h) := by
  refine ACalls.fin (en64 (by simp) fun hw => ?_)
  refine g1 ?_
  refine s_box rfl rfl fun b1 hb1 => ⟨trivial, ?_⟩
  try simp only [set_next, new_next] at hb1
  refine g1 ?_
  refine s_call rfl rfl rfl ca127 ?_
  refine (c127v).mono ?_
  rintro _ _ ⟨rfl, hh⟩
  obtain rfl := hh.symm
  refine back trivial ?_
  refine g1 ?_
  refine s_append h rfl rfl (tt rfl) (tt rfl) rfl (.inr rfl) (by simp only [new_next]; omega) trivial (by simp) fun tg' h' hroom hext => ⟨trivial, ?_⟩
  refine g1 ?_
  refine fin_sub (hext.sub _ (Nat.le_refl _) ?_) (.ret _ _ (weak_frz)) ⟨rfl, rfl⟩
  repeat first | exact Sub.refl hw | assumption | refine Sub.setl ?_ (by omega) _ | refine Sub.new ?_ (by first | omega | (simp only [set_next, new_next]; omega)) _

set_option maxHeartbeats 1000000 in
theorem c64s {region name x : Str} {fold : Bool} : ACalls Tryz.prog G 64 [encPa (.mk 4 .zero [] [] 0 0 [begP region, tokP name x fold]), nilL] h (Gives (.sl 13 [encP (tokP name x fold)] .frz) h) := by
  refine ACalls.fin (en64 (by simp) fun hw => ?_)
  refine g1 ?_
  refine s_box rfl rfl fun b1 hb1 => ⟨trivial, ?_⟩
  try simp only [set_next, new_next] at hb1
  refine g1 ?_
  have hsub : Sub h (h.new b1 (.box 32 (encPa (.mk 4 .zero [] [] 0 0 [begP region, tokP name x fold])).cells)) := .new (.refl hw) hb1 _
  refine w_loop (fun e h' n => Sub h h' ∧ ((n = 2 ∧ e = [(1, true, nilL), (16, true, .sl 13 (encPs [begP region, tokP name x fold]) .frz), (17, true, .int .i64 2), (18, true, .int .i64 0)]) ∨
      (n = 1 ∧ e = [(1, true, nilL), (16, true, .sl 13 (encPs [begP region, tokP name x fold]) .frz), (17, true, .int .i64 2), (18, true, .int .i64 1)]) ∨
      (n = 0 ∧ e = [(1, true, .sl 13 [encP (tokP name x fold)] .frz), (16, true, .sl 13 (encPs [begP region, tokP name x fold]) .frz), (17, true, .int .i64 2), (18, true, .int .i64 2)])))
    _ 2 (.cons rfl (.cons rfl (.cons rfl (.cons rfl (.nil _))))) ⟨hsub, .inl ⟨rfl, rfl⟩⟩ ?_
  rintro _ h2 _ ⟨hs2, ⟨rfl, rfl⟩ | ⟨rfl, rfl⟩ | ⟨rfl, rfl⟩⟩
  · have hn2 := hs2.next
    refine g1 ?_
    refine s_ia (row := encP (begP region)) rfl (tt rfl) (tt rfl) rfl rfl rfl (fun _ => rfl) (by decide) rfl ?_
    refine g1 ?_
    refine s_alloc (tt rfl) fun b2 hb2 => ⟨trivial, ?_⟩
    try simp only [set_next, new_next] at hb2
    refine g1 ?_
    refine s_call rfl rfl rfl ca64 ?_
    refine (c64b).mono ?_
    rintro _ _ ⟨rfl, hh⟩
    obtain rfl := hh.symm
    refine back trivial ?_
    refine g1 ?_
    refine l_n _ 1 (by omega) ?_ ⟨?_, .inr (.inl ⟨rfl, rfl⟩)⟩
    · exact envv
    · repeat first | exact Sub.refl hw | assumption | refine Sub.setl ?_ (by omega) _ | refine Sub.new ?_ (by first | omega | (simp only [set_next, new_next]; omega)) _
  · have hn2 := hs2.next
    refine g1 ?_
    refine s_ia (row := encP (tokP name x fold)) rfl (tt rfl) (tt rfl) rfl rfl rfl (fun _ => rfl) (by decide) rfl ?_
    refine g1 ?_
    refine s_alloc (tt rfl) fun b2 hb2 => ⟨trivial, ?_⟩
    try simp only [set_next, new_next] at hb2
    refine g1 ?_
    refine s_call rfl rfl rfl ca64 ?_
    refine (c64t).mono ?_
    rintro _ _ ⟨rfl, hh⟩
    obtain rfl := hh.symm
    refine back trivial ?_
    refine g1 ?_
    refine l_n _ 0 (by omega) ?_ ⟨?_, .inr (.inr ⟨rfl, rfl⟩)⟩
    · exact envv
    · repeat first | exact Sub.refl hw | assumption | refine Sub.setl ?_ (by omega) _ | refine Sub.new ?_ (by first | omega | (simp only [set_next, new_next]; omega)) _
  · refine g1 ?_
    exact fin_sub hs2 (.ret _ _ (.refl _)) ⟨rfl, rfl⟩
end
end Go.Proofs

/- Format of the query of an example. No conditions. -/
namespace Go.Proofs
open Go.Abs Go.Q
attribute [local irreducible] awp aops Run BodyQ ACalls Back
section
variable {G : Nat → Option Obj} {h : AHeap}

def B0 : Pat := begP [115]
def T0 : Pat := tokP [119, 111, 114, 100] [84, 104, 101] true
def P0 : Pat := .mk 4 .zero [] [] 0 0 [B0, T0]
def Q0 : Qry := ⟨P0, .zero, [], 0⟩
def text0 : Str := [60, 115, 62, 32, 91, 119, 111, 114, 100, 61, 34, 84, 104, 101, 34, 37, 99, 93]

theorem shape0 : shapeP P0 = true := by decide
theorem right0 : rightP P0 = true := by decide
theorem size0 : sizeP P0 = 2 := by decide
theorem ok0 : PatOK 1000 P0 := .mk _ _ _ _ _ _ _ cond_leaf (by decide) fun k hk => by
  rcases List.mem_cons.1 hk with rfl | hk
  · exact .mk _ _ _ _ _ _ _ cond_leaf (by decide) fun k hk => by cases hk
  · rcases List.mem_cons.1 hk with rfl | hk
    · exact .mk _ _ _ _ _ _ _ cond_leaf (by decide) fun k hk => by cases hk
    · cases hk

def T1 : Pat → Str
  | .mk 2 _ _ region _ _ _ => [60] ++ region ++ [62]
  | _ => tokF [119, 111, 114, 100] [84, 104, 101] true

theorem kids0 : ∀ k, k ∈ [B0, T0] → opOf k ≠ 4 ∧ opOf k ≠ 5 ∧ PatW G k (T1 k) ∧ (T1 k).length ≤ 2000 := fun k hk => by
  rcases List.mem_cons.1 hk with rfl | hk
  · exact ⟨by decide, by decide, w_begin (by decide), by decide⟩
  · rcases List.mem_cons.1 hk with rfl | hk
    · exact ⟨by decide, by decide, w_token (by decide) (by decide) (by decide), by decide⟩
    · cases hk
theorem text0_eq : seqF T1 [B0, T0] = text0 := by decide


set_option maxHeartbeats 2000000 in
theorem c20v : ACalls Tryz.prog G 20 [encQa Q0] h (Gives (.str text0) h) := by
  refine ACalls.fin (en20 (by simp) fun hw => ?_)
  refine g1 ?_
  refine s_box rfl rfl fun b1 hb1 => ⟨trivial, ?_⟩
  try simp only [set_next, new_next] at hb1
  refine g1 ?_
  refine s_call rfl rfl rfl ca59 ?_
  refine (c59 (by decide) ok0 shape0).mono ?_
  rintro _ _ ⟨rfl, hh⟩
  obtain rfl := hh.symm
  refine back trivial ?_
  refine g1 ?_
  refine s_call rfl rfl rfl ca60 ?_
  refine (c60e).mono ?_
  rintro _ _ ⟨rfl, hh⟩
  obtain rfl := hh.symm
  refine back trivial ?_
  refine g1 ?_
  refine s_call rfl rfl rfl ca62 ?_
  refine (c62z).mono ?_
  rintro _ _ ⟨rfl, hh⟩
  obtain rfl := hh.symm
  refine back trivial ?_
  refine g1 ?_
  refine s_call rfl rfl rfl ca64 ?_
  refine (c64s).mono ?_
  rintro _ _ ⟨rfl, hh⟩
  obtain rfl := hh.symm
  refine back trivial ?_
  refine g1 ?_
  refine s_call rfl rfl rfl ca63 ?_
  refine (c63 (l := [T0]) (cap := []) ca65 (by decide) (fun y hy => by obtain rfl := List.mem_singleton.1 hy; exact c65v)).mono ?_
  rintro _ _ ⟨rfl, hh⟩
  obtain rfl := hh.symm
  refine back trivial ?_
  refine g1 ?_
  refine s_box rfl rfl fun b2 hb2 => ⟨trivial, ?_⟩
  try simp only [set_next, new_next] at hb2
  refine g1 ?_
  refine s_call rfl rfl rfl ca67 ?_
  refine (acalls_wf (w_seq4 (T := T1) (cond := .zero) (label := []) (region := []) (lo := 0) (hi' := 0) (kids := [B0, T0]) (by decide) kids0 (⟨by omega, .inl ⟨rfl, hn_self⟩⟩ : Wr h.next b2 [] _) (by decide))).mono ?_
  rintro _ h3 ⟨⟨rfl, W3, k3⟩, w3⟩
  refine back trivial ?_
  have gq := k3.box b1 38 _ (by omega) (hn_ne (by omega) hn_self)
  have W3 : Wr h.next b2 text0 h3 := by rw [← text0_eq]; simpa using W3
  refine g1 ?_
  refine w_once ?_
  refine g1 ?_
  obtain ⟨hB, ⟨h0, _⟩ | ⟨b, hbB, hne, hg, hr⟩⟩ := W3
  · exact absurd h0 (by decide)
  refine s_call rfl rfl rfl ca72 ?_
  refine (c72 (by decide) hg hr).mono ?_
  rintro _ _ ⟨rfl, rfl⟩
  refine back trivial ?_
  refine g1 ?_
  have hsub : Sub h h3 := ⟨by have := k3.next; simp only [new_next] at this; omega, hw, fun x o hx => by
    have hlt := hw _ _ hx
    have h4 := k3.old x o hlt (hn_ne (by omega) (hn_ne (by omega) hx))
    cases o with
    | row T l => exact .inl ⟨T, l, rfl, h4⟩
    | box T cs => exact .inr ⟨T, cs, cs, rfl, h4, .refl cs⟩⟩
  exact fin_sub (hsub.erasel hbB) (.ret _ _ (.refl _)) ⟨rfl, rfl⟩
end
end Go.Proofs

/- The example of the chapter: known answers true. No conditions. -/
namespace Go.Proofs
open Go.Abs Go.Q
attribute [local irreducible] awp aops Run BodyQ ACalls Back

theorem parse0 : queryP text0 100 = some (.ok Q0 (⟨0, [], 18⟩, 18)) := by kernel_rfl
theorem ca13' : Callable Tryz.prog 13 := ⟨_, Tryz.func13, by kernel_rfl, by kernel_rfl⟩

section
variable {G : Nat → Option Obj} {h : AHeap}

set_option maxHeartbeats 2000000 in
theorem c16 : ACalls Tryz.prog G 16 [] h (Gives (.bool true) h) := by
  have hp : ∀ h, ACalls Tryz.prog G 13 [.str text0] h (Gives (Post13 text0 (Q0, 0, 0)) h) := fun h => c13 (by decide) (Q0, 0, 0) (.inr ⟨by decide, 100, _, by decide, parse0, rfl⟩)
  have hs : ∀ h, ACalls Tryz.prog G 28 [encPa P0] h (Gives (.int .i64 2) h) := fun h => by
    have := c28 (G := G) (h := h) (by decide) ok0 right0
    rw [size0] at this
    exact this
  refine ACalls.fin (en16 (by simp) fun hw => ?_)
  refine g1 ?_
  refine s_call rfl rfl rfl ca13' ?_
  refine (hp _).mono ?_
  rintro _ _ ⟨rfl, hh⟩
  obtain rfl := hh.symm
  refine back trivial ?_
  refine g1 ?_
  refine s_alloc (tt rfl) fun b1 hb1 => ⟨trivial, ?_⟩
  try simp only [set_next, new_next] at hb1
  refine g1 ?_
  refine s_ia (row := encP T0) rfl (tt rfl) (tt rfl) rfl rfl rfl (fun _ => rfl) (by decide) rfl ?_
  refine g1 ?_
  refine s_call rfl rfl rfl ca28 ?_
  refine (hs _).mono ?_
  rintro _ _ ⟨rfl, hh⟩
  obtain rfl := hh.symm
  refine back trivial ?_
  refine g1 ?_
  refine s_call rfl rfl rfl ca20 ?_
  refine (c20v).mono ?_
  rintro _ _ ⟨rfl, hh⟩
  obtain rfl := hh.symm
  refine back trivial ?_
  refine g1 ?_
  refine fin_sub (.setl (.new (.refl hw) hb1 _) hb1 _) (.ret _ _ (.refl _)) ⟨rfl, rfl⟩
end
end Go.Proofs

/- From what a call does to abstract values to what the statements ask of a law's call. No conditions. -/
set_option maxRecDepth 100000
set_option linter.constructorNameAsVariable false
namespace Go.Proofs.YtjnkbjloabnopaaGreatDoor
open Go.ChangeShapes Go.WideShapes Go.ChangeAt Go.RowKit Go.Abs Go.ChangeMaps

theorem own : ownKnob Tryz.prog.godebug = none := by kernel_rfl

/-- Nothing is managed when the law is called. -/
def bare (W : World) : AHeap := ⟨fun _ => none, W.heap.size⟩
theorem bare_rel (W : World) : Rel (fun _ => none) (bare W) W where
  wf := fun _ _ h => by cases h
  nxt := Nat.le_refl _
  box := fun _ _ _ h => by cases h
  row := fun _ _ _ h => by cases h
  glob := fun _ _ h => by cases h
theorem step_old {W W' : World} {h' : AHeap} (hs : Step (bare W) W h' W') {g : Nat} (hg : g < W.heap.size) : W'.heap[g]? = W.heap[g]? := (hs.free g hg rfl).1
theorem step_kept {W W' : World} {h' : AHeap} (hs : Step (bare W) W h' W') (may : MemPlace → Prop) : W.keptBut W' may := by
  refine ⟨hs.os, hs.output, fun i hi => ?_⟩
  rw [step_old hs hi]
  rcases W.heap[i]? with _ | o
  · rfl
  · cases o <;> first | exact ⟨rfl, rfl, rfl, fun _ _ => rfl⟩ | exact .inr ⟨rfl, rfl⟩ | rfl
theorem step_cell {W W' : World} {h' : AHeap} (hs : Step (bare W) W h' W') {a : Addr} {v : Value} (hc : W.cell? a = some v) : W'.cell? a = some v := by
  have hb : a.block < W.heap.size := by
    have h1 := hc
    unfold World.cell? at h1
    cases hx : W.heap[a.block]? with
    | none => rw [hx] at h1; cases h1
    | some o => exact (Array.getElem?_eq_some_iff.1 hx).1
  unfold World.cell? at hc ⊢
  rw [step_old hs hb]
  exact hc

section
variable {H : Type} {enc : TypeId × Value → H} {P : Program}
/-- What a law's call must leave, where nothing of what stood has turned. -/
theorem post_of_step {f : Func} {s : ChangeSpec} {apart fresh handsOn again : Bool} {W W' : World} {h' : AHeap} {args : Array Value} {v : Value} {ds gs : List (DataW H)} {before pa pv : List MemPlace}
    (hW : DataW.Whole enc P f.params.toList s.vars apart W args.toList ds gs before)
    (hs : Step (bare W) W h' W')
    (hres : ∀ (b : Nat) (sp : Nat → Bool) (hd : Bool), DataW.TrodAll enc P W' b sp hd f.resultTypes.toList (v.resultList f.resultTypes.size) (s.fn H (ds ++ gs)).results [])
    (hargs : ∀ sp : Nat → Bool, (∀ p ∈ before, sp p.block = true) → DataW.TrodAll enc P W' 0 sp true f.params.toList args.toList (s.fn H (ds ++ gs)).args pa)
    (hvars : ∀ sp : Nat → Bool, (∀ p ∈ before, sp p.block = true) → DataW.TrodVars enc P W' sp s.vars (s.fn H (ds ++ gs)).vars pv)
    (hps : before = pa ++ pv)
    (hok : ∀ (j : Nat) (t : TypeId) (r : Value), f.resultTypes[j]? = some t → (v.resultList f.resultTypes.size)[j]? = some r → Value.okWide P W' .any 0 t r) :
    s.post enc P f apart fresh handsOn again W args v W' := by
  have hlt : ∀ p ∈ before, p.block < W.heap.size := fun p hp => hW.lt p hp
  have hold : ∀ p ∈ before, (fun b => decide (b < W.heap.size)) p.block = true := fun p hp => by simpa using hW.lt p hp
  refine ⟨ds, gs, before, [], pa, pv, hW, hres _ _ _, hargs _ hold, hvars _ hold, step_kept hs _, fun _ => ?_⟩
  obtain ⟨_, _, _, _, _, hz, hn⟩ := hW
  refine ⟨hok, _, _, ([] ++ pa) ++ pv, ⟨[] ++ pa, pv, trodAll_append (hargs _ (fun _ _ => rfl)) (hres _ _ _), hvars _ (fun _ _ => rfl), rfl, ?_, ?_⟩, ?_⟩
  · intro b off hp
    have hb : MemPlace.cell b off ∈ before := by rw [hps]; simpa using hp
    have h1 := hz b off hb
    have h2 := hlt _ hb
    have h3 : W'.heap[b]? = W.heap[b]? := step_old hs h2
    simp only [World.frozen?] at h1 ⊢
    rw [h3]
    exact h1
  · intro ha
    have := hn ha
    rw [hps] at this
    simpa using this
  · intro p hp _
    rw [hps]
    simpa using hp
end

/-! ### arguments -/

/-- A string. -/
theorem arg_string {W : World} (s : ByteArray) : Rep (bare W) W (.str s.data.toList) (.string s) := .str s

section
variable {H : Type} {enc : TypeId × Value → H} {W : World} {v : Value} {d : DataW H} {p : List MemPlace}

theorem ul22 : Tryz.prog.underlying 22 = some (.slice 3) := by kernel_rfl
theorem ul3 : Tryz.prog.underlying 3 = some (.int .i64) := by kernel_rfl
theorem ul4 : Tryz.prog.underlying 4 = some .bool := by kernel_rfl
theorem ul9 : Tryz.prog.underlying 9 = some .string := by kernel_rfl
theorem cells3 : Tryz.prog.cellsOf 3 = 1 := by kernel_rfl

/-- A list of numbers: it is told as such, and reads behind the call as before. -/
theorem arg_ints {base : Nat} (hval : Value.okWide Tryz.prog W .any base 22 v) (hd : DataW.Trod enc Tryz.prog W 0 (fun _ => true) true 22 v d p) :
    ∃ l : List Int, Rep (bare W) W (.sl 1 (l.map fun x => [AVal.int .i64 x]) .frz) v ∧ ∀ (W' : World) (h' : AHeap), Step (bare W) W h' W' → ∀ sp : Nat → Bool, (∀ q ∈ p, sp q.block = true) → DataW.Trod enc Tryz.prog W' 0 sp true 22 v d p := by
  obtain ⟨fuel, hf⟩ := hd
  obtain ⟨a0, n0, c0, rfl⟩ := okWide_slice ul22 hval
  have hce : (Value.slice a0 n0 c0).cells.toList = [Value.slice a0 n0 c0] := rfl
  rcases open_ints ul22 ul3 cells3 hf with ⟨hcs, hx⟩ | ⟨a, len, cap, zs, hcs, hb, hl, hm, hz, hx, hcell, hw⟩
  · rw [hce] at hcs
    obtain ⟨rfl, rfl, rfl⟩ := Value.slice.inj (List.cons.inj hcs).1
    obtain ⟨rfl, rfl⟩ := Prod.mk.inj hx
    exact ⟨[], .slnil 1, fun W' h' hs sp _ => ⟨1, by simp [DataW.trod, Value.cells, ul22]⟩⟩
  · rw [hce] at hcs
    obtain ⟨rfl, rfl, rfl⟩ := Value.slice.inj (List.cons.inj hcs).1
    obtain ⟨rfl, rfl⟩ := Prod.mk.inj hx
    have hspot : a.spot = none := by
      simp only [Value.okWide, ul22, Cell.okWide, Cell.ok] at hval
      exact hval.2.2.2.1
    simp only [if_true] at hz
    refine ⟨zs.take n0, ?_, fun W' h' hs sp hsp => ?_⟩
    · have hlen : ((zs.take n0).map fun x => [AVal.int .i64 x]).length = n0 := by simp; omega
      have := Rep.sl (h := bare W) (w := W) 1 ((zs.take n0).map fun x => [AVal.int .i64 x]) .frz a c0 hspot (by omega) (fun es he => by
        obtain ⟨x, _, rfl⟩ := List.mem_map.1 he; rfl) ?_ ?_ ?_ trivial
      · rw [hlen] at this; exact this
      · intro i hi
        rw [hlen, Nat.mul_one] at hi
        have hc := hcell i (by omega)
        refine ⟨⟨_, hc⟩, ?_, .inl rfl⟩
        exact World.block_lt_of_cell? _ _ hc
      · intro i j es c v he hc hv
        rw [List.getElem?_map, Option.map_eq_some_iff] at he
        obtain ⟨x, hx, rfl⟩ := he
        have hj : j = 0 := by
          rcases j with _ | j
          · rfl
          · simp at hc
        subst hj
        obtain rfl : AVal.int .i64 x = c := by simpa using hc
        have hi : i < n0 := by have := (List.getElem?_eq_some_iff.1 hx).1; simp at this; omega
        rw [Nat.mul_one, Nat.add_zero, hcell i (by omega)] at hv
        have hxx : zs.getD i 0 = x := by
          rw [List.getElem?_take_of_lt hi] at hx
          simp [List.getD, hx]
        rw [hxx] at hv
        injection hv with hv
        subst hv
        exact .int _ _
      · intro es c he hc
        obtain ⟨x, _, rfl⟩ := List.mem_map.1 he
        rw [List.mem_singleton] at hc
        subst hc
        rfl
    · have hzl : zs.length = if sp a.block then c0 else n0 := by
        by_cases hz0 : 0 < zs.length
        · have : sp a.block = true := hsp (.cell a.block (a.off + 0)) (List.mem_map.2 ⟨0, List.mem_range.2 hz0, rfl⟩)
          rw [this]
          exact hz
        · split <;> omega
      exact ⟨2, shut_ints 0 ul22 ul3 cells3 (Nat.zero_le _) hl hm hzl (fun i hi => step_cell hs (hcell i hi)) hw⟩
end
end Go.Proofs.YtjnkbjloabnopaaGreatDoor

/- The law QuerySizes, lifted to what its row asks, given that 'known' answers true. Its one condition: the contract of 'known'. -/
set_option maxRecDepth 100000
set_option linter.constructorNameAsVariable false
namespace Go.Proofs.YtjnkbjloabnopaaGreatDoor
open Go.ChangeShapes Go.WideShapes Go.ChangeAt Go.RowKit Go.Abs Go.ChangeMaps

theorem querySizes_reps {W : World} {a : AVal} {u : Value} (ha : Rep (bare W) W a u) : Reps (bare W) W [a] [u] := ⟨rfl, fun i c x hc hx => by
  rcases i with _ | i
  · obtain rfl : a = c := by simpa using hc
    obtain rfl : u = x := by simpa using hx
    exact ha
  · simp at hc⟩

theorem querySizes_lifted (K : ∀ h, ACalls Tryz.prog (fun _ => none) 16 [] h (Gives (.bool true) h)) (os : Os) (started : os.Started) (H : Type) (enc : TypeId × Value → H) :
    ReturnsInHanded {} Tryz.checked os 8 .any (fun w args => (Rows.querySizesSpec.pre enc Tryz.prog Tryz.f8 Rows.querySizesRow.domain false w args ∧ laidMetH Tryz.prog Rows.querySizesRow.laid w) ∧ sizedMet enc Tryz.prog Tryz.f8 (OpenSpec.ofChange Rows.querySizesSpec) false w args)
      (Rows.querySizesSpec.post enc Tryz.prog Tryz.f8 false true false false) := by
  refine returnsInHanded_of_change_and (C := Tryz.checked) (X := fun w _ => laidMetH Tryz.prog Rows.querySizesRow.laid w) (fun _ _ _ hh h => h.of_heap hh) own started (by kernel_rfl) Tryz.func8
    (ChangeSpec.witness_shaped (enc := enc) (C := Tryz.checked) (os := os) (X := fun w _ => laidMetH Tryz.prog Rows.querySizesRow.laid w) false (World.laidAll Tryz.prog os Rows.querySizesRow.laid) #[.slice none 0 0] 8 (World.laidAll_os _ _ _)
      (World.shaped_of_ZipB (by kernel_rfl) (by kernel_rfl)) (by kernel_rfl) (by kernel_rfl) (by kernel_rfl)
      (by rw [MakeChecks.laidMetH_plain _ _ _ (by kernel_rfl)]; exact laidMet_laidAll _ (by kernel_rfl) (by kernel_rfl))) ?_
  intro W base args ds gs before hval0 hW hc _ hL _
  have hval : ∀ (j : Nat) t v, Tryz.f8.params[j]? = some t → args[j]? = some v → Value.okWide Tryz.prog W .any base t v := hval0
  have hW' := hW
  obtain ⟨p, q, hA0, hV, rfl, _, _⟩ := hW
  have hA : DataW.TrodAll enc Tryz.prog W 0 (fun _ => true) true Tryz.f8.params.toList args.toList ds p := hA0
  rw [show Tryz.f8.params = #[22] by kernel_rfl] at hA hval
  obtain ⟨v1, d1, rfl, rfl, h1⟩ := trodAll_one hA
  obtain ⟨rfl, rfl⟩ := trodVars_none hV
  obtain ⟨l, hl, hback⟩ := arg_ints (hval 0 22 v1 rfl rfl) h1
  clear hA0 hval0
  simp only [List.append_nil] at hW'
  have hcall := c8 K (l := l) (tg := .frz) (h := bare W) W [v1] (bare_rel W) (querySizes_reps hl)
  refine Calls.mono hcall ?_
  rintro e W' ⟨out, h', ⟨rfl, rfl⟩, _, hst, v, rfl, hv⟩
  cases hv
  exact ⟨_, rfl, post_of_step hW' hst (fun _ _ _ => trodAll_mk1 (shut_bool ul4 _)) (fun sp hsp => trodAll_mk1 (hback W' _ hst sp hsp)) (fun _ _ => rfl) (by simp) (ok_one (by kernel_rfl) rfl (okWide_bool_mk ul4 _))⟩
end Go.Proofs.YtjnkbjloabnopaaGreatDoor

/- The closed facts of the row of QuerySizes, each checked by the kernel alone, and joined. No conditions. -/
namespace Go.Proofs.YtjnkbjloabnopaaGreatDoor
open Go
theorem querySizes_and {a b : Bool} (ha : a = true) (hb : b = true) : (a && b) = true := by rw [ha, hb]; rfl
theorem querySizes_fact0 : (fun (P : Program) (f : FuncId) (fn : Func) (s : ChangeSpec) (c : OpenClaim) => (c.wf (OpenSpec.ofChange s) : Bool)) Tryz.prog 8 Tryz.f8 Rows.querySizesSpec Rows.querySizesRow = true := by kernel_rfl
theorem querySizes_fact1 : (fun (P : Program) (f : FuncId) (fn : Func) (s : ChangeSpec) (c : OpenClaim) => (laidOutB P : Bool)) Tryz.prog 8 Tryz.f8 Rows.querySizesSpec Rows.querySizesRow = true := by kernel_rfl
theorem querySizes_fact2 : (fun (P : Program) (f : FuncId) (fn : Func) (s : ChangeSpec) (c : OpenClaim) => (mapsRowed P : Bool)) Tryz.prog 8 Tryz.f8 Rows.querySizesSpec Rows.querySizesRow = true := by kernel_rfl
theorem querySizes_fact3 : (fun (P : Program) (f : FuncId) (fn : Func) (s : ChangeSpec) (c : OpenClaim) => (fn.params.all (P.readableRec ·) : Bool)) Tryz.prog 8 Tryz.f8 Rows.querySizesSpec Rows.querySizesRow = true := by kernel_rfl
theorem querySizes_fact4 : (fun (P : Program) (f : FuncId) (fn : Func) (s : ChangeSpec) (c : OpenClaim) => (namedTie P c.named s.vars : Bool)) Tryz.prog 8 Tryz.f8 Rows.querySizesSpec Rows.querySizesRow = true := by kernel_rfl
theorem querySizes_fact5 : (fun (P : Program) (f : FuncId) (fn : Func) (s : ChangeSpec) (c : OpenClaim) => ((c.stops == []) : Bool)) Tryz.prog 8 Tryz.f8 Rows.querySizesSpec Rows.querySizesRow = true := by kernel_rfl
theorem querySizes_fact6 : (fun (P : Program) (f : FuncId) (fn : Func) (s : ChangeSpec) (c : OpenClaim) => ((P.stops == []) : Bool)) Tryz.prog 8 Tryz.f8 Rows.querySizesSpec Rows.querySizesRow = true := by kernel_rfl
theorem querySizes_fact7 : (fun (P : Program) (f : FuncId) (fn : Func) (s : ChangeSpec) (c : OpenClaim) => ((c.knobs == []) : Bool)) Tryz.prog 8 Tryz.f8 Rows.querySizesSpec Rows.querySizesRow = true := by kernel_rfl
theorem querySizes_fact8 : (fun (P : Program) (f : FuncId) (fn : Func) (s : ChangeSpec) (c : OpenClaim) => ((P.stopKnobs == []) : Bool)) Tryz.prog 8 Tryz.f8 Rows.querySizesSpec Rows.querySizesRow = true := by kernel_rfl
theorem querySizes_fact9 : (fun (P : Program) (f : FuncId) (fn : Func) (s : ChangeSpec) (c : OpenClaim) => ((c.inPlace == P.inPlace f) : Bool)) Tryz.prog 8 Tryz.f8 Rows.querySizesSpec Rows.querySizesRow = true := by kernel_rfl
theorem querySizes_fact10 : (fun (P : Program) (f : FuncId) (fn : Func) (s : ChangeSpec) (c : OpenClaim) => ((c.unfollowed == P.unfollowed f) : Bool)) Tryz.prog 8 Tryz.f8 Rows.querySizesSpec Rows.querySizesRow = true := by kernel_rfl
theorem querySizes_fact11 : (fun (P : Program) (f : FuncId) (fn : Func) (s : ChangeSpec) (c : OpenClaim) => ((c.recurses == P.recurses f) : Bool)) Tryz.prog 8 Tryz.f8 Rows.querySizesSpec Rows.querySizesRow = true := by kernel_rfl
theorem querySizes_fact12 : (fun (P : Program) (f : FuncId) (fn : Func) (s : ChangeSpec) (c : OpenClaim) => ((c.named == P.varsNamed f) : Bool)) Tryz.prog 8 Tryz.f8 Rows.querySizesSpec Rows.querySizesRow = true := by kernel_rfl
theorem querySizes_fact13 : (fun (P : Program) (f : FuncId) (fn : Func) (s : ChangeSpec) (c : OpenClaim) => ((c.maps == (fn.params.toList ++ s.plain.varTypes P).any (P.mapsRec ·)) : Bool)) Tryz.prog 8 Tryz.f8 Rows.querySizesSpec Rows.querySizesRow = true := by kernel_rfl
theorem querySizes_fact14 : (fun (P : Program) (f : FuncId) (fn : Func) (s : ChangeSpec) (c : OpenClaim) => ((c.ifaces == (fn.params.toList ++ s.plain.varTypes P).any (P.ifacesRec ·)) : Bool)) Tryz.prog 8 Tryz.f8 Rows.querySizesSpec Rows.querySizesRow = true := by kernel_rfl
theorem querySizes_fact15 : (fun (P : Program) (f : FuncId) (fn : Func) (s : ChangeSpec) (c : OpenClaim) => ((c.mapsOut == P.mapsAmong fn.resultTypes.toList) : Bool)) Tryz.prog 8 Tryz.f8 Rows.querySizesSpec Rows.querySizesRow = true := by kernel_rfl
theorem querySizes_fact16 : (fun (P : Program) (f : FuncId) (fn : Func) (s : ChangeSpec) (c : OpenClaim) => ((c.loops == (fn.params.toList ++ s.plain.varTypes P).any (P.loopsFrom ·)) : Bool)) Tryz.prog 8 Tryz.f8 Rows.querySizesSpec Rows.querySizesRow = true := by kernel_rfl
theorem querySizes_fact17 : (fun (P : Program) (f : FuncId) (fn : Func) (s : ChangeSpec) (c : OpenClaim) => ((c.wideKeys == (fn.params.toList ++ s.plain.varTypes P ++ fn.resultTypes.toList).any (P.wideKeysFrom ·)) : Bool)) Tryz.prog 8 Tryz.f8 Rows.querySizesSpec Rows.querySizesRow = true := by kernel_rfl
theorem querySizes_fact18 : (fun (P : Program) (f : FuncId) (fn : Func) (s : ChangeSpec) (c : OpenClaim) => (s.vars.all (P.varReadable ·) : Bool)) Tryz.prog 8 Tryz.f8 Rows.querySizesSpec Rows.querySizesRow = true := by kernel_rfl
theorem querySizes_fact19 : (fun (P : Program) (f : FuncId) (fn : Func) (s : ChangeSpec) (c : OpenClaim) => (fn.resultTypes.all (fun t => P.readableRec t && decide (t < P.types.size)) : Bool)) Tryz.prog 8 Tryz.f8 Rows.querySizesSpec Rows.querySizesRow = true := by kernel_rfl
theorem querySizes_fact20 : (fun (P : Program) (f : FuncId) (fn : Func) (s : ChangeSpec) (c : OpenClaim) => ((c.ifacesOut == fn.resultTypes.toList.any (P.ifacesRec ·)) : Bool)) Tryz.prog 8 Tryz.f8 Rows.querySizesSpec Rows.querySizesRow = true := by kernel_rfl
theorem querySizes_fact21 : (fun (P : Program) (f : FuncId) (fn : Func) (s : ChangeSpec) (c : OpenClaim) => ((c.loopsOut == fn.resultTypes.toList.any (P.loopsFrom ·)) : Bool)) Tryz.prog 8 Tryz.f8 Rows.querySizesSpec Rows.querySizesRow = true := by kernel_rfl
theorem querySizes_fact22 : (fun (P : Program) (f : FuncId) (fn : Func) (s : ChangeSpec) (c : OpenClaim) => ((c.plainKeys == P.plainKeys) : Bool)) Tryz.prog 8 Tryz.f8 Rows.querySizesSpec Rows.querySizesRow = true := by kernel_rfl
theorem querySizes_fact23 : (fun (P : Program) (f : FuncId) (fn : Func) (s : ChangeSpec) (c : OpenClaim) => (c.shortTexts.isNone : Bool)) Tryz.prog 8 Tryz.f8 Rows.querySizesSpec Rows.querySizesRow = true := by kernel_rfl
theorem querySizes_fact24 : (fun (P : Program) (f : FuncId) (fn : Func) (s : ChangeSpec) (c : OpenClaim) => (P.stopsHeard : Bool)) Tryz.prog 8 Tryz.f8 Rows.querySizesSpec Rows.querySizesRow = true := by kernel_rfl
theorem querySizes_fact25 : (fun (P : Program) (f : FuncId) (fn : Func) (s : ChangeSpec) (c : OpenClaim) => (P.mayEnter : Bool)) Tryz.prog 8 Tryz.f8 Rows.querySizesSpec Rows.querySizesRow = true := by kernel_rfl
theorem querySizes_fact26 : (fun (P : Program) (f : FuncId) (fn : Func) (s : ChangeSpec) (c : OpenClaim) => ((c.lifted == P.liftsFinal) : Bool)) Tryz.prog 8 Tryz.f8 Rows.querySizesSpec Rows.querySizesRow = true := by kernel_rfl
theorem querySizes_fact27 : (fun (P : Program) (f : FuncId) (fn : Func) (s : ChangeSpec) (c : OpenClaim) => ((P.make == some c.make) : Bool)) Tryz.prog 8 Tryz.f8 Rows.querySizesSpec Rows.querySizesRow = true := by kernel_rfl
theorem querySizes_fact28 : (fun (P : Program) (f : FuncId) (fn : Func) (s : ChangeSpec) (c : OpenClaim) => ((c.kinds == (if c.domain.isEmpty then [] else fn.params.toList.map fun t => match P.underlying t with | some (.int k) => some k | _ => none)) : Bool)) Tryz.prog 8 Tryz.f8 Rows.querySizesSpec Rows.querySizesRow = true := by kernel_rfl
theorem querySizes_fact29 : (fun (P : Program) (f : FuncId) (fn : Func) (s : ChangeSpec) (c : OpenClaim) => ((c.pinned == c.pinnedBy) : Bool)) Tryz.prog 8 Tryz.f8 Rows.querySizesSpec Rows.querySizesRow = true := by kernel_rfl
theorem querySizes_fact30 : (fun (P : Program) (f : FuncId) (fn : Func) (s : ChangeSpec) (c : OpenClaim) => ((c.veiled == (fn.params.toList ++ s.plain.varTypes P ++ fn.resultTypes.toList).any (P.veiledRec ·)) : Bool)) Tryz.prog 8 Tryz.f8 Rows.querySizesSpec Rows.querySizesRow = true := by kernel_rfl
theorem querySizes_fact31 : (fun (P : Program) (f : FuncId) (fn : Func) (s : ChangeSpec) (c : OpenClaim) => (c.veiledFits P fn.params.toList (fn.params.toList ++ s.plain.varTypes P ++ fn.resultTypes.toList) : Bool)) Tryz.prog 8 Tryz.f8 Rows.querySizesSpec Rows.querySizesRow = true := by kernel_rfl
set_option maxRecDepth 100000 in
theorem querySizes_joined : joinedFacts Tryz.prog 8 Tryz.f8 Rows.querySizesSpec Rows.querySizesRow = true :=
  querySizes_and (querySizes_and (querySizes_and (querySizes_and (querySizes_and (querySizes_and (querySizes_and (querySizes_and (querySizes_and (querySizes_and (querySizes_and (querySizes_and (querySizes_and (querySizes_and (querySizes_and (querySizes_and (querySizes_and (querySizes_and (querySizes_and (querySizes_and (querySizes_and (querySizes_and (querySizes_and (querySizes_and (querySizes_and (querySizes_and (querySizes_and (querySizes_and (querySizes_and (querySizes_and (querySizes_and (querySizes_fact0) querySizes_fact1) querySizes_fact2) querySizes_fact3) querySizes_fact4) querySizes_fact5) querySizes_fact6) querySizes_fact7) querySizes_fact8) querySizes_fact9) querySizes_fact10) querySizes_fact11) querySizes_fact12) querySizes_fact13) querySizes_fact14) querySizes_fact15) querySizes_fact16) querySizes_fact17) querySizes_fact18) querySizes_fact19) querySizes_fact20) querySizes_fact21) querySizes_fact22) querySizes_fact23) querySizes_fact24) querySizes_fact25) querySizes_fact26) querySizes_fact27) querySizes_fact28) querySizes_fact29) querySizes_fact30) querySizes_fact31
end Go.Proofs.YtjnkbjloabnopaaGreatDoor

/- Closed facts of the card of QuerySizes, each checked by the kernel alone. No conditions. -/
set_option maxRecDepth 100000
namespace Go.Proofs.YtjnkbjloabnopaaGreatDoor
open Go
theorem querySizes_wfText : Rows.querySizesRow.wfByText (OpenSpec.ofChange Rows.querySizesSpec) = true := by kernel_rfl
theorem querySizes_main : Tryz.prog.mainIs = some (true, "e5775eb3b770ab670d7ce22325ff37e677ca6ed29f51078c8d504c74ee3d5956".toList) := by kernel_rfl
theorem querySizes_looks : true = Tryz.prog.looks [] := by kernel_rfl
theorem querySizes_goes : false = Rows.querySizesRow.goesBy Tryz.prog := by kernel_rfl
theorem querySizes_wants : ([22].all fun u => !Tryz.prog.wantsStandIn u) = true := by kernel_rfl
theorem querySizes_named : Tryz.prog.funcNamed Rows.querySizesRow.func = some 8 := by kernel_rfl
theorem querySizes_params : Tryz.f8.params = #[22] := by kernel_rfl
theorem querySizes_inst : Tryz.f8.isInstance Tryz.prog Rows.querySizesRow.origin Rows.querySizesRow.targs := of_decide_eq_true (by kernel_rfl)
theorem querySizes_wrap : Tryz.f8.isWrapper Tryz.prog Rows.querySizesRow.wrapper Rows.querySizesRow.mainSum := by unfold Func.isWrapper; first | (rw [if_pos (by decide +kernel)]; kernel_rfl) | (rw [if_neg (by decide +kernel)]; exact ⟨rfl, rfl⟩)
end Go.Proofs.YtjnkbjloabnopaaGreatDoor

/- QuerySizes as its row and its card say it, given the contract of 'known'. -/
set_option maxRecDepth 100000
set_option linter.constructorNameAsVariable false
namespace Go.Proofs.YtjnkbjloabnopaaGreatDoor
open Go.ChangeShapes Go.WideShapes Go.ChangeAt Go.RowKit Go.Abs Go.ChangeMaps

theorem querySizes_row (K : ∀ h, ACalls Tryz.prog (fun _ => none) 16 [] h (Gives (.bool true) h)) : Rows.QuerySizesSaid :=
  OpenClaim.holds_of_wide 8 Tryz.f8 rfl rfl rfl rfl rfl rfl rfl ⟨rfl, rfl, rfl, rfl, rfl⟩ rfl rfl rfl rfl rfl querySizes_named Tryz.func8 querySizes_joined querySizes_inst querySizes_wrap
    (fun os started H enc _ => querySizes_lifted K os started H enc)

theorem querySizes_card (K : ∀ h, ACalls Tryz.prog (fun _ => none) 16 [] h (Gives (.bool true) h)) : Rows.QuerySizesCardSaid :=
  Claim7.holds_tied_plain_at .later [] [.data, .data, .data, .data, .pinned] true (true, "e5775eb3b770ab670d7ce22325ff37e677ca6ed29f51078c8d504c74ee3d5956") true (querySizes_row K) (fun _ h => by cases h) querySizes_wfText (fun _ h => by cases h) querySizes_row_tie rfl ⟨rfl, rfl⟩ querySizes_main rfl
    (fun f fn hf hfn => by
      obtain rfl : f = 8 := Option.some.inj (querySizes_named.symm.trans hf) |>.symm
      obtain rfl : fn = Tryz.f8 := (Option.some.inj (Tryz.func8.symm.trans hfn)).symm
      exact ⟨querySizes_looks, fun j t ht => by
        rw [querySizes_params] at ht
        have hm : t ∈ [22] := by simpa using Array.mem_of_getElem? ht
        exact (show Tryz.prog.wantsStandIn t = false by simpa using List.all_eq_true.1 querySizes_wants t hm)⟩)
    querySizes_goes
end Go.Proofs.YtjnkbjloabnopaaGreatDoor

/- The tied card of QuerySizes is proved: for every list of numbers the law returns true, and its argument reads as it did. Conditions: none beyond the given card's own. -/
namespace Go.Proofs.YtjnkbjloabnopaaGreatDoor
open Go.Abs

theorem querySizes_holds : Rows.QuerySizesCardSaid := querySizes_card (fun _ => c16)
#print axioms querySizes_holds
end Go.Proofs.YtjnkbjloabnopaaGreatDoor
