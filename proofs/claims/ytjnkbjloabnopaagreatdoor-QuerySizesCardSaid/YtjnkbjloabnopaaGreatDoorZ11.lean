/- The tokens of a query, in plain Lean. No program in sight; no conditions. -/
import Derived.Test.YtjnkbjloabnopaaGreatDoorZ10
namespace Go.Q

abbrev Str := List UInt8

/-- A token: kind 0 end, 1 bad, 2 name, 3 number, 4 string, 5 sign; its text; where it begins. -/
structure Tok where
  kind : Nat
  text : Str
  pos : Nat
  deriving DecidableEq

/-- The present token and where it ends. -/
abbrev S := Tok × Nat

def letter (c : UInt8) : Bool := decide (97 ≤ c.toNat) && decide (c.toNat ≤ 122) || decide (65 ≤ c.toNat) && decide (c.toNat ≤ 90) || c.toNat == 95
def digit (c : UInt8) : Bool := decide (48 ≤ c.toNat) && decide (c.toNat ≤ 57)
def isBlank (c : UInt8) : Bool := c.toNat == 32 || c.toNat == 10
def wordb (c : UInt8) : Bool := letter c || digit c || c.toNat == 45

def runEnd (p : UInt8 → Bool) (s : Str) (i : Nat) : Nat := i + ((s.drop i).takeWhile p).length

/-- A string behind its quotation mark: its value, and how many bytes it takes, the last mark among them. -/
def quo : Str → Option (Str × Nat)
  | [] => none
  | [c] => if c = 34 then some ([], 1) else none
  | c :: d :: r => if c = 34 then (if d = 34 then (quo r).map fun x => (34 :: x.1, x.2 + 2) else some ([], 1)) else (quo (d :: r)).map fun x => (c :: x.1, x.2 + 1)

def twos : List Str := [[60, 47], [33, 61], [58, 58], [37, 99]]
def ones : Str := [91, 93, 40, 41, 123, 125, 60, 62, 124, 38, 33, 61, 58, 46, 44, 63, 42, 43, 45]

/-- The sign with which a text begins. -/
def signAt (r : Str) : Option Str :=
  match twos.find? (fun x => x.isPrefixOf r) with
  | some x => some x
  | none => match r with
    | c :: _ => if ones.contains c then some [c] else none
    | [] => none

/-- The token from an offset on. -/
def lexAt (s : Str) (i : Nat) : S :=
  let j := runEnd isBlank s i
  match s.drop j with
  | [] => (⟨0, [], j⟩, j)
  | c :: r =>
    if letter c then (⟨2, (c :: r).takeWhile wordb, j⟩, runEnd wordb s j)
    else if digit c then (⟨3, (c :: r).takeWhile digit, j⟩, runEnd digit s j)
    else if c = 34 then (match quo r with
      | some (v, n) => (⟨4, v, j⟩, j + 1 + n)
      | none => (⟨1, [], j⟩, s.length))
    else match signAt (c :: r) with
      | some x => (⟨5, x, j⟩, j + x.length)
      | none => (⟨1, [], j⟩, j)

theorem runEnd_le {p : UInt8 → Bool} {s : Str} {i : Nat} (hi : i ≤ s.length) : runEnd p s i ≤ s.length := by
  unfold runEnd
  have h1 : ((s.drop i).takeWhile p).length ≤ (s.drop i).length := (List.takeWhile_prefix p).length_le
  rw [List.length_drop] at h1
  omega

theorem le_runEnd {p : UInt8 → Bool} {s : Str} {i : Nat} : i ≤ runEnd p s i := Nat.le_add_right ..

theorem runEnd_step {p : UInt8 → Bool} {s : Str} {i : Nat} (hi : i < s.length) (hp : p (s.getD i 0) = true) : runEnd p s (i + 1) = runEnd p s i := by
  unfold runEnd
  rw [List.drop_eq_getElem_cons hi]
  rw [List.getD_eq_getElem?_getD, List.getElem?_eq_getElem hi, Option.getD_some] at hp
  rw [List.takeWhile_cons, if_pos hp, List.length_cons]
  omega

theorem runEnd_stop {p : UInt8 → Bool} {s : Str} {i : Nat} (hi : i < s.length) (hp : p (s.getD i 0) = false) : runEnd p s i = i := by
  unfold runEnd
  rw [List.drop_eq_getElem_cons hi]
  rw [List.getD_eq_getElem?_getD, List.getElem?_eq_getElem hi, Option.getD_some] at hp
  rw [List.takeWhile_cons, if_neg (by simp [hp])]
  rfl

theorem runEnd_end {p : UInt8 → Bool} {s : Str} {i : Nat} (hi : s.length ≤ i) : runEnd p s i = i := by
  unfold runEnd
  rw [List.drop_eq_nil_of_le hi]
  rfl

/-- What 'quoted' returns. -/
def quoAt (s : Str) (b : Str) (i : Nat) : Option (Str × Nat) := (quo (s.drop i)).map fun x => (b ++ x.1, i + x.2)
def quoV (s : Str) (i : Nat) : Str × Int := match quoAt s [] i with
  | some (v, n) => (v, n)
  | none => ([], -1)

theorem quo_other {c : UInt8} {r : Str} (hc : c ≠ 34) : quo (c :: r) = (quo r).map fun x => (c :: x.1, x.2 + 1) := by
  cases r with
  | nil => simp [quo, hc]
  | cons d r => simp [quo, hc]

theorem getD_of {s : Str} {i : Nat} (hi : i < s.length) : s.getD i 0 = s[i] := by
  rw [List.getD_eq_getElem?_getD, List.getElem?_eq_getElem hi, Option.getD_some]

theorem quoAt_other {s b : Str} {j : Nat} (hj : j < s.length) (hc : s.getD j 0 ≠ 34) : quoAt s (b ++ [s.getD j 0]) (j + 1) = quoAt s b j := by
  rw [getD_of hj] at hc ⊢
  unfold quoAt
  rw [List.drop_eq_getElem_cons hj, quo_other hc, Option.map_map]
  congr 1
  funext x
  simp only [Function.comp, List.append_assoc, List.cons_append, List.nil_append, Prod.mk.injEq, true_and]
  omega

theorem quoAt_two {s b : Str} {j : Nat} (hj : j + 1 < s.length) (hc : s.getD j 0 = 34) (hd : s.getD (j + 1) 0 = 34) : quoAt s (b ++ [s.getD (j + 1) 0]) (j + 1 + 1) = quoAt s b j := by
  rw [getD_of (by omega)] at hc
  rw [getD_of hj] at hd ⊢
  unfold quoAt
  rw [List.drop_eq_getElem_cons (show j < s.length by omega), List.drop_eq_getElem_cons hj, hc, hd]
  simp only [quo, if_true, Option.map_map]
  congr 1
  funext x
  simp only [Function.comp, List.append_assoc, List.cons_append, List.nil_append, Prod.mk.injEq, true_and]
  omega

theorem quoAt_close {s b : Str} {j : Nat} (hj : j < s.length) (hc : s.getD j 0 = 34) (hd : j + 1 = s.length ∨ s.getD (j + 1) 0 ≠ 34) : quoAt s b j = some (b, j + 1) := by
  rw [getD_of hj] at hc
  unfold quoAt
  rw [List.drop_eq_getElem_cons hj, hc]
  by_cases hl : j + 1 < s.length
  · have hd := hd.resolve_left (by omega)
    rw [getD_of hl] at hd
    rw [List.drop_eq_getElem_cons hl]
    simp [quo, hd]
  · rw [List.drop_eq_nil_of_le (by omega)]
    simp [quo]

theorem quoAt_end {s b : Str} {j : Nat} (hj : s.length ≤ j) : quoAt s b j = none := by
  unfold quoAt
  rw [List.drop_eq_nil_of_le hj]
  rfl

/-! ### the token, case by case -/
section
variable {s : Str} {i j : Nat}

theorem takeWhile_run (p : UInt8 → Bool) : (s.drop j).takeWhile p = (s.take (runEnd p s j)).drop j := by
  unfold runEnd
  rw [List.drop_take, show j + ((s.drop j).takeWhile p).length - j = ((s.drop j).takeWhile p).length by omega]
  exact (List.prefix_iff_eq_take.1 (List.takeWhile_prefix p))

theorem lex_end (hj : j = runEnd isBlank s i) (h : j = s.length) : lexAt s i = (⟨0, [], j⟩, j) := by
  unfold lexAt
  simp only [← hj]
  rw [List.drop_eq_nil_of_le (by omega)]

theorem lex_at (hj : j = runEnd isBlank s i) (h : j < s.length) : lexAt s i =
    if letter (s.getD j 0) then (⟨2, (s.drop j).takeWhile wordb, j⟩, runEnd wordb s j)
    else if digit (s.getD j 0) then (⟨3, (s.drop j).takeWhile digit, j⟩, runEnd digit s j)
    else if s.getD j 0 = 34 then (match quo (s.drop (j + 1)) with
      | some (v, n) => (⟨4, v, j⟩, j + 1 + n)
      | none => (⟨1, [], j⟩, s.length))
    else match signAt (s.drop j) with
      | some x => (⟨5, x, j⟩, j + x.length)
      | none => (⟨1, [], j⟩, j) := by
  unfold lexAt
  simp only [← hj]
  rw [List.drop_eq_getElem_cons h, getD_of h]

theorem lex_name (hj : j = runEnd isBlank s i) (h : j < s.length) (hl : letter (s.getD j 0) = true) : lexAt s i = (⟨2, (s.take (runEnd wordb s j)).drop j, j⟩, runEnd wordb s j) := by
  rw [lex_at hj h, if_pos hl, takeWhile_run]
theorem lex_num (hj : j = runEnd isBlank s i) (h : j < s.length) (hl : letter (s.getD j 0) = false) (hd : digit (s.getD j 0) = true) : lexAt s i = (⟨3, (s.take (runEnd digit s j)).drop j, j⟩, runEnd digit s j) := by
  rw [lex_at hj h, if_neg (by rw [hl]; decide), if_pos hd, takeWhile_run]
theorem lex_str (hj : j = runEnd isBlank s i) (h : j < s.length) (hl : letter (s.getD j 0) = false) (hd : digit (s.getD j 0) = false) (hq : s.getD j 0 = 34) : lexAt s i = (match quoAt s [] (j + 1) with
      | some (v, n) => (⟨4, v, j⟩, n)
      | none => (⟨1, [], j⟩, s.length)) := by
  rw [lex_at hj h, if_neg (by rw [hl]; decide), if_neg (by rw [hd]; decide), if_pos hq]
  unfold quoAt
  cases quo (s.drop (j + 1)) with
  | none => rfl
  | some x => rfl
theorem lex_sign (hj : j = runEnd isBlank s i) (h : j < s.length) (hl : letter (s.getD j 0) = false) (hd : digit (s.getD j 0) = false) (hq : s.getD j 0 ≠ 34) : lexAt s i = (match signAt (s.drop j) with
      | some x => (⟨5, x, j⟩, j + x.length)
      | none => (⟨1, [], j⟩, j)) := by
  rw [lex_at hj h, if_neg (by rw [hl]; decide), if_neg (by rw [hd]; decide), if_neg hq]

theorem two_len {x : Str} (hx : x ∈ twos) : x.length = 2 := by
  simp only [twos, List.mem_cons, List.not_mem_nil, or_false] at hx
  rcases hx with rfl | rfl | rfl | rfl <;> rfl

theorem quoAt_le {b : Str} {v : Str} {n : Nat} (hq : quoAt s b j = some (v, n)) : n ≤ s.length := by
  unfold quoAt at hq
  obtain ⟨⟨v', k⟩, h1, h2⟩ := Option.map_eq_some_iff.1 hq
  simp only [Prod.mk.injEq] at h2
  have key : ∀ (m : Nat) (r : Str) (v : Str) (k : Nat), r.length ≤ m → quo r = some (v, k) → k ≤ r.length := by
    intro m
    induction m with
    | zero => intro r v k hr hq; obtain rfl := List.eq_nil_of_length_eq_zero (Nat.le_zero.1 hr); cases hq
    | succ m ih =>
      intro r v k hr hq
      match r, hr, hq with
      | [c], _, hq =>
        simp only [quo] at hq
        split at hq
        · injection hq with hq; simp only [Prod.mk.injEq] at hq; simp; omega
        · cases hq
      | c :: d :: r, hr, hq =>
        simp only [quo] at hq
        simp only [List.length_cons] at hr ⊢
        split at hq
        · split at hq
          · obtain ⟨⟨v2, k2⟩, h3, h4⟩ := Option.map_eq_some_iff.1 hq
            simp only [Prod.mk.injEq] at h4
            have := ih r v2 k2 (by omega) h3
            omega
          · injection hq with hq; simp only [Prod.mk.injEq] at hq; omega
        · obtain ⟨⟨v2, k2⟩, h3, h4⟩ := Option.map_eq_some_iff.1 hq
          simp only [Prod.mk.injEq] at h4
          have := ih (d :: r) v2 k2 (by simp; omega) h3
          simp at this
          omega
  by_cases hjl : j ≤ s.length
  · have := key _ (s.drop j) v' k (Nat.le_refl _) h1
    rw [List.length_drop] at this
    omega
  · rw [List.drop_eq_nil_of_le (by omega)] at h1
    cases h1
end

section
variable {s : Str} {j : Nat}
theorem sign_two {k : Nat} {x r : Str} (hx : twos[k]? = some x) (hpre : ∀ (m : Nat) (x : Str), m < k → twos[m]? = some x → x.isPrefixOf r = false) (hp : x.isPrefixOf r = true) : signAt r = some x := by
  unfold signAt
  have : twos.find? (fun x => x.isPrefixOf r) = some x := by
    rw [List.find?_eq_some_iff_getElem]
    obtain ⟨hk, hxk⟩ := List.getElem?_eq_some_iff.1 hx
    refine ⟨hp, k, hk, hxk, fun m hm => ?_⟩
    rw [hpre m _ hm (List.getElem?_eq_getElem (by omega))]
    rfl
  rw [this]
theorem sign_one (hj : j < s.length) (hno : ∀ x, x ∈ twos → x.isPrefixOf (s.drop j) = false) (hc : ones.contains (s.getD j 0) = true) : signAt (s.drop j) = some [s.getD j 0] := by
  unfold signAt
  rw [List.find?_eq_none.2 (fun x hx => by rw [hno x hx]; decide)]
  rw [getD_of hj] at hc ⊢
  rw [List.drop_eq_getElem_cons hj]
  simp only [hc, if_true]
theorem sign_none (hj : j < s.length) (hno : ∀ x, x ∈ twos → x.isPrefixOf (s.drop j) = false) (hc : ¬ ones.contains (s.getD j 0) = true) : signAt (s.drop j) = none := by
  unfold signAt
  rw [List.find?_eq_none.2 (fun x hx => by rw [hno x hx]; decide)]
  rw [getD_of hj] at hc
  rw [List.drop_eq_getElem_cons hj]
  simp only [if_neg hc]
theorem one_take (hj : j < s.length) : (s.take (j + 1)).drop j = [s.getD j 0] := by
  rw [getD_of hj, List.drop_take, show j + 1 - j = 1 by omega, List.drop_eq_getElem_cons hj]
  rfl
end

section
variable {s : Str} {i : Nat}

theorem signAt_le {r x : Str} (hx : signAt r = some x) : x.length ≤ r.length ∧ x ≠ [] := by
  unfold signAt at hx
  split at hx
  · rename_i y hy
    injection hx with hx
    subst hx
    have h1 := List.find?_some hy
    have h2 := List.mem_of_find?_eq_some hy
    exact ⟨(List.isPrefixOf_iff_prefix.1 h1).length_le, by intro h; have := two_len h2; rw [h] at this; cases this⟩
  · split at hx
    · split at hx
      · injection hx with hx; subst hx; exact ⟨by simp, by simp⟩
      · cases hx
    · cases hx

/-- A token ends within the text; the next one begins behind it; only an end and a bad one may be empty. -/
theorem lexAt_le (hi : i ≤ s.length) : (lexAt s i).2 ≤ s.length ∧ i ≤ (lexAt s i).1.pos ∧ (lexAt s i).1.pos ≤ (lexAt s i).2 ∧ (2 ≤ (lexAt s i).1.kind → (lexAt s i).1.pos < (lexAt s i).2) := by
  obtain ⟨j, hj⟩ : ∃ j, j = runEnd isBlank s i := ⟨_, rfl⟩
  have h1 : j ≤ s.length := by rw [hj]; exact runEnd_le hi
  have h2 : i ≤ j := by rw [hj]; exact le_runEnd
  by_cases he : j = s.length
  · rw [lex_end hj he]
    exact ⟨h1, h2, Nat.le_refl _, fun h => by simp at h⟩
  · have hjl : j < s.length := by omega
    have hrun : ∀ p : UInt8 → Bool, p (s.getD j 0) = true → j < runEnd p s j := fun p hp => by
      rw [← runEnd_step hjl hp]
      have := le_runEnd (p := p) (s := s) (i := j + 1)
      omega
    cases hl : letter (s.getD j 0) with
    | true =>
      rw [lex_name hj hjl hl]
      exact ⟨runEnd_le h1, h2, le_runEnd, fun _ => hrun wordb (by unfold wordb; rw [hl]; rfl)⟩
    | false =>
      cases hd : digit (s.getD j 0) with
      | true =>
        rw [lex_num hj hjl hl hd]
        exact ⟨runEnd_le h1, h2, le_runEnd, fun _ => hrun digit hd⟩
      | false =>
        by_cases hq : s.getD j 0 = 34
        · rw [lex_str hj hjl hl hd hq]
          split
          · rename_i v n hv
            have hn : j + 1 ≤ n := by
              unfold quoAt at hv
              obtain ⟨⟨v', k⟩, _, h4⟩ := Option.map_eq_some_iff.1 hv
              simp only [Prod.mk.injEq] at h4
              omega
            exact ⟨quoAt_le hv, h2, by simp only; omega, fun _ => by simp only; omega⟩
          · exact ⟨Nat.le_refl _, h2, h1, fun h => by simp at h⟩
        · rw [lex_sign hj hjl hl hd hq]
          split
          · rename_i x hx
            obtain ⟨k1, k2⟩ := signAt_le hx
            rw [List.length_drop] at k1
            have k3 : 0 < x.length := List.length_pos_iff.2 k2
            exact ⟨by simp only; omega, h2, by simp only; omega, fun _ => by simp only; omega⟩
          · exact ⟨h1, h2, Nat.le_refl _, fun h => by simp at h⟩
end

/-- A state that a reading of s comes to. -/
def V (s : Str) (st : S) : Prop := ∃ i, i ≤ s.length ∧ st = lexAt s i

section
variable {s : Str} {st : S}
theorem V.le (h : V s st) : st.2 ≤ s.length := by obtain ⟨i, hi, rfl⟩ := h; exact (lexAt_le hi).1
theorem V.pos (h : V s st) : st.1.pos ≤ st.2 := by obtain ⟨i, hi, rfl⟩ := h; exact (lexAt_le hi).2.2.1
theorem V.lt (h : V s st) (hk : 2 ≤ st.1.kind) : st.1.pos < st.2 := by obtain ⟨i, hi, rfl⟩ := h; exact (lexAt_le hi).2.2.2 hk
theorem V.next (h : V s st) : V s (lexAt s st.2) := ⟨st.2, h.le, rfl⟩

theorem signAt_kind {i : Nat} (hi : i ≤ s.length) (hk : (lexAt s i).1.kind = 3) : (∀ c, c ∈ (lexAt s i).1.text → digit c = true) ∧ (lexAt s i).1.text.length ≤ s.length := by
  obtain ⟨j, hj⟩ : ∃ j, j = runEnd isBlank s i := ⟨_, rfl⟩
  have h1 : j ≤ s.length := by rw [hj]; exact runEnd_le hi
  by_cases he : j = s.length
  · rw [lex_end hj he] at hk; simp at hk
  · have hjl : j < s.length := by omega
    cases hl : letter (s.getD j 0) with
    | true => rw [lex_name hj hjl hl] at hk; simp at hk
    | false =>
      cases hd : digit (s.getD j 0) with
      | true =>
        rw [lex_num hj hjl hl hd, ← takeWhile_run]
        refine ⟨fun c hc => ?_, ?_⟩
        · have := List.all_takeWhile (p := digit) (l := s.drop j)
          rw [List.all_eq_true] at this
          exact this c hc
        · have := (List.takeWhile_prefix digit (l := s.drop j)).length_le
          rw [List.length_drop] at this
          simp only
          omega
      | false =>
        by_cases hq : s.getD j 0 = 34
        · rw [lex_str hj hjl hl hd hq] at hk
          split at hk <;> simp at hk
        · rw [lex_sign hj hjl hl hd hq] at hk
          split at hk <;> simp at hk
theorem V.digits (h : V s st) (hk : st.1.kind = 3) : (∀ c, c ∈ st.1.text → digit c = true) ∧ st.1.text.length ≤ s.length := by obtain ⟨i, hi, rfl⟩ := h; exact signAt_kind hi hk
end

end Go.Q

/- The grammar of queries as a plain function with fuel. No program in sight; no conditions. -/
namespace Go.Q

inductive Cond where
  | mk (op : Int) (name arg value label : Str) (fold : Bool) (kids : List Cond)
inductive Pat where
  | mk (op : Int) (cond : Cond) (label region : Str) (min max : Int) (kids : List Pat)
inductive Con where
  | mk (op : Int) (a b name arg value : Str) (fold : Bool) (min max : Int) (args : List Str) (kids : List Con)
structure Flt where
  op : Int
  neg : Bool
  region : Str
structure Qry where
  pat : Pat
  glob : Con
  filters : List Flt
  strategy : Int

def Cond.zero : Cond := .mk 0 [] [] [] [] false []
def Con.zero : Con := .mk 0 [] [] [] [] [] false 0 0 [] []
def Pat.zero : Pat := .mk 0 .zero [] [] 0 0 []

/-- What a piece of reading comes to: a value and what is read next, or the place and number of the error. -/
inductive R (α : Type) where
  | ok (a : α) (st : S)
  | bad (pos : Nat) (e : Int)

def R.bind {α β : Type} : R α → (α → S → R β) → R β
  | .ok a st, f => f a st
  | .bad p e, _ => .bad p e

/-- With fuel. -/
def bindO {α β : Type} : Option (R α) → (α → S → Option (R β)) → Option (R β)
  | some (.ok a st), f => f a st
  | some (.bad p e), _ => some (.bad p e)
  | none, _ => none

theorem bind_ok {α β : Type} {a : α} {st : S} {f : α → S → R β} : (R.ok a st).bind f = f a st := rfl
theorem bind_bad {α β : Type} {p : Nat} {e : Int} {f : α → S → R β} : (R.bad (α := α) p e).bind f = .bad p e := rfl
theorem bindO_ok {α β : Type} {a : α} {st : S} {f : α → S → Option (R β)} : bindO (some (.ok a st)) f = f a st := rfl
theorem bindO_bad {α β : Type} {p : Nat} {e : Int} {f : α → S → Option (R β)} : bindO (some (R.bad (α := α) p e)) f = some (.bad p e) := rfl

section
variable (s : Str)

def nxt (st : S) : S := lexAt s st.2
def isSign (x : Str) (st : S) : Bool := st.1.kind == 5 && st.1.text == x
def isWord (l : List Str) (st : S) : Bool := st.1.kind == 2 && l.contains st.1.text

def textP (k : Nat) (st : S) : R Str := if st.1.kind = k then .ok st.1.text (nxt s st) else .bad st.1.pos 3
def mustP (x : Str) (st : S) : R Unit := if isSign x st then .ok () (nxt s st) else .bad st.1.pos 3
def foldP (st : S) : R Bool := if isSign [37, 99] st then .ok true (nxt s st) else .ok false st

def numV (t : Str) : Nat := t.foldl (fun n c => 10 * n + (c.toNat - 48)) 0
def numberP (most : Nat) (pos : Nat) (st : S) : R Int := (textP s 3 st).bind fun t st => if numV t > most then .bad pos 8 else .ok (numV t) st
def bigP (st : S) : R Int := numberP s 100000 st.1.pos st
def signedP (st : S) : R Int := if isSign [45] st then (bigP s (nxt s st)).bind fun n st => .ok (-n) st else bigP s st

def manyP (op : Int) : List Pat → Pat
  | [p] => p
  | l => .mk op .zero [] [] 0 0 l
def manyC (op : Int) : List Cond → Cond
  | [p] => p
  | l => .mk op [] [] [] [] false l
def manyG (op : Int) : List Con → Con
  | [p] => p
  | l => .mk op [] [] [] [] [] false 0 0 [] l

/-! ### conditions -/

/-- A condition without parts. -/
def atomP (st : S) : R Cond :=
  (textP s 2 st).bind fun name st =>
  if name == [105, 110] && isSign [40] st then
    (textP s 2 (nxt s st)).bind fun ty st =>
    if isSign [44] st then
      (textP s 2 (nxt s st)).bind fun arg st => (mustP s [61] st).bind fun _ st => (textP s 4 st).bind fun v st => (mustP s [41] st).bind fun _ st => .ok (.mk 5 ty arg v [] false []) st
    else (mustP s [41] st).bind fun _ st => .ok (.mk 5 ty [] [] [] false []) st
  else if isWord [[99, 111, 110, 116, 97, 105, 110, 115]] st then (textP s 4 (nxt s st)).bind fun v st => .ok (.mk 3 name [] v [] false []) st
  else if isSign [33, 61] st then (textP s 4 (nxt s st)).bind fun v st => (foldP s st).bind fun f st => .ok (.mk 6 [] [] [] [] false [.mk 2 name [] v [] f []]) st
  else (mustP s [61] st).bind fun _ st =>
    if st.1.kind = 2 then (textP s 2 st).bind fun l st => (mustP s [46] st).bind fun _ st => (textP s 2 st).bind fun arg st => .ok (.mk 4 name arg [] l false []) st
    else (textP s 4 st).bind fun v st => (foldP s st).bind fun f st => .ok (.mk 2 name [] v [] f []) st

mutual
def orP : Nat → S → Option (R Cond)
  | 0, _ => none
  | n + 1, st => bindO (andP n st) fun a st => orL n [a] st
def orL : Nat → List Cond → S → Option (R Cond)
  | 0, _, _ => none
  | n + 1, l, st => if isSign [124] st then bindO (andP n (nxt s st)) fun a st => orL n (l ++ [a]) st else some (.ok (manyC 8 l) st)
def andP : Nat → S → Option (R Cond)
  | 0, _ => none
  | n + 1, st => bindO (notP n st) fun a st => andL n [a] st
def andL : Nat → List Cond → S → Option (R Cond)
  | 0, _, _ => none
  | n + 1, l, st => if isSign [38] st then bindO (notP n (nxt s st)) fun a st => andL n (l ++ [a]) st else some (.ok (manyC 7 l) st)
def notP : Nat → S → Option (R Cond)
  | 0, _ => none
  | n + 1, st =>
    if isSign [33] st then bindO (notP n (nxt s st)) fun a st => some (.ok (.mk 6 [] [] [] [] false [a]) st)
    else if isSign [40] st then bindO (orP n (nxt s st)) fun a st => some ((mustP s [41] st).bind fun _ st => .ok a st)
    else some (atomP s st)
end

/-! ### patterns -/

def tails : List Str := [[119, 105, 116, 104, 105, 110], [99, 111, 110, 116, 97, 105, 110, 105, 110, 103], [111, 118, 101, 114, 108, 97, 112, 112, 105, 110, 103], [115, 116, 114, 97, 116, 101, 103, 121]]

def beginsP (inner : Bool) (st : S) : Bool :=
  if st.1.kind = 4 then true
  else if st.1.kind = 2 then inner || !isWord tails st || isSign [58] (nxt s st)
  else isSign [91] st || isSign [60] st || isSign [60, 47] st || isSign [40] st

def tokenP (n : Nat) (label : Str) (st : S) : Option (R Pat) :=
  if isSign [91] st then
    if isSign [93] (nxt s st) then some ((mustP s [93] (nxt s st)).bind fun _ st => .ok (.mk 1 (.mk 1 [] [] [] [] false []) label [] 0 0 []) st)
    else bindO (orP s n (nxt s st)) fun c st => some ((mustP s [93] st).bind fun _ st => .ok (.mk 1 c label [] 0 0 []) st)
  else some ((textP s 4 st).bind fun v st => (foldP s st).bind fun f st => .ok (.mk 1 (.mk 2 [] [] v [] f []) label [] 0 0 []) st)

/-- The suffix of a repetition, if there is one. -/
def suffixP (st : S) : Option (R (Int × Int)) :=
  if isSign [63] st then some (.ok (0, 1) (nxt s st))
  else if isSign [42] st then some (.ok (0, -1) (nxt s st))
  else if isSign [43] st then some (.ok (1, -1) (nxt s st))
  else if isSign [123] st then some ((numberP s 16 st.1.pos (nxt s st)).bind fun lo st1 =>
    if isSign [44] st1 then
      if isSign [125] (nxt s st1) then (mustP s [125] (nxt s st1)).bind fun _ st2 => .ok (lo, -1) st2
      else (numberP s 16 st.1.pos (nxt s st1)).bind fun hi st2 => if hi < lo then .bad st.1.pos 8 else (mustP s [125] st2).bind fun _ st3 => .ok (lo, hi) st3
    else (mustP s [125] st1).bind fun _ st2 => .ok (lo, lo) st2)
  else none

mutual
def altP : Nat → Bool → S → Option (R Pat)
  | 0, _, _ => none
  | n + 1, inner, st => bindO (seqP n inner st) fun a st => altL n inner [a] st
def altL : Nat → Bool → List Pat → S → Option (R Pat)
  | 0, _, _, _ => none
  | n + 1, inner, l, st => if isSign [124] st then bindO (seqP n inner (nxt s st)) fun a st => altL n inner (l ++ [a]) st else some (.ok (manyP 5 l) st)
def seqP : Nat → Bool → S → Option (R Pat)
  | 0, _, _ => none
  | n + 1, inner, st => bindO (repP n st) fun a st => seqL n inner [a] st
def seqL : Nat → Bool → List Pat → S → Option (R Pat)
  | 0, _, _, _ => none
  | n + 1, inner, l, st => if beginsP s inner st then bindO (repP n st) fun a st => seqL n inner (l ++ [a]) st else some (.ok (manyP 4 l) st)
def repP : Nat → S → Option (R Pat)
  | 0, _ => none
  | n + 1, st => bindO (itemP n st) fun a st => repL n a st
def repL : Nat → Pat → S → Option (R Pat)
  | 0, _, _ => none
  | n + 1, p, st => match suffixP s st with
    | none => some (.ok p st)
    | some (.bad q e) => some (.bad q e)
    | some (.ok (lo, hi) st) => repL n (.mk 6 .zero [] [] lo hi [p]) st
def itemP : Nat → S → Option (R Pat)
  | 0, _ => none
  | n + 1, st =>
    if isSign [60] st then some ((textP s 2 (nxt s st)).bind fun r st => (mustP s [62] st).bind fun _ st => .ok (.mk 2 .zero [] r 0 0 []) st)
    else if isSign [60, 47] st then some ((textP s 2 (nxt s st)).bind fun r st => (mustP s [62] st).bind fun _ st => .ok (.mk 3 .zero [] r 0 0 []) st)
    else if isSign [40] st then bindO (altP n true (nxt s st)) fun a st => some ((mustP s [41] st).bind fun _ st => .ok a st)
    else if st.1.kind = 2 then bindO (some ((textP s 2 st).bind fun l st => (mustP s [58] st).bind fun _ st => .ok l st)) fun l st => tokenP s n l st
    else tokenP s n [] st
end

/-! ### constraints -/

/-- The number of a function of constraints; 0 if there is none. -/
def funcOp (x : Str) : Int :=
  if x = [98, 111, 117, 110, 100] then 1 else if x = [100, 105, 115, 116, 97, 110, 99, 101] then 4 else if x = [115, 97, 109, 101] then 5 else if x = [104, 101, 97, 100] then 6
  else if x = [97, 110, 99, 101, 115, 116, 111, 114] then 7 else if x = [112, 97, 116, 104] then 8 else if x = [110, 111, 100, 101] then 9 else if x = [100, 101, 112, 116, 104] then 10 else 0

/-- The strings of a path. -/
def argsL : Nat → List Str → S → Option (R (List Str))
  | 0, _, _ => none
  | n + 1, l, st => if isSign [44] st then bindO (some (textP s 4 (nxt s st))) fun a st => argsL n (l ++ [a]) st else some (.ok l st)

def commaP (st : S) : R Str := (mustP s [44] st).bind fun _ st => textP s 2 st

/-- The arguments of a function behind the first. -/
def argsP (n : Nat) (op : Int) (a : Str) (st : S) : Option (R Con) :=
  if op = 1 then some (.ok (.mk op a [] [] [] [] false 0 0 [] []) st)
  else if op = 10 then some ((mustP s [44] st).bind fun _ st => (bigP s st).bind fun lo st => (mustP s [44] st).bind fun _ st => (bigP s st).bind fun hi st => .ok (.mk op a [] [] [] [] false lo hi [] []) st)
  else bindO (some (commaP s st)) fun b st =>
    if op = 4 then some ((mustP s [44] st).bind fun _ st => (signedP s st).bind fun lo st => (mustP s [44] st).bind fun _ st => (signedP s st).bind fun hi st => .ok (.mk op a b [] [] [] false lo hi [] []) st)
    else if op = 5 ∨ op = 9 then some ((commaP s st).bind fun name st => .ok (.mk op a b name [] [] false 0 0 [] []) st)
    else if op = 8 then bindO (argsL s n [] st) fun l st => some (.ok (.mk op a b [] [] [] false 0 0 l []) st)
    else some (.ok (.mk op a b [] [] [] false 0 0 [] []) st)

def gatomP (n : Nat) (st : S) : Option (R Con) :=
  bindO (some (textP s 2 st)) fun name st =>
  if 0 < funcOp name ∧ isSign [40] st = true then
    bindO (some (textP s 2 (nxt s st))) fun a st => bindO (argsP s n (funcOp name) a st) fun g st => some ((mustP s [41] st).bind fun _ st => .ok g st)
  else some ((mustP s [46] st).bind fun _ st => (textP s 2 st).bind fun at1 st => (mustP s [61] st).bind fun _ st =>
    if st.1.kind = 2 then (textP s 2 st).bind fun b st => (mustP s [46] st).bind fun _ st => (textP s 2 st).bind fun arg st => .ok (.mk 3 name b at1 arg [] false 0 0 [] []) st
    else (textP s 4 st).bind fun v st => (foldP s st).bind fun f st => .ok (.mk 2 name [] at1 [] v f 0 0 [] []) st)

mutual
def gorP : Nat → S → Option (R Con)
  | 0, _ => none
  | n + 1, st => bindO (gandP n st) fun a st => gorL n [a] st
def gorL : Nat → List Con → S → Option (R Con)
  | 0, _, _ => none
  | n + 1, l, st => if isSign [124] st then bindO (gandP n (nxt s st)) fun a st => gorL n (l ++ [a]) st else some (.ok (manyG 13 l) st)
def gandP : Nat → S → Option (R Con)
  | 0, _ => none
  | n + 1, st => bindO (gnotP n st) fun a st => gandL n [a] st
def gandL : Nat → List Con → S → Option (R Con)
  | 0, _, _ => none
  | n + 1, l, st => if isSign [38] st then bindO (gnotP n (nxt s st)) fun a st => gandL n (l ++ [a]) st else some (.ok (manyG 12 l) st)
def gnotP : Nat → S → Option (R Con)
  | 0, _ => none
  | n + 1, st =>
    if isSign [33] st then bindO (gnotP n (nxt s st)) fun a st => some (.ok (.mk 11 [] [] [] [] [] false 0 0 [] [a]) st)
    else if isSign [40] st then bindO (gorP n (nxt s st)) fun a st => some ((mustP s [41] st).bind fun _ st => .ok a st)
    else gatomP s n st
end

/-! ### queries -/

def filterWords : List Str := [[], [119, 105, 116, 104, 105, 110], [99, 111, 110, 116, 97, 105, 110, 105, 110, 103], [111, 118, 101, 114, 108, 97, 112, 112, 105, 110, 103]]
def strategyWords : List Str := [[101, 97, 99, 104], [115, 104, 111, 114, 116, 101, 115, 116], [108, 111, 110, 103, 101, 115, 116], [116, 114, 97, 100, 105, 116, 105, 111, 110, 97, 108]]

/-- The number of a word in a list. -/
def wordNo (l : List Str) (x : Str) : Int := match l.findIdx? (· == x) with
  | some i => i
  | none => -1

def filtersL : Nat → List Flt → S → Option (R (List Flt))
  | 0, _, _ => none
  | n + 1, l, st =>
    if isSign [33] st || isWord filterWords st then
      let neg := isSign [33] st
      let st := if isSign [33] st then nxt s st else st
      if st.1.kind ≠ 2 ∨ wordNo filterWords st.1.text < 1 then some (.bad st.1.pos 3)
      else bindO (some (textP s 2 (nxt s st))) fun r st1 => filtersL n (l ++ [⟨wordNo filterWords st.1.text, neg, r⟩]) st1
    else some (.ok l st)

def strategyP (st : S) : R Int :=
  if isWord [[115, 116, 114, 97, 116, 101, 103, 121]] st then
    if isWord strategyWords (nxt s st) then .ok (wordNo strategyWords (nxt s st).1.text) (nxt s (nxt s st)) else .bad (nxt s st).1.pos 3
  else .ok 0 st

def queryP (n : Nat) : Option (R Qry) :=
  bindO (altP s n false (lexAt s 0)) fun p st =>
  bindO (if isSign [58, 58] st then gorP s n (nxt s st) else some (.ok Con.zero st)) fun g st =>
  bindO (filtersL s n [] st) fun fs st =>
  bindO (some (strategyP s st)) fun k st =>
  if st.1.kind = 0 then some (.ok ⟨p, g, fs, k⟩ st) else some (.bad st.1.pos 3)
end

/-! ### numbers -/

theorem numV_append (a b : Str) : numV (a ++ b) = b.foldl (fun n c => 10 * n + (c.toNat - 48)) (numV a) := by
  unfold numV
  rw [List.foldl_append]
theorem numV_snoc (a : Str) (c : UInt8) : numV (a ++ [c]) = 10 * numV a + (c.toNat - 48) := by rw [numV_append]; rfl
theorem foldl_ge (b : Str) : ∀ n, n ≤ b.foldl (fun n c => 10 * n + (c.toNat - 48)) n := by
  induction b with
  | nil => exact fun n => Nat.le_refl _
  | cons c b ih => intro n; rw [List.foldl_cons]; have := ih (10 * n + (c.toNat - 48)); omega
theorem numV_take (t : Str) (i : Nat) : numV (t.take i) ≤ numV t := by
  have h := numV_append (t.take i) (t.drop i)
  rw [List.take_append_drop] at h
  rw [h]
  exact foldl_ge _ _
theorem numV_zeros (t : Str) : numV (t.dropWhile (· == 48)) = numV t := by
  induction t with
  | nil => rfl
  | cons c t ih =>
    by_cases hc : c = 48
    · subst hc
      rw [List.dropWhile_cons, if_pos (by simp), ih]
      unfold numV
      rw [List.foldl_cons]
      rfl
    · rw [List.dropWhile_cons, if_neg (by simp [hc])]
theorem take_snoc {t : Str} {i : Nat} (hi : i < t.length) : t.take (i + 1) = t.take i ++ [t.getD i 0] := by
  rw [List.take_add_one, List.getElem?_eq_getElem hi, getD_of hi]; rfl

end Go.Q

/- The reference's reader of queries as plain functions: a place in the list of tokens, and the first error. No program in sight; no conditions. -/
namespace Go.Q

/-- A place in the list L, and the first error (0: none) with its offset. -/
structure PS (L : List Tok) where
  k : Nat
  hk : k < L.length
  e : Int
  f : Int

section
variable {L : List Tok}

def adv (σ : PS L) : PS L := if h : σ.k + 1 < L.length then ⟨σ.k + 1, h, σ.e, σ.f⟩ else σ
def now (σ : PS L) : Tok := L[σ.k]'σ.hk
def next (σ : PS L) : Tok := L[min (σ.k + 1) (L.length - 1)]'(by have := σ.hk; omega)
def err (x pos : Int) (σ : PS L) : PS L := if σ.e = 0 then ⟨σ.k, σ.hk, x, pos⟩ else σ
def wrong (σ : PS L) : PS L := err 3 (now σ).pos σ
def kind (k : Nat) (σ : PS L) : Bool := σ.e == 0 && (now σ).kind == k
def is (k : Nat) (x : Str) (σ : PS L) : Bool := σ.e == 0 && (now σ).kind == k && (now σ).text == x
def eat (x : Str) (σ : PS L) : PS L := if is 111 x σ then adv σ else σ
def want (k : Nat) (x : Str) (σ : PS L) : Str × PS L := if σ.e ≠ 0 then ([], σ) else if (now σ).kind ≠ k ∨ (k = 111 ∧ (now σ).text ≠ x) then ([], wrong σ) else ((now σ).text, adv σ)

def pb {α β : Type} (x : α × PS L) (f : α → PS L → β) : β := f x.1 x.2
theorem pb_mk {α β : Type} {a : α} {σ : PS L} {f : α → PS L → β} : pb (a, σ) f = f a σ := rfl
def pbO {α β : Type} : Option (α × PS L) → (α → PS L → Option β) → Option β
  | some (a, σ), f => f a σ
  | none, _ => none
theorem pbO_some {α β : Type} {a : α} {σ : PS L} {f : α → PS L → Option β} : pbO (some (a, σ)) f = f a σ := rfl

def capV (s : Str) : Int := s.foldl (fun n c => min (10 * n + ((c.toNat : Int) - 48)) 1000000) 0
def number (lim pos : Int) (σ : PS L) : Int × PS L := pb (want 100 [] σ) fun s σ => (capV s, if capV s > lim then err 8 pos σ else σ)
def signed (σ : PS L) : Int × PS L :=
  if is 111 [45] σ then pb (number 100000 (now (adv σ)).pos (adv σ)) fun n σ => (-n, σ) else number 100000 (now σ).pos σ
def foldR (σ : PS L) : Bool × PS L := (is 111 [37, 99] σ, eat [37, 99] σ)

/-! ### conditions -/

def rAtom (σ : PS L) : Cond × PS L :=
  pb (want 110 [] σ) fun name σ =>
  if name == [105, 110] && is 111 [40] σ then
    pb (want 110 [] (adv σ)) fun ty σ =>
    if is 111 [44] σ then
      pb (want 110 [] (adv σ)) fun arg σ => pb (want 111 [61] σ) fun _ σ => pb (want 115 [] σ) fun v σ => pb (want 111 [41] σ) fun _ σ => (.mk 5 ty arg v [] false [], σ)
    else pb (want 111 [41] σ) fun _ σ => (.mk 5 ty [] [] [] false [], σ)
  else if is 111 [33, 61] σ then pb (want 115 [] (adv σ)) fun v σ => pb (foldR σ) fun f σ => (.mk 6 [] [] [] [] false [.mk 2 name [] v [] f []], σ)
  else if is 110 [99, 111, 110, 116, 97, 105, 110, 115] σ then pb (want 115 [] (adv σ)) fun v σ => (.mk 3 name [] v [] false [], σ)
  else pb (want 111 [61] σ) fun _ σ =>
    if kind 110 σ then pb (want 110 [] σ) fun l σ => pb (want 111 [46] σ) fun _ σ => pb (want 110 [] σ) fun arg σ => (.mk 4 name arg [] l false [], σ)
    else pb (want 115 [] σ) fun v σ => pb (foldR σ) fun f σ => (.mk 2 name [] v [] f [], σ)

mutual
def rOr : Nat → PS L → Option (Cond × PS L)
  | 0, _ => none
  | n + 1, σ => pbO (rAnd n σ) fun a σ => rOrL n [a] σ
def rOrL : Nat → List Cond → PS L → Option (Cond × PS L)
  | 0, _, _ => none
  | n + 1, l, σ => if is 111 [124] σ then pbO (rAnd n (adv σ)) fun a σ => rOrL n (l ++ [a]) σ else some (manyC 8 l, σ)
def rAnd : Nat → PS L → Option (Cond × PS L)
  | 0, _ => none
  | n + 1, σ => pbO (rNot n σ) fun a σ => rAndL n [a] σ
def rAndL : Nat → List Cond → PS L → Option (Cond × PS L)
  | 0, _, _ => none
  | n + 1, l, σ => if is 111 [38] σ then pbO (rNot n (adv σ)) fun a σ => rAndL n (l ++ [a]) σ else some (manyC 7 l, σ)
def rNot : Nat → PS L → Option (Cond × PS L)
  | 0, _ => none
  | n + 1, σ =>
    if is 111 [33] σ then pbO (rNot n (adv σ)) fun a σ => some (.mk 6 [] [] [] [] false [a], σ)
    else if is 111 [40] σ then pbO (rOr n (adv σ)) fun a σ => pb (want 111 [41] σ) fun _ σ => some (a, σ)
    else some (rAtom σ)
end

/-! ### patterns -/

def tail (σ : PS L) : Bool := (now σ).text == [115, 116, 114, 97, 116, 101, 103, 121] || (now σ).text == [119, 105, 116, 104, 105, 110] || (now σ).text == [99, 111, 110, 116, 97, 105, 110, 105, 110, 103] || (now σ).text == [111, 118, 101, 114, 108, 97, 112, 112, 105, 110, 103]

def rBegins (d : Int) (σ : PS L) : Bool :=
  if σ.e ≠ 0 then false
  else if (now σ).kind = 110 then (if (next σ).kind = 111 ∧ (next σ).text = [58] then true else decide (0 < d) || !tail σ)
  else (now σ).kind == 115 || ((now σ).kind == 111 && ((now σ).text == [91] || (now σ).text == [60] || (now σ).text == [60, 47] || (now σ).text == [40]))

def rToken (n : Nat) (label : Str) (σ : PS L) : Option (Pat × PS L) :=
  if kind 115 σ then some (pb (want 115 [] σ) fun v σ => pb (foldR σ) fun f σ => (.mk 1 (.mk 2 [] [] v [] f []) label [] 0 0 [], σ))
  else pb (want 111 [91] σ) fun _ σ =>
    if is 111 [93] σ then some (.mk 1 (.mk 1 [] [] [] [] false []) label [] 0 0 [], adv σ)
    else pbO (rOr n σ) fun c σ => pb (want 111 [93] σ) fun _ σ => some (.mk 1 c label [] 0 0 [], σ)

def rSuffix (σ : PS L) : Option ((Int × Int) × PS L) :=
  if is 111 [63] σ then some ((0, 1), adv σ)
  else if is 111 [42] σ then some ((0, -1), adv σ)
  else if is 111 [43] σ then some ((1, -1), adv σ)
  else if is 111 [123] σ then
    some (pb (number 16 (now σ).pos (adv σ)) fun lo σ1 =>
      if is 111 [44] σ1 then
        if kind 100 (adv σ1) then pb (number 16 (now σ).pos (adv σ1)) fun hi σ2 => pb (want 111 [125] (if hi < lo then err 8 (now σ).pos σ2 else σ2)) fun _ σ3 => ((lo, hi), σ3)
        else pb (want 111 [125] (adv σ1)) fun _ σ3 => ((lo, -1), σ3)
      else pb (want 111 [125] σ1) fun _ σ3 => ((lo, lo), σ3))
  else none

def rLabel (σ : PS L) : Str × PS L := if kind 110 σ then pb (want 110 [] σ) fun l σ => pb (want 111 [58] σ) fun _ σ => (l, σ) else ([], σ)

mutual
def rAlt : Nat → Int → PS L → Option (Pat × PS L)
  | 0, _, _ => none
  | n + 1, d, σ => pbO (rSeq n d σ) fun a σ => rAltL n d [a] σ
def rAltL : Nat → Int → List Pat → PS L → Option (Pat × PS L)
  | 0, _, _, _ => none
  | n + 1, d, l, σ => if is 111 [124] σ then pbO (rSeq n d (adv σ)) fun a σ => rAltL n d (l ++ [a]) σ else some (manyP 5 l, σ)
def rSeq : Nat → Int → PS L → Option (Pat × PS L)
  | 0, _, _ => none
  | n + 1, d, σ => pbO (rRep n d σ) fun a σ => rSeqL n d [a] σ
def rSeqL : Nat → Int → List Pat → PS L → Option (Pat × PS L)
  | 0, _, _, _ => none
  | n + 1, d, l, σ => if rBegins d σ then pbO (rRep n d σ) fun a σ => rSeqL n d (l ++ [a]) σ else some (manyP 4 l, σ)
def rRep : Nat → Int → PS L → Option (Pat × PS L)
  | 0, _, _ => none
  | n + 1, d, σ => pbO (rItem n d σ) fun a σ => rRepL n a σ
def rRepL : Nat → Pat → PS L → Option (Pat × PS L)
  | 0, _, _ => none
  | n + 1, p, σ => if σ.e = 0 then (match rSuffix σ with
      | none => some (p, σ)
      | some (q, σ) => rRepL n (.mk 6 .zero [] [] q.1 q.2 [p]) σ) else some (p, σ)
def rItem : Nat → Int → PS L → Option (Pat × PS L)
  | 0, _, _ => none
  | n + 1, d, σ =>
    if is 111 [40] σ then pbO (rAlt n (d + 1) (adv σ)) fun a σ => pb (want 111 [41] σ) fun _ σ => some (a, σ)
    else if is 111 [60] σ then some (pb (want 110 [] (adv σ)) fun r σ => pb (want 111 [62] σ) fun _ σ => (.mk 2 .zero [] r 0 0 [], σ))
    else if is 111 [60, 47] σ then some (pb (want 110 [] (adv σ)) fun r σ => pb (want 111 [62] σ) fun _ σ => (.mk 3 .zero [] r 0 0 [], σ))
    else pb (rLabel σ) fun l σ => rToken n l σ
end

/-! ### constraints -/

def rArgs : Nat → List Str → PS L → Option (List Str × PS L)
  | 0, _, _ => none
  | n + 1, l, σ => if is 111 [44] σ then pb (want 115 [] (adv σ)) fun a σ => rArgs n (l ++ [a]) σ else some (l, σ)

def rSecond (op : Int) (σ : PS L) : Str × PS L := if op ≠ 1 ∧ op ≠ 10 then pb (want 111 [44] σ) fun _ σ => want 110 [] σ else ([], σ)

def rCall3 (n : Nat) (op : Int) (a b : Str) (σ : PS L) : Option (Con × PS L) :=
  if op = 4 then pb (want 111 [44] σ) fun _ σ => pb (signed σ) fun lo σ => pb (want 111 [44] σ) fun _ σ => pb (signed σ) fun hi σ => pb (want 111 [41] σ) fun _ σ => some (.mk op a b [] [] [] false lo hi [] [], σ)
  else if op = 10 then pb (want 111 [44] σ) fun _ σ => pb (number 100000 (now σ).pos σ) fun lo σ => pb (want 111 [44] σ) fun _ σ => pb (number 100000 (now σ).pos σ) fun hi σ => pb (want 111 [41] σ) fun _ σ => some (.mk op a b [] [] [] false lo hi [] [], σ)
  else if op = 5 ∨ op = 9 then pb (want 111 [44] σ) fun _ σ => pb (want 110 [] σ) fun name σ => pb (want 111 [41] σ) fun _ σ => some (.mk op a b name [] [] false 0 0 [] [], σ)
  else if op = 8 then pbO (rArgs n [] σ) fun l σ => pb (want 111 [41] σ) fun _ σ => some (.mk op a b [] [] [] false 0 0 l [], σ)
  else pb (want 111 [41] σ) fun _ σ => some (.mk op a b [] [] [] false 0 0 [] [], σ)
def rCall (n : Nat) (op : Int) (σ : PS L) : Option (Con × PS L) :=
  pb (want 110 [] σ) fun a σ => pb (rSecond op σ) fun b σ => rCall3 n op a b σ

def rGatom (n : Nat) (σ : PS L) : Option (Con × PS L) :=
  pb (want 110 [] σ) fun name σ =>
  if 0 < funcOp name ∧ is 111 [40] σ = true then rCall n (funcOp name) (adv σ)
  else pb (want 111 [46] σ) fun _ σ => pb (want 110 [] σ) fun nm σ => pb (want 111 [61] σ) fun _ σ =>
    if kind 110 σ then pb (want 110 [] σ) fun b σ => pb (want 111 [46] σ) fun _ σ => pb (want 110 [] σ) fun arg σ => some (.mk 3 name b nm arg [] false 0 0 [] [], σ)
    else pb (want 115 [] σ) fun v σ => pb (foldR σ) fun f σ => some (.mk 2 name [] nm [] v f 0 0 [] [], σ)

mutual
def rGor : Nat → PS L → Option (Con × PS L)
  | 0, _ => none
  | n + 1, σ => pbO (rGand n σ) fun a σ => rGorL n [a] σ
def rGorL : Nat → List Con → PS L → Option (Con × PS L)
  | 0, _, _ => none
  | n + 1, l, σ => if is 111 [124] σ then pbO (rGand n (adv σ)) fun a σ => rGorL n (l ++ [a]) σ else some (manyG 13 l, σ)
def rGand : Nat → PS L → Option (Con × PS L)
  | 0, _ => none
  | n + 1, σ => pbO (rGnot n σ) fun a σ => rGandL n [a] σ
def rGandL : Nat → List Con → PS L → Option (Con × PS L)
  | 0, _, _ => none
  | n + 1, l, σ => if is 111 [38] σ then pbO (rGnot n (adv σ)) fun a σ => rGandL n (l ++ [a]) σ else some (manyG 12 l, σ)
def rGnot : Nat → PS L → Option (Con × PS L)
  | 0, _ => none
  | n + 1, σ =>
    if is 111 [33] σ then pbO (rGnot n (adv σ)) fun a σ => some (.mk 11 [] [] [] [] [] false 0 0 [] [a], σ)
    else if is 111 [40] σ then pbO (rGor n (adv σ)) fun a σ => pb (want 111 [41] σ) fun _ σ => some (a, σ)
    else rGatom n σ
end

/-! ### queries -/

def wordFrom (l : List Str) (σ : PS L) : Nat → Nat → Int
  | _, 0 => -1
  | i, m + 1 => if is 110 (l.getD i []) σ then i else wordFrom l σ (i + 1) m
/-- The number of the present name in a list, from an index on, or -1. -/
def wordR (l : List Str) (first : Nat) (σ : PS L) : Int := wordFrom l σ first (l.length - first)

def rFilters : Nat → List Flt → PS L → Option (List Flt × PS L)
  | 0, _, _ => none
  | n + 1, l, σ =>
    if σ.e = 0 then
      (if wordR filterWords 1 (eat [33] σ) = -1 then some (l, if is 111 [33] σ then wrong (eat [33] σ) else eat [33] σ)
      else pb (want 110 [] (adv (eat [33] σ))) fun r σ1 => rFilters n (l ++ [⟨wordR filterWords 1 (eat [33] σ), is 111 [33] σ, r⟩]) σ1)
    else some (l, σ)

def rStrategy (σ : PS L) : Int × PS L :=
  if is 110 [115, 116, 114, 97, 116, 101, 103, 121] σ then
    (wordR strategyWords 0 (adv σ), if wordR strategyWords 0 (adv σ) = -1 then wrong (adv σ) else adv (adv σ))
  else (0, σ)

def rQuery (n : Nat) (σ : PS L) : Option (Qry × PS L) :=
  pbO (rAlt n 0 σ) fun p σ =>
  pbO (if is 111 [58, 58] σ then rGor n (adv σ) else some (Con.zero, σ)) fun g σ =>
  pbO (rFilters n [] σ) fun fs σ =>
  pb (rStrategy σ) fun k σ =>
  some (⟨p, g, fs, k⟩, if σ.e = 0 ∧ (now σ).kind ≠ 101 then wrong σ else σ)

end

/-! ### the tokens of a text -/

def mapK : Nat → Nat
  | 0 => 101
  | 1 => 120
  | 2 => 110
  | 3 => 100
  | 4 => 115
  | 5 => 111
  | _ => 0

def conv (t : Tok) : Tok := ⟨mapK t.kind, t.text, t.pos⟩

/-- What is read behind k tokens. -/
def stAt (s : Str) : Nat → S
  | 0 => lexAt s 0
  | k + 1 => lexAt s (stAt s k).2

/-- L is the list of the tokens of s. -/
def IsToks (s : Str) (L : List Tok) : Prop := ∃ K, (stAt s K).1.kind ≤ 1 ∧ (∀ i, i < K → 2 ≤ (stAt s i).1.kind) ∧ L = (List.range (K + 1)).map fun i => conv (stAt s i).1

/-- Same place, no error. -/
def RelS (s : Str) {L : List Tok} (st : S) (σ : PS L) : Prop := σ.e = 0 ∧ stAt s σ.k = st

/-- Same outcome. -/
def RelR {α : Type} (s : Str) {L : List Tok} (r : R α) (x : α × PS L) : Prop := match r with
  | .ok a st => x.1 = a ∧ RelS s st x.2
  | .bad p e => e ≠ 0 ∧ x.2.e = e ∧ x.2.f = p
def RelU {α β : Type} (s : Str) {L : List Tok} (r : R α) (x : β × PS L) : Prop := match r with
  | .ok _ st => RelS s st x.2
  | .bad p e => e ≠ 0 ∧ x.2.e = e ∧ x.2.f = p
def RelO {α : Type} (s : Str) {L : List Tok} (ro : Option (R α)) (xo : Option (α × PS L)) : Prop := ∀ r, ro = some r → ∃ x, xo = some x ∧ RelR s r x

section
variable {s : Str} {L : List Tok} {st : S} {σ : PS L}

theorem mapK_eq {a b : Nat} (ha : a ≤ 5) (h : mapK b = mapK a) : a = b := by
  match b with
  | 0 => match a, ha with | 0, _ => rfl | 1, _ => cases h | 2, _ => cases h | 3, _ => cases h | 4, _ => cases h | 5, _ => cases h
  | 1 => match a, ha with | 0, _ => cases h | 1, _ => rfl | 2, _ => cases h | 3, _ => cases h | 4, _ => cases h | 5, _ => cases h
  | 2 => match a, ha with | 0, _ => cases h | 1, _ => cases h | 2, _ => rfl | 3, _ => cases h | 4, _ => cases h | 5, _ => cases h
  | 3 => match a, ha with | 0, _ => cases h | 1, _ => cases h | 2, _ => cases h | 3, _ => rfl | 4, _ => cases h | 5, _ => cases h
  | 4 => match a, ha with | 0, _ => cases h | 1, _ => cases h | 2, _ => cases h | 3, _ => cases h | 4, _ => rfl | 5, _ => cases h
  | 5 => match a, ha with | 0, _ => cases h | 1, _ => cases h | 2, _ => cases h | 3, _ => cases h | 4, _ => cases h | 5, _ => rfl
  | b + 6 => match a, ha with | 0, _ => cases h | 1, _ => cases h | 2, _ => cases h | 3, _ => cases h | 4, _ => cases h | 5, _ => cases h

variable (hL : IsToks s L)
include hL

theorem now_rel (h : RelS s st σ) : now σ = conv st.1 := by
  obtain ⟨K, h1, h2, rfl⟩ := hL
  obtain ⟨_, rfl⟩ := h
  unfold now
  simp

theorem last_rel (h : RelS s st σ) (hk : 2 ≤ st.1.kind) : σ.k + 1 < L.length := by
  obtain ⟨K, h1, h2, rfl⟩ := hL
  obtain ⟨_, rfl⟩ := h
  have := σ.hk
  simp only [List.length_map, List.length_range] at this ⊢
  by_cases h3 : σ.k = K
  · rw [h3] at hk; omega
  · omega

theorem adv_rel (h : RelS s st σ) (hk : 2 ≤ st.1.kind) : RelS s (nxt s st) (adv σ) := by
  have := last_rel hL h hk
  obtain ⟨h1, rfl⟩ := h
  unfold adv
  rw [dif_pos this]
  exact ⟨h1, rfl⟩

theorem next_rel (h : RelS s st σ) (hk : 2 ≤ st.1.kind) : next σ = conv (nxt s st).1 := by
  have h1 := last_rel hL h hk
  have h2 := now_rel hL (adv_rel hL h hk)
  rw [← h2]
  unfold next now adv
  simp only [dif_pos h1]
  congr 1
  omega

theorem kind_rel (h : RelS s st σ) {a : Nat} (ha : a ≤ 5) : kind (mapK a) σ = (st.1.kind == a) := by
  unfold kind
  rw [now_rel hL h, h.1]
  rw [show ((0 : Int) == 0) = true from rfl, Bool.true_and, Bool.eq_iff_iff, beq_iff_eq, beq_iff_eq]
  exact ⟨fun h => (mapK_eq ha h).symm, fun h => by show mapK st.1.kind = _; rw [h]⟩

theorem is_rel (h : RelS s st σ) {a : Nat} (ha : a ≤ 5) (x : Str) : is (mapK a) x σ = (st.1.kind == a && st.1.text == x) := by
  have := kind_rel hL h ha
  unfold kind at this
  unfold is
  rw [this, now_rel hL h]
  rfl

theorem sign_rel (h : RelS s st σ) (x : Str) : is 111 x σ = isSign x st := is_rel hL h (a := 5) (by omega) x

end
end Go.Q
