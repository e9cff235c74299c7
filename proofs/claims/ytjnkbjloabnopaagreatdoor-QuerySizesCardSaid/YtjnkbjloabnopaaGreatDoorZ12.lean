/- The reference's reader comes to what the grammar says. Plain Lean, no program in sight; no conditions. -/
import Derived.Test.YtjnkbjloabnopaaGreatDoorZ11
namespace Go.Q

/-! ### behind an error nothing turns -/
section
variable {L : List Tok} {σ : PS L} (he : σ.e ≠ 0)
include he

theorem is_bad {k : Nat} {x : Str} : is k x σ = false := by simp [is, he]
theorem kind_bad {k : Nat} : kind k σ = false := by simp [kind, he]
theorem eat_bad {x : Str} : eat x σ = σ := by simp [eat, is_bad he]
theorem want_bad {k : Nat} {x : Str} : want k x σ = ([], σ) := by simp [want, he]
theorem err_bad {x p : Int} : err x p σ = σ := by simp [err, he]
theorem wrong_bad : wrong σ = σ := err_bad he
theorem number_bad {lim p : Int} : number lim p σ = (0, σ) := by
  simp only [number, want_bad he, pb_mk, err_bad he]
  simp [capV]
theorem signed_bad : signed σ = (0, σ) := by simp [signed, is_bad he, number_bad he]
theorem foldR_bad : foldR σ = (false, σ) := by simp [foldR, is_bad he, eat_bad he]
theorem rAtom_bad : (rAtom σ).2 = σ := by
  simp [rAtom, want_bad he, pb_mk, is_bad he, kind_bad he, foldR_bad he]
theorem rNot_bad (m : Nat) : ∃ a, rNot (m + 1) σ = some (a, σ) := by
  refine ⟨(rAtom σ).1, ?_⟩
  simp only [rNot, is_bad he, Bool.false_eq_true, if_false, Option.some.injEq]
  exact Prod.ext rfl (rAtom_bad he)
theorem rAndL_bad (m : Nat) (l : List Cond) : rAndL (m + 1) l σ = some (manyC 7 l, σ) := by simp [rAndL, is_bad he]
theorem rAnd_bad (m : Nat) : ∃ a, rAnd (m + 2) σ = some (a, σ) := by
  obtain ⟨a, ha⟩ := rNot_bad he m
  exact ⟨manyC 7 [a], by simp only [rAnd]; rw [ha]; simp only [pbO_some]; exact rAndL_bad he m [a]⟩
theorem rOrL_bad (m : Nat) (l : List Cond) : rOrL (m + 1) l σ = some (manyC 8 l, σ) := by simp [rOrL, is_bad he]
theorem rOr_bad (m : Nat) : ∃ a, rOr (m + 3) σ = some (a, σ) := by
  obtain ⟨a, ha⟩ := rAnd_bad he m
  exact ⟨manyC 8 [a], by simp only [rOr]; rw [ha]; simp only [pbO_some]; exact rOrL_bad he (m + 1) [a]⟩
theorem rToken_bad (m : Nat) (l : Str) : ∃ a, rToken (m + 3) l σ = some (a, σ) := by
  obtain ⟨a, ha⟩ := rOr_bad he m
  exact ⟨_, by simp only [rToken, kind_bad he, want_bad he, pb_mk, is_bad he, Bool.false_eq_true, if_false]; rw [ha]; simp only [pbO_some, want_bad he, pb_mk]; rfl⟩
theorem rLabel_bad : rLabel σ = ([], σ) := by simp [rLabel, kind_bad he]
theorem rItem_bad (m : Nat) (d : Int) : ∃ a, rItem (m + 4) d σ = some (a, σ) := by
  obtain ⟨a, ha⟩ := rToken_bad he m []
  exact ⟨a, by simp only [rItem, is_bad he, Bool.false_eq_true, if_false, rLabel_bad he, pb_mk]; exact ha⟩
theorem rRepL_bad (m : Nat) (p : Pat) : rRepL (m + 1) p σ = some (p, σ) := by simp [rRepL, he]
theorem rRep_bad (m : Nat) (d : Int) : ∃ a, rRep (m + 5) d σ = some (a, σ) := by
  obtain ⟨a, ha⟩ := rItem_bad he m d
  exact ⟨a, by simp only [rRep]; rw [ha]; simp only [pbO_some]; exact rRepL_bad he (m + 3) a⟩
theorem rBegins_bad (d : Int) : rBegins d σ = false := by simp [rBegins, he]
theorem rSeqL_bad (m : Nat) (d : Int) (l : List Pat) : rSeqL (m + 1) d l σ = some (manyP 4 l, σ) := by simp [rSeqL, rBegins_bad he]
theorem rSeq_bad (m : Nat) (d : Int) : ∃ a, rSeq (m + 6) d σ = some (a, σ) := by
  obtain ⟨a, ha⟩ := rRep_bad he m d
  exact ⟨manyP 4 [a], by simp only [rSeq]; rw [ha]; simp only [pbO_some]; exact rSeqL_bad he (m + 4) d [a]⟩
theorem rAltL_bad (m : Nat) (d : Int) (l : List Pat) : rAltL (m + 1) d l σ = some (manyP 5 l, σ) := by simp [rAltL, is_bad he]
theorem rAlt_bad (m : Nat) (d : Int) : ∃ a, rAlt (m + 7) d σ = some (a, σ) := by
  obtain ⟨a, ha⟩ := rSeq_bad he m d
  exact ⟨manyP 5 [a], by simp only [rAlt]; rw [ha]; simp only [pbO_some]; exact rAltL_bad he (m + 5) d [a]⟩
theorem rArgs_bad (m : Nat) (l : List Str) : rArgs (m + 1) l σ = some (l, σ) := by simp [rArgs, is_bad he]
theorem rSecond_bad (op : Int) : rSecond op σ = ([], σ) := by
  unfold rSecond
  split
  · simp [want_bad he, pb_mk]
  · rfl
theorem rCall3_bad (m : Nat) (op : Int) (a b : Str) : ∃ c, rCall3 (m + 1) op a b σ = some (c, σ) := by
  unfold rCall3
  simp only [want_bad he, pb_mk, signed_bad he, number_bad he, rArgs_bad he, pbO_some]
  split
  · exact ⟨_, rfl⟩
  split
  · exact ⟨_, rfl⟩
  split
  · exact ⟨_, rfl⟩
  split
  · exact ⟨_, rfl⟩
  · exact ⟨_, rfl⟩
theorem rCall_bad (m : Nat) (op : Int) : ∃ a, rCall (m + 1) op σ = some (a, σ) := by
  obtain ⟨c, hc⟩ := rCall3_bad he m op [] []
  exact ⟨c, by simp only [rCall, want_bad he, pb_mk, rSecond_bad he]; exact hc⟩
theorem rGatom_bad (m : Nat) : ∃ a, rGatom m σ = some (a, σ) := by
  exact ⟨_, by simp only [rGatom, want_bad he, pb_mk, is_bad he, kind_bad he, foldR_bad he, Bool.false_eq_true, and_false, if_false]; rfl⟩
theorem rGnot_bad (m : Nat) : ∃ a, rGnot (m + 1) σ = some (a, σ) := by
  obtain ⟨a, ha⟩ := rGatom_bad he m
  exact ⟨a, by simp only [rGnot, is_bad he, Bool.false_eq_true, if_false]; exact ha⟩
theorem rGandL_bad (m : Nat) (l : List Con) : rGandL (m + 1) l σ = some (manyG 12 l, σ) := by simp [rGandL, is_bad he]
theorem rGand_bad (m : Nat) : ∃ a, rGand (m + 2) σ = some (a, σ) := by
  obtain ⟨a, ha⟩ := rGnot_bad he m
  exact ⟨manyG 12 [a], by simp only [rGand]; rw [ha]; simp only [pbO_some]; exact rGandL_bad he m [a]⟩
theorem rGorL_bad (m : Nat) (l : List Con) : rGorL (m + 1) l σ = some (manyG 13 l, σ) := by simp [rGorL, is_bad he]
theorem rGor_bad (m : Nat) : ∃ a, rGor (m + 3) σ = some (a, σ) := by
  obtain ⟨a, ha⟩ := rGand_bad he m
  exact ⟨manyG 13 [a], by simp only [rGor]; rw [ha]; simp only [pbO_some]; exact rGorL_bad he (m + 1) [a]⟩
theorem rFilters_bad (m : Nat) (l : List Flt) : rFilters (m + 1) l σ = some (l, σ) := by simp [rFilters, he]
theorem rStrategy_bad : rStrategy σ = (0, σ) := by simp [rStrategy, is_bad he]
end

/-! ### piece by piece -/
section
variable {s : Str} {L : List Tok} {st : S} {σ : PS L}

theorem RelR.bind {α β : Type} {r : R α} {x : α × PS L} {f : α → S → R β} {g : α → PS L → β × PS L} (h : RelR s r x) (hok : ∀ a st σ, RelS s st σ → RelR s (f a st) (g a σ)) (hbad : ∀ a σ, σ.e ≠ 0 → (g a σ).2 = σ) : RelR s (r.bind f) (pb x g) := by
  obtain ⟨a', σ⟩ := x
  cases r with
  | ok a st => obtain ⟨rfl, h⟩ := h; exact hok _ st σ h
  | bad p e =>
    obtain ⟨h1, h2, h3⟩ := h
    simp only at h2 h3
    have := hbad a' σ (by rw [h2]; exact h1)
    simp only [R.bind, pb]
    exact ⟨h1, by rw [this]; exact h2, by rw [this]; exact h3⟩

/-- Where the value is of no account. -/
theorem RelU.bind {α α' β : Type} {r : R α} {x : α' × PS L} {f : α → S → R β} {g : α' → PS L → β × PS L} (h : RelU s r x) (hok : ∀ a a' st σ, RelS s st σ → RelR s (f a st) (g a' σ)) (hbad : ∀ a σ, σ.e ≠ 0 → (g a σ).2 = σ) : RelR s (r.bind f) (pb x g) := by
  obtain ⟨a', σ⟩ := x
  cases r with
  | ok a st => exact hok _ _ st σ h
  | bad p e =>
    obtain ⟨h1, h2, h3⟩ := h
    simp only at h2 h3
    have := hbad a' σ (by rw [h2]; exact h1)
    simp only [R.bind, pb]
    exact ⟨h1, by rw [this]; exact h2, by rw [this]; exact h3⟩

theorem RelO.of {α : Type} {r : R α} {x : α × PS L} (h : RelR s r x) : RelO s (some r) (some x) := by
  intro r' hr
  injection hr with hr
  subst hr
  exact ⟨x, rfl, h⟩

theorem RelO.bind {α β : Type} {ro : Option (R α)} {xo : Option (α × PS L)} {f : α → S → Option (R β)} {g : α → PS L → Option (β × PS L)} (h : RelO s ro xo) (hok : ∀ a st σ, RelS s st σ → RelO s (f a st) (g a σ)) (hbad : ∀ a σ, σ.e ≠ 0 → ∃ b, g a σ = some (b, σ)) : RelO s (bindO ro f) (pbO xo g) := by
  intro r hr
  cases ro with
  | none => cases hr
  | some r1 =>
    obtain ⟨⟨a', σ⟩, rfl, h1⟩ := h r1 rfl
    cases r1 with
    | ok a st => obtain ⟨rfl, h1⟩ := h1; exact hok _ st σ h1 r hr
    | bad p e =>
      obtain ⟨h1, h2, h3⟩ := h1
      simp only at h2 h3
      simp only [bindO, Option.some.injEq] at hr
      subst hr
      obtain ⟨b, hb⟩ := hbad a' σ (by rw [h2]; exact h1)
      exact ⟨(b, σ), by rw [pbO_some]; exact hb, h1, h2, h3⟩

theorem RelO.pbR {α β : Type} {r : R α} {x : α × PS L} {f : α → S → Option (R β)} {g : α → PS L → Option (β × PS L)} (h : RelR s r x) (hok : ∀ a st σ, RelS s st σ → RelO s (f a st) (g a σ)) (hbad : ∀ a σ, σ.e ≠ 0 → ∃ b, g a σ = some (b, σ)) : RelO s (bindO (some r) f) (pb x g) := by
  have := RelO.bind (RelO.of h) hok hbad
  obtain ⟨a, σ⟩ := x
  exact this

theorem RelR.ok {α : Type} {a : α} (h : RelS s st σ) : RelR s (.ok a st) (a, σ) := ⟨rfl, h⟩

variable (hL : IsToks s L)
include hL

theorem text_rel (h : RelS s st σ) {a : Nat} (ha : a ≤ 4) (h2 : 2 ≤ a) : RelR s (textP s a st) (want (mapK a) [] σ) := by
  have hk := kind_rel hL h (a := a) (by omega)
  have hn := now_rel hL h
  have h111 : mapK a ≠ 111 := fun h => by
    have : a = 5 := by
      have := mapK_eq (a := 5) (b := a) (by omega) h
      omega
    omega
  unfold kind at hk
  rw [h.1] at hk
  simp only [beq_self_eq_true, Bool.true_and] at hk
  unfold textP want
  rw [if_neg (show ¬ (σ.e ≠ 0) by simp [h.1])]
  by_cases hq : st.1.kind = a
  · rw [if_pos hq]
    rw [hq] at hk
    simp only [beq_self_eq_true, beq_iff_eq] at hk
    rw [if_neg (by simp [hk, h111])]
    exact ⟨by rw [hn]; rfl, adv_rel hL h (by omega)⟩
  · rw [if_neg hq]
    have : (now σ).kind ≠ mapK a := by
      rw [show (st.1.kind == a) = false by simpa using hq] at hk
      simpa using hk
    rw [if_pos (.inl this)]
    refine ⟨by decide, ?_, ?_⟩
    · simp [wrong, err, h.1]
    · simp [wrong, err, h.1, hn, conv]

theorem must_rel (h : RelS s st σ) (x : Str) : RelU s (mustP s x st) (want 111 x σ) := by
  have hk := sign_rel hL h x
  have hn := now_rel hL h
  unfold is at hk
  rw [h.1] at hk
  simp only [beq_self_eq_true, Bool.true_and] at hk
  unfold mustP want
  rw [if_neg (show ¬ (σ.e ≠ 0) by simp [h.1]), ← hk]
  by_cases h1 : (now σ).kind = 111 ∧ (now σ).text = x
  · rw [if_pos (by simp [h1.1, h1.2]), if_neg (by simp [h1.1, h1.2])]
    have hs : isSign x st = true := by rw [← hk]; simp [h1.1, h1.2]
    refine adv_rel hL h ?_
    simp only [isSign, Bool.and_eq_true, beq_iff_eq] at hs
    omega
  · rw [if_neg (by simpa using h1), if_pos (by simp only [true_and]; by_cases h2 : (now σ).kind = 111; exact .inr (fun h3 => h1 ⟨h2, h3⟩); exact .inl h2)]
    refine ⟨by decide, ?_, ?_⟩
    · simp [wrong, err, h.1]
    · simp [wrong, err, h.1, hn, conv]

theorem sign_kind {x : Str} (hx : isSign x st = true) : 2 ≤ st.1.kind := by
  have _ := hL
  simp only [isSign, Bool.and_eq_true, beq_iff_eq] at hx
  omega

theorem adv_sign (h : RelS s st σ) {x : Str} (hx : isSign x st = true) : RelS s (nxt s st) (adv σ) := adv_rel hL h (sign_kind hL hx)

theorem fold_rel (h : RelS s st σ) : RelR s (foldP s st) (foldR σ) := by
  have hk := sign_rel hL h [37, 99]
  unfold foldP foldR eat
  rw [hk]
  cases hx : isSign [37, 99] st with
  | true => exact ⟨rfl, adv_sign hL h hx⟩
  | false => exact ⟨rfl, h⟩

theorem capV_eq {t : Str} (ht : ∀ c, c ∈ t → digit c = true) : capV t = min (numV t : Int) 1000000 := by
  have _ := hL
  have key : ∀ (t : Str), (∀ c, c ∈ t → digit c = true) → ∀ (a : Int) (b : Nat), a = min (b : Int) 1000000 → t.foldl (fun n c => min (10 * n + ((c.toNat : Int) - 48)) 1000000) a = min ((t.foldl (fun n c => 10 * n + (c.toNat - 48)) b : Nat) : Int) 1000000 := by
    intro t
    induction t with
    | nil => intro _ a b h; exact h
    | cons c t ih =>
      intro hd a b h
      rw [List.foldl_cons, List.foldl_cons]
      refine ih (fun c hc => hd c (List.mem_cons_of_mem _ hc)) _ _ ?_
      have := hd c List.mem_cons_self
      simp only [digit, Bool.and_eq_true, decide_eq_true_eq] at this
      subst h
      omega
  exact key t ht 0 0 (by decide)

theorem number_rel (hd : V s st) (h : RelS s st σ) {most pos : Nat} (hm : most < 1000000) : RelR s (numberP s most pos st) (number most pos σ) := by
  unfold numberP number
  have ht := text_rel hL h (a := 3) (by omega) (by omega)
  have hdig : st.1.kind = 3 → ∀ c, c ∈ st.1.text → digit c = true := fun hk => (V.digits hd hk).1
  unfold textP at ht ⊢
  by_cases hk : st.1.kind = 3
  · rw [if_pos hk] at ht ⊢
    simp only [R.bind]
    obtain ⟨h1, h2⟩ := ht
    change (want 100 [] σ).1 = _ at h1
    change RelS s _ (want 100 [] σ).2 at h2
    simp only [pb, h1]
    have hc := capV_eq hL (hdig hk)
    by_cases hgt : numV st.1.text > most
    · rw [if_pos hgt, if_pos (by rw [hc]; omega)]
      refine ⟨by decide, ?_, ?_⟩
      · simp [err, h2.1]
      · simp [err, h2.1]
    · rw [if_neg hgt, if_neg (by rw [hc]; omega)]
      exact ⟨by rw [hc]; simp only; omega, h2⟩
  · rw [if_neg hk] at ht ⊢
    simp only [R.bind]
    obtain ⟨h1, h2, h3⟩ := ht
    change (want 100 [] σ).2.e = _ at h2
    change (want 100 [] σ).2.f = _ at h3
    simp only [pb]
    have : ∀ x p, err x p (want 100 [] σ).2 = (want 100 [] σ).2 := fun x p => err_bad (by rw [h2]; exact h1)
    refine ⟨h1, ?_, ?_⟩
    · split
      · rw [this]; exact h2
      · exact h2
    · split
      · rw [this]; exact h3
      · exact h3
end
end Go.Q

/- The reference's reader comes to what the grammar says: conditions, patterns, constraints, queries. Plain Lean, no program in sight; no conditions. -/
namespace Go.Q

section
variable {s : Str} {L : List Tok} {st : S} {σ : PS L}

theorem stAt_V (s : Str) : ∀ k, V s (stAt s k)
  | 0 => ⟨0, Nat.zero_le _, rfl⟩
  | k + 1 => (stAt_V s k).next
theorem RelS.V (h : RelS s st σ) : V s st := by obtain ⟨_, rfl⟩ := h; exact stAt_V s _

theorem RelO.mono {α : Type} {r : R α} {x : α × PS L} (h : RelR s r x) {ro : Option (R α)} {xo : Option (α × PS L)} (h1 : ro = some r) (h2 : xo = some x) : RelO s ro xo := by
  subst h1 h2; exact .of h

/-- A sign, then more. -/
theorem RelO.must {β : Type} {r : R Unit} {x : Str × PS L} {a : β} (h : RelU s r x) : RelO s (some (r.bind fun _ st => .ok a st)) (pb x fun _ σ => some (a, σ)) :=
  RelO.of (RelU.bind (g := fun _ σ => (a, σ)) h (fun _ _ _ _ h => .ok h) fun _ _ _ => rfl)

variable (hL : IsToks s L)
include hL

theorem atom_rel (h : RelS s st σ) : RelR s (atomP s st) (rAtom σ) := by
  unfold atomP rAtom
  refine RelR.bind (text_rel hL h (a := 2) (by omega) (by omega)) (fun name st σ h => ?_) (fun a σ he => by simp [want_bad he, pb_mk, is_bad he, kind_bad he, foldR_bad he])
  rw [sign_rel hL h [40], sign_rel hL h [33, 61], show is 110 [99, 111, 110, 116, 97, 105, 110, 115] σ = isWord [[99, 111, 110, 116, 97, 105, 110, 115]] st from (is_rel hL h (a := 2) (by omega) _).trans (by unfold isWord; rw [List.contains_cons, List.contains_nil, Bool.or_false])]
  by_cases h1 : (name == [105, 110] && isSign [40] st) = true
  · rw [if_pos h1, if_pos h1]
    simp only [Bool.and_eq_true] at h1
    refine RelR.bind (text_rel hL (adv_sign hL h h1.2) (a := 2) (by omega) (by omega)) (fun ty st σ h => ?_) (fun a σ he => by simp [want_bad he, pb_mk, is_bad he])
    rw [sign_rel hL h [44]]
    by_cases h2 : isSign [44] st = true
    · rw [if_pos h2, if_pos h2]
      refine RelR.bind (text_rel hL (adv_sign hL h h2) (a := 2) (by omega) (by omega)) (fun arg st σ h => ?_) (fun a σ he => by simp [want_bad he, pb_mk])
      refine RelU.bind (must_rel hL h [61]) (fun _ _ st σ h => ?_) (fun a σ he => by simp [want_bad he, pb_mk])
      refine RelR.bind (text_rel hL h (a := 4) (by omega) (by omega)) (fun v st σ h => ?_) (fun a σ he => by simp [want_bad he, pb_mk])
      exact RelU.bind (must_rel hL h [41]) (fun _ _ st σ h => .ok h) (fun a σ he => rfl)
    · rw [if_neg h2, if_neg h2]
      exact RelU.bind (must_rel hL h [41]) (fun _ _ st σ h => .ok h) (fun a σ he => rfl)
  · rw [if_neg h1, if_neg h1]
    have hsw : ∀ {α : Type} (x y z : α), (if isWord [[99, 111, 110, 116, 97, 105, 110, 115]] st = true then x else if isSign [33, 61] st = true then y else z) = (if isSign [33, 61] st = true then y else if isWord [[99, 111, 110, 116, 97, 105, 110, 115]] st = true then x else z) := by
      intro α x y z
      by_cases h1 : isSign [33, 61] st = true
      · have : isWord [[99, 111, 110, 116, 97, 105, 110, 115]] st = false := by
          simp only [isSign, Bool.and_eq_true, beq_iff_eq] at h1
          simp [isWord, h1.1]
        simp [this]
      · simp [h1]
    rw [hsw]
    by_cases h2 : isSign [33, 61] st = true
    · rw [if_pos h2, if_pos h2]
      refine RelR.bind (text_rel hL (adv_sign hL h h2) (a := 4) (by omega) (by omega)) (fun v st σ h => ?_) (fun a σ he => by simp [pb_mk, foldR_bad he])
      exact RelR.bind (fold_rel hL h) (fun f st σ h => .ok h) (fun a σ he => rfl)
    · rw [if_neg h2, if_neg h2]
      by_cases h3 : isWord [[99, 111, 110, 116, 97, 105, 110, 115]] st = true
      · rw [if_pos h3, if_pos h3]
        refine RelR.bind (text_rel hL (adv_rel hL h ?_) (a := 4) (by omega) (by omega)) (fun v st σ h => .ok h) (fun a σ he => rfl)
        simp only [isWord, Bool.and_eq_true, beq_iff_eq] at h3
        omega
      · rw [if_neg h3, if_neg h3]
        refine RelU.bind (must_rel hL h [61]) (fun _ _ st σ h => ?_) (fun a σ he => by simp [want_bad he, pb_mk, is_bad he, kind_bad he, foldR_bad he])
        have hk : kind 110 σ = (st.1.kind == 2) := kind_rel hL h (a := 2) (by omega)
        rw [hk]
        by_cases h4 : st.1.kind = 2
        · rw [if_pos h4, if_pos (by simp [h4])]
          refine RelR.bind (text_rel hL h (a := 2) (by omega) (by omega)) (fun l st σ h => ?_) (fun a σ he => by simp [want_bad he, pb_mk])
          refine RelU.bind (must_rel hL h [46]) (fun _ _ st σ h => ?_) (fun a σ he => by simp [want_bad he, pb_mk])
          exact RelR.bind (text_rel hL h (a := 2) (by omega) (by omega)) (fun arg st σ h => .ok h) (fun a σ he => rfl)
        · rw [if_neg h4, if_neg (by simp [h4])]
          refine RelR.bind (text_rel hL h (a := 4) (by omega) (by omega)) (fun v st σ h => ?_) (fun a σ he => by simp [pb_mk, foldR_bad he])
          exact RelR.bind (fold_rel hL h) (fun f st σ h => .ok h) (fun a σ he => rfl)

/-- Conditions. -/
theorem cond_rel : ∀ n : Nat, (∀ (st : S) (σ : PS L), RelS s st σ → RelO s (orP s n st) (rOr (n + 12) σ)) ∧ (∀ (st : S) (σ : PS L) (l : List Cond), RelS s st σ → RelO s (orL s n l st) (rOrL (n + 12) l σ)) ∧
    (∀ (st : S) (σ : PS L), RelS s st σ → RelO s (andP s n st) (rAnd (n + 12) σ)) ∧ (∀ (st : S) (σ : PS L) (l : List Cond), RelS s st σ → RelO s (andL s n l st) (rAndL (n + 12) l σ)) ∧ (∀ (st : S) (σ : PS L), RelS s st σ → RelO s (notP s n st) (rNot (n + 12) σ)) := by
  intro n
  induction n with
  | zero => refine ⟨?_, ?_, ?_, ?_, ?_⟩ <;> · intros; intro r hr; simp [orP, orL, andP, andL, notP] at hr
  | succ n ih =>
    obtain ⟨i1, i2, i3, i4, i5⟩ := ih
    refine ⟨fun st σ h => ?_, fun st σ l h => ?_, fun st σ h => ?_, fun st σ l h => ?_, fun st σ h => ?_⟩
    · exact RelO.bind (i3 st σ h) (fun a st σ h => i2 st σ [a] h) (fun a σ he => ⟨_, rOrL_bad he (n + 11) [a]⟩)
    · show RelO s (if isSign [124] st = true then _ else _) (if is 111 [124] σ = true then _ else _)
      rw [sign_rel hL h [124]]
      split
      · rename_i h1
        exact RelO.bind (i3 _ _ (adv_sign hL h h1)) (fun a st σ h => i2 st σ _ h) (fun a σ he => ⟨_, rOrL_bad he (n + 11) _⟩)
      · exact .of (.ok h)
    · exact RelO.bind (i5 st σ h) (fun a st σ h => i4 st σ [a] h) (fun a σ he => ⟨_, rAndL_bad he (n + 11) [a]⟩)
    · show RelO s (if isSign [38] st = true then _ else _) (if is 111 [38] σ = true then _ else _)
      rw [sign_rel hL h [38]]
      split
      · rename_i h1
        exact RelO.bind (i5 _ _ (adv_sign hL h h1)) (fun a st σ h => i4 st σ _ h) (fun a σ he => ⟨_, rAndL_bad he (n + 11) _⟩)
      · exact .of (.ok h)
    · show RelO s (if isSign [33] st = true then _ else if isSign [40] st = true then _ else _) (if is 111 [33] σ = true then _ else if is 111 [40] σ = true then _ else _)
      rw [sign_rel hL h [33], sign_rel hL h [40]]
      split
      · rename_i h1
        exact RelO.bind (i5 _ _ (adv_sign hL h h1)) (fun a st σ h => .of (.ok h)) (fun a σ he => ⟨_, rfl⟩)
      · split
        · rename_i h1
          exact RelO.bind (i1 _ _ (adv_sign hL h h1)) (fun a st σ h => .must (must_rel hL h [41])) (fun a σ he => ⟨a, by simp [want_bad he, pb_mk]⟩)
        · exact .of (atom_rel hL h)

theorem word_rel (h : RelS s st σ) (x : Str) : is 110 x σ = (st.1.kind == 2 && st.1.text == x) := is_rel hL h (a := 2) (by omega) x

theorem begins_rel (h : RelS s st σ) (d : Int) (inner : Bool) (hd : inner = decide (0 < d)) : rBegins d σ = beginsP s inner st := by
  have hn := now_rel hL h
  have hk : ∀ a, a ≤ 5 → ((now σ).kind = mapK a ↔ st.1.kind = a) := fun a ha => by
    rw [hn]
    exact ⟨fun h => (mapK_eq ha h).symm, fun h => by rw [← h]; rfl⟩
  have ht : (now σ).text = st.1.text := by rw [hn]; rfl
  unfold rBegins beginsP
  rw [if_neg (show ¬ (σ.e ≠ 0) by simp [h.1])]
  have e2 := hk 2 (by omega)
  have e4 := hk 4 (by omega)
  have e5 := hk 5 (by omega)
  simp only [mapK] at e2 e4 e5
  by_cases k4 : st.1.kind = 4
  · rw [if_pos k4, if_neg (by rw [e2]; omega)]
    simp [e4.2 k4]
  · rw [if_neg k4]
    by_cases k2 : st.1.kind = 2
    · rw [if_pos k2, if_pos (e2.2 k2)]
      have hx := next_rel hL h (by omega)
      have hsx : ((next σ).kind = 111 ∧ (next σ).text = [58]) ↔ isSign [58] (nxt s st) = true := by
        rw [hx]
        simp only [isSign, Bool.and_eq_true, beq_iff_eq]
        exact ⟨fun h => ⟨(mapK_eq (a := 5) (by omega) h.1).symm, h.2⟩, fun h => ⟨by show mapK _ = 111; rw [h.1]; rfl, h.2⟩⟩
      have htl : tail σ = isWord tails st := by
        simp only [tail, ht, isWord, k2, tails, List.contains_cons, List.contains_nil, Bool.or_false, beq_self_eq_true, Bool.true_and]
        cases st.1.text == [119, 105, 116, 104, 105, 110] <;> cases st.1.text == [99, 111, 110, 116, 97, 105, 110, 105, 110, 103] <;> cases st.1.text == [111, 118, 101, 114, 108, 97, 112, 112, 105, 110, 103] <;> cases st.1.text == [115, 116, 114, 97, 116, 101, 103, 121] <;> rfl
      rw [htl, hd]
      by_cases h5 : isSign [58] (nxt s st) = true
      · rw [if_pos (hsx.2 h5), h5]
        simp
      · rw [if_neg (fun h => h5 (hsx.1 h))]
        simp [h5]
    · rw [if_neg k2, if_neg (by rw [e2]; exact k2)]
      have k4' : ((now σ).kind == 115) = false := by simpa using fun h => k4 (e4.1 h)
      have k5' : ((now σ).kind == 111) = (st.1.kind == 5) := by rw [Bool.eq_iff_iff]; simpa using e5
      rw [k4', k5', ht]
      simp only [isSign, Bool.false_or]
      cases st.1.kind == 5 <;> simp

theorem token_rel (n : Nat) (label : Str) (h : RelS s st σ) : RelO s (tokenP s n label st) (rToken (n + 12) label σ) := by
  unfold tokenP rToken
  have hk : kind 115 σ = (st.1.kind == 4) := kind_rel hL h (a := 4) (by omega)
  rw [hk]
  by_cases h4 : st.1.kind = 4
  · rw [if_pos (show (st.1.kind == 4) = true by simpa using h4), if_neg (by simp [isSign, h4])]
    refine .of (RelR.bind (text_rel hL h (a := 4) (by omega) (by omega)) (fun v st σ h => ?_) (fun a σ he => by simp [pb_mk, foldR_bad he]))
    exact RelR.bind (fold_rel hL h) (fun f st σ h => .ok h) (fun a σ he => rfl)
  · rw [if_neg (show ¬ (st.1.kind == 4) = true by simpa using h4)]
    have hm := must_rel hL h [91]
    unfold mustP at hm
    by_cases h1 : isSign [91] st = true
    · rw [if_pos h1] at hm ⊢
      revert hm
      generalize want 111 [91] σ = x
      obtain ⟨t, σ1⟩ := x
      intro hm
      change RelS s (nxt s st) σ1 at hm
      rw [pb_mk, sign_rel hL hm [93]]
      by_cases h2 : isSign [93] (nxt s st) = true
      · rw [if_pos h2, if_pos h2]
        have : mustP s [93] (nxt s st) = .ok () (nxt s (nxt s st)) := by unfold mustP; rw [if_pos h2]
        rw [this]
        exact .of (.ok (adv_sign hL hm h2))
      · rw [if_neg h2, if_neg h2]
        exact RelO.bind ((cond_rel hL n).1 _ _ hm) (fun c st σ h => .must (must_rel hL h [93])) (fun a σ he => ⟨_, by simp only [want_bad he, pb_mk]; rfl⟩)
    · rw [if_neg h1] at hm ⊢
      have ht : textP s 4 st = .bad st.1.pos 3 := by unfold textP; rw [if_neg h4]
      rw [ht]
      revert hm
      generalize want 111 [91] σ = x
      obtain ⟨t, σ1⟩ := x
      intro hm
      obtain ⟨q1, q2, q3⟩ := hm
      simp only at q2 q3
      have he : σ1.e ≠ 0 := by rw [q2]; exact q1
      rw [pb_mk]
      obtain ⟨a, ha⟩ := rOr_bad he (n + 9)
      rw [is_bad he, if_neg (by simp), ha, pbO_some, want_bad he, pb_mk]
      exact .of (r := .bad _ _) ⟨q1, q2, q3⟩

theorem suffix_rel (h : RelS s st σ) : (suffixP s st = none ∧ rSuffix σ = none) ∨ ∃ r x, suffixP s st = some r ∧ rSuffix σ = some x ∧ RelR s r x := by
  unfold suffixP rSuffix
  have hp : (now σ).pos = st.1.pos := by rw [now_rel hL h]; rfl
  rw [sign_rel hL h [63], sign_rel hL h [42], sign_rel hL h [43], sign_rel hL h [123], hp]
  by_cases h1 : isSign [63] st = true
  · rw [if_pos h1, if_pos h1]; exact .inr ⟨_, _, rfl, rfl, .ok (adv_sign hL h h1)⟩
  rw [if_neg h1, if_neg h1]
  by_cases h2 : isSign [42] st = true
  · rw [if_pos h2, if_pos h2]; exact .inr ⟨_, _, rfl, rfl, .ok (adv_sign hL h h2)⟩
  rw [if_neg h2, if_neg h2]
  by_cases h3 : isSign [43] st = true
  · rw [if_pos h3, if_pos h3]; exact .inr ⟨_, _, rfl, rfl, .ok (adv_sign hL h h3)⟩
  rw [if_neg h3, if_neg h3]
  by_cases h4 : isSign [123] st = true
  · rw [if_pos h4, if_pos h4]
    refine .inr ⟨_, _, rfl, rfl, ?_⟩
    have ha := adv_sign hL h h4
    refine RelR.bind (number_rel hL ha.V ha (by omega)) (fun lo st1 σ1 h => ?_) (fun a σ he => by simp [want_bad he, pb_mk, is_bad he])
    rw [sign_rel hL h [44]]
    by_cases h5 : isSign [44] st1 = true
    · rw [if_pos h5, if_pos h5]
      have hb := adv_sign hL h h5
      have hk : kind 100 (adv σ1) = ((nxt s st1).1.kind == 3) := kind_rel hL hb (a := 3) (by omega)
      rw [hk]
      by_cases h6 : isSign [125] (nxt s st1) = true
      · rw [if_pos h6, if_neg (by simp only [isSign, Bool.and_eq_true, beq_iff_eq] at h6; simp [h6.1])]
        exact RelU.bind (must_rel hL hb [125]) (fun _ _ st σ h => .ok h) (fun a σ he => rfl)
      · rw [if_neg h6]
        by_cases h7 : (nxt s st1).1.kind = 3
        · rw [if_pos (by simpa using h7)]
          refine RelR.bind (number_rel hL hb.V hb (by omega)) (fun hi st2 σ2 h => ?_) (fun a σ he => by
            have : (if a < lo then err 8 (↑st.fst.pos) σ else σ) = σ := by rw [err_bad he, ite_self]
            simp [this, want_bad he, pb_mk])
          by_cases h8 : hi < lo
          · rw [if_pos h8, if_pos h8]
            have he : (err 8 (↑st.fst.pos) σ2).e ≠ 0 := by simp [err, h.1]
            rw [want_bad he, pb_mk]
            exact ⟨by decide, by simp [err, h.1], by simp [err, h.1]⟩
          · rw [if_neg h8, if_neg h8]
            exact RelU.bind (must_rel hL h [125]) (fun _ _ st σ h => .ok h) (fun a σ he => rfl)
        · rw [if_neg (by simpa using h7)]
          have : numberP s 16 st.1.pos (nxt s st1) = .bad (nxt s st1).1.pos 3 := by
            unfold numberP textP
            rw [if_neg h7]
            rfl
          rw [this]
          have hm := must_rel hL hb [125]
          unfold mustP at hm
          rw [if_neg h6] at hm
          exact hm
    · rw [if_neg h5, if_neg h5]
      exact RelU.bind (must_rel hL h [125]) (fun _ _ st σ h => .ok h) (fun a σ he => rfl)
  · rw [if_neg h4, if_neg h4]
    exact .inl ⟨rfl, rfl⟩

theorem label_rel (h : RelS s st σ) (hk : st.1.kind = 2) : RelR s ((textP s 2 st).bind fun l st => (mustP s [58] st).bind fun _ st => .ok l st) (rLabel σ) := by
  unfold rLabel
  have hk' : kind 110 σ = (st.1.kind == 2) := kind_rel hL h (a := 2) (by omega)
  rw [hk', if_pos (by simpa using hk)]
  refine RelR.bind (text_rel hL h (a := 2) (by omega) (by omega)) (fun l st σ h => ?_) (fun a σ he => by simp [want_bad he, pb_mk])
  exact RelU.bind (must_rel hL h [58]) (fun _ _ st σ h => .ok h) (fun a σ he => rfl)

/-- Patterns. -/
theorem pat_rel : ∀ n : Nat, (∀ (st : S) (σ : PS L) (inner : Bool) (d : Int), RelS s st σ → 0 ≤ d → inner = decide (0 < d) → RelO s (altP s n inner st) (rAlt (n + 12) d σ)) ∧
    (∀ (st : S) (σ : PS L) (inner : Bool) (d : Int) (l : List Pat), RelS s st σ → 0 ≤ d → inner = decide (0 < d) → RelO s (altL s n inner l st) (rAltL (n + 12) d l σ)) ∧
    (∀ (st : S) (σ : PS L) (inner : Bool) (d : Int), RelS s st σ → 0 ≤ d → inner = decide (0 < d) → RelO s (seqP s n inner st) (rSeq (n + 12) d σ)) ∧
    (∀ (st : S) (σ : PS L) (inner : Bool) (d : Int) (l : List Pat), RelS s st σ → 0 ≤ d → inner = decide (0 < d) → RelO s (seqL s n inner l st) (rSeqL (n + 12) d l σ)) ∧
    (∀ (st : S) (σ : PS L) (d : Int), RelS s st σ → 0 ≤ d → RelO s (repP s n st) (rRep (n + 12) d σ)) ∧
    (∀ (st : S) (σ : PS L) (p : Pat), RelS s st σ → RelO s (repL s n p st) (rRepL (n + 12) p σ)) ∧
    (∀ (st : S) (σ : PS L) (d : Int), RelS s st σ → 0 ≤ d → RelO s (itemP s n st) (rItem (n + 12) d σ)) := by
  intro n
  induction n with
  | zero => refine ⟨?_, ?_, ?_, ?_, ?_, ?_, ?_⟩ <;> · intros; intro r hr; simp [altP, altL, seqP, seqL, repP, repL, itemP] at hr
  | succ n ih =>
    obtain ⟨i1, i2, i3, i4, i5, i6, i7⟩ := ih
    refine ⟨fun st σ inner d h hd hi => ?_, fun st σ inner d l h hd hi => ?_, fun st σ inner d h hd hi => ?_, fun st σ inner d l h hd hi => ?_, fun st σ d h hd => ?_, fun st σ p h => ?_, fun st σ d h hd => ?_⟩
    · exact RelO.bind (i3 st σ inner d h hd hi) (fun a st σ h => i2 st σ inner d [a] h hd hi) (fun a σ he => ⟨_, rAltL_bad he (n + 11) d [a]⟩)
    · show RelO s (if isSign [124] st = true then _ else _) (if is 111 [124] σ = true then _ else _)
      rw [sign_rel hL h [124]]
      split
      · rename_i h1
        exact RelO.bind (i3 _ _ inner d (adv_sign hL h h1) hd hi) (fun a st σ h => i2 st σ inner d _ h hd hi) (fun a σ he => ⟨_, rAltL_bad he (n + 11) d _⟩)
      · exact .of (.ok h)
    · exact RelO.bind (i5 st σ d h hd) (fun a st σ h => i4 st σ inner d [a] h hd hi) (fun a σ he => ⟨_, rSeqL_bad he (n + 11) d [a]⟩)
    · show RelO s (if beginsP s inner st = true then _ else _) (if rBegins d σ = true then _ else _)
      rw [begins_rel hL h d inner hi]
      split
      · exact RelO.bind (i5 _ _ d h hd) (fun a st σ h => i4 st σ inner d _ h hd hi) (fun a σ he => ⟨_, rSeqL_bad he (n + 11) d _⟩)
      · exact .of (.ok h)
    · exact RelO.bind (i7 st σ d h hd) (fun a st σ h => i6 st σ a h) (fun a σ he => ⟨_, rRepL_bad he (n + 11) a⟩)
    · show RelO s (match suffixP s st with | none => _ | some (.bad q e) => _ | some (.ok (lo, hi) st) => _) (if σ.e = 0 then (match rSuffix σ with | none => _ | some (q, σ) => _) else _)
      rw [if_pos h.1]
      rcases suffix_rel hL h with ⟨h1, h2⟩ | ⟨r, ⟨q, σ1⟩, h1, h2, h3⟩
      · rw [h1, h2]; exact .of (.ok h)
      · rw [h1, h2]
        cases r with
        | ok a st => obtain ⟨rfl, h3⟩ := h3; exact i6 _ _ _ h3
        | bad p e =>
          obtain ⟨k1, k2, k3⟩ := h3
          simp only at k2 k3 ⊢
          rw [show n + 12 = n + 11 + 1 from rfl, rRepL_bad (by rw [k2]; exact k1)]
          exact .of (r := .bad _ _) ⟨k1, k2, k3⟩
    · show RelO s (if isSign [60] st = true then _ else if isSign [60, 47] st = true then _ else if isSign [40] st = true then _ else _) (if is 111 [40] σ = true then _ else if is 111 [60] σ = true then _ else if is 111 [60, 47] σ = true then _ else _)
      rw [sign_rel hL h [60], sign_rel hL h [40], sign_rel hL h [60, 47]]
      have hex : ∀ {x y : Str}, isSign x st = true → x ≠ y → isSign y st = false := fun h1 hne => by
        simp only [isSign, Bool.and_eq_true, beq_iff_eq] at h1
        simp [isSign, h1.2, hne]
      by_cases h1 : isSign [40] st = true
      · rw [if_pos h1, if_neg (by rw [hex h1 (by decide)]; simp), if_neg (by rw [hex h1 (by decide)]; simp), if_pos h1]
        exact RelO.bind (i1 _ _ true (d + 1) (adv_sign hL h h1) (by omega) (by simp; omega)) (fun a st σ h => .must (must_rel hL h [41])) (fun a σ he => ⟨a, by simp [want_bad he, pb_mk]⟩)
      rw [if_neg h1, if_neg h1]
      by_cases h2 : isSign [60] st = true
      · rw [if_pos h2, if_pos h2]
        refine .of (RelR.bind (text_rel hL (adv_sign hL h h2) (a := 2) (by omega) (by omega)) (fun r st σ h => ?_) (fun a σ he => by simp [want_bad he, pb_mk]))
        exact RelU.bind (must_rel hL h [62]) (fun _ _ st σ h => .ok h) (fun a σ he => rfl)
      rw [if_neg h2, if_neg h2]
      by_cases h3 : isSign [60, 47] st = true
      · rw [if_pos h3, if_pos h3]
        refine .of (RelR.bind (text_rel hL (adv_sign hL h h3) (a := 2) (by omega) (by omega)) (fun r st σ h => ?_) (fun a σ he => by simp [want_bad he, pb_mk]))
        exact RelU.bind (must_rel hL h [62]) (fun _ _ st σ h => .ok h) (fun a σ he => rfl)
      rw [if_neg h3, if_neg h3]
      by_cases h4 : st.1.kind = 2
      · rw [if_pos h4]
        exact RelO.pbR (label_rel hL h h4) (fun l st σ h => token_rel hL n l h) (fun a σ he => rToken_bad he (n + 9) a)
      · rw [if_neg h4]
        have hlab : rLabel σ = ([], σ) := by
          unfold rLabel
          rw [show kind 110 σ = (st.1.kind == 2) from kind_rel hL h (a := 2) (by omega), if_neg (by simpa using h4)]
        rw [hlab, pb_mk]
        exact token_rel hL n [] h
end
end Go.Q

/- The reference's reader comes to what the grammar says: constraints and whole queries. Plain Lean, no program in sight; no conditions. -/
namespace Go.Q

theorem bindO_bind {α β γ : Type} {r : R α} {f : α → S → R β} {k : β → S → Option (R γ)} : bindO (some (r.bind f)) k = bindO (some r) fun a st => bindO (some (f a st)) k := by
  cases r <;> rfl
theorem some_bind {α β : Type} {r : R α} {f : α → S → R β} : some (r.bind f) = bindO (some r) fun a st => some (f a st) := by
  cases r <;> rfl

theorem bindO_assoc {α β γ : Type} {x : Option (R α)} {f : α → S → Option (R β)} {k : β → S → Option (R γ)} : bindO (bindO x f) k = bindO x fun a st => bindO (f a st) k := by
  cases x with
  | none => rfl
  | some r => cases r <;> rfl

section
variable {s : Str} {L : List Tok} {st : S} {σ : PS L}

theorem RelO.pbU {α α' β : Type} {r : R α} {x : α' × PS L} {f : α → S → Option (R β)} {g : α' → PS L → Option (β × PS L)} (h : RelU s r x) (hok : ∀ a a' st σ, RelS s st σ → RelO s (f a st) (g a' σ)) (hbad : ∀ a σ, σ.e ≠ 0 → ∃ b, g a σ = some (b, σ)) : RelO s (bindO (some r) f) (pb x g) := by
  obtain ⟨a', σ⟩ := x
  cases r with
  | ok a st => exact hok a a' st σ h
  | bad p e =>
    obtain ⟨h1, h2, h3⟩ := h
    simp only at h2 h3
    obtain ⟨b, hb⟩ := hbad a' σ (by rw [h2]; exact h1)
    intro r hr
    simp only [bindO, Option.some.injEq] at hr
    subst hr
    exact ⟨(b, σ), by unfold pb; exact hb, h1, h2, h3⟩

variable (hL : IsToks s L)
include hL

theorem big_rel (h : RelS s st σ) : RelR s (bigP s st) (number 100000 (now σ).pos σ) := by
  have hp : (now σ).pos = st.1.pos := by rw [now_rel hL h]; rfl
  rw [hp]
  exact number_rel hL h.V h (by omega)

theorem signed_rel (h : RelS s st σ) : RelR s (signedP s st) (signed σ) := by
  unfold signedP signed
  rw [sign_rel hL h [45]]
  split
  · rename_i h1
    exact RelR.bind (big_rel hL (adv_sign hL h h1)) (fun n st σ h => .ok h) (fun a σ he => rfl)
  · exact big_rel hL h

theorem args_rel : ∀ (n : Nat) (st : S) (σ : PS L) (l : List Str), RelS s st σ → RelO s (argsL s n l st) (rArgs (n + 12) l σ) := by
  intro n
  induction n with
  | zero => intro st σ l h r hr; simp [argsL] at hr
  | succ n ih =>
    intro st σ l h
    show RelO s (if isSign [44] st = true then _ else _) (if is 111 [44] σ = true then _ else _)
    rw [sign_rel hL h [44]]
    split
    · rename_i h1
      exact RelO.pbR (text_rel hL (adv_sign hL h h1) (a := 4) (by omega) (by omega)) (fun a st σ h => ih st σ _ h) (fun a σ he => ⟨_, rArgs_bad he (n + 11) _⟩)
    · exact .of (.ok h)

theorem call_rel (n : Nat) (op : Int) (h : RelS s st σ) : RelO s (bindO (some (textP s 2 st)) fun a st => bindO (argsP s n op a st) fun g st => some ((mustP s [41] st).bind fun _ st => .ok g st)) (rCall (n + 12) op σ) := by
  unfold rCall
  refine RelO.pbR (text_rel hL h (a := 2) (by omega) (by omega)) (fun a st σ h => ?_) (fun a σ he => by
    obtain ⟨c, hc⟩ := rCall3_bad he (n + 11) op a []
    exact ⟨c, by simp only [rSecond_bad he, pb_mk]; exact hc⟩)
  unfold argsP rSecond rCall3
  by_cases h1 : op = 1
  · rw [if_pos h1, if_neg (by omega)]
    simp only [pb_mk]
    rw [if_neg (by omega), if_neg (by omega), if_neg (by omega), if_neg (by omega)]
    exact .must (must_rel hL h [41])
  rw [if_neg h1]
  by_cases h2 : op = 10
  · rw [if_pos h2, if_neg (by omega)]
    simp only [pb_mk]
    rw [if_neg (by omega), if_pos h2]
    simp only [bindO_bind]
    refine RelO.pbU (must_rel hL h [44]) (fun _ _ st σ h => ?_) (fun a σ he => ⟨_, by simp [pb_mk, number_bad he, want_bad he]; rfl⟩)
    refine RelO.pbR (big_rel hL h) (fun lo st σ h => ?_) (fun a σ he => ⟨_, by simp [pb_mk, number_bad he, want_bad he]; rfl⟩)
    refine RelO.pbU (must_rel hL h [44]) (fun _ _ st σ h => ?_) (fun a σ he => ⟨_, by simp [pb_mk, number_bad he, want_bad he]; rfl⟩)
    refine RelO.pbR (big_rel hL h) (fun hi st σ h => ?_) (fun a σ he => ⟨_, by simp [pb_mk, want_bad he]; rfl⟩)
    exact .must (must_rel hL h [41])
  rw [if_neg h2, if_pos ⟨h1, h2⟩]
  have hsec : RelR s (commaP s st) (pb (want 111 [44] σ) fun _ σ => want 110 [] σ) :=
    RelU.bind (must_rel hL h [44]) (fun _ _ st σ h => text_rel hL h (a := 2) (by omega) (by omega)) (fun a σ he => by simp [want_bad he])
  by_cases h4 : op = 4
  · simp only [if_pos h4]
    rw [bindO_assoc]
    refine RelO.pbR hsec (fun b st σ h => ?_) (fun a σ he => ⟨_, by simp [pb_mk, signed_bad he, want_bad he]; rfl⟩)
    simp only [bindO_bind]
    refine RelO.pbU (must_rel hL h [44]) (fun _ _ st σ h => ?_) (fun a σ he => ⟨_, by simp [pb_mk, signed_bad he, want_bad he]; rfl⟩)
    refine RelO.pbR (signed_rel hL h) (fun lo st σ h => ?_) (fun a σ he => ⟨_, by simp [pb_mk, signed_bad he, want_bad he]; rfl⟩)
    refine RelO.pbU (must_rel hL h [44]) (fun _ _ st σ h => ?_) (fun a σ he => ⟨_, by simp [pb_mk, signed_bad he, want_bad he]; rfl⟩)
    refine RelO.pbR (signed_rel hL h) (fun hi st σ h => ?_) (fun a σ he => ⟨_, by simp [pb_mk, want_bad he]; rfl⟩)
    exact .must (must_rel hL h [41])
  simp only [if_neg h4, if_neg h2]
  by_cases h5 : op = 5 ∨ op = 9
  · simp only [if_pos h5]
    rw [bindO_assoc]
    refine RelO.pbR hsec (fun b st σ h => ?_) (fun a σ he => ⟨_, by simp [pb_mk, want_bad he]; rfl⟩)
    unfold commaP
    simp only [bindO_bind]
    refine RelO.pbU (must_rel hL h [44]) (fun _ _ st σ h => ?_) (fun a σ he => ⟨_, by simp [pb_mk, want_bad he]; rfl⟩)
    refine RelO.pbR (text_rel hL h (a := 2) (by omega) (by omega)) (fun nm st σ h => ?_) (fun a σ he => ⟨_, by simp [pb_mk, want_bad he]; rfl⟩)
    exact .must (must_rel hL h [41])
  simp only [if_neg h5]
  by_cases h8 : op = 8
  · simp only [if_pos h8]
    rw [bindO_assoc]
    refine RelO.pbR hsec (fun b st σ h => ?_) (fun a σ he => ⟨_, by simp only [rArgs_bad he, pbO_some, want_bad he, pb_mk]; rfl⟩)
    rw [bindO_assoc]
    exact RelO.bind (args_rel hL n st σ [] h) (fun l st σ h => .must (must_rel hL h [41])) (fun a σ he => ⟨_, by simp only [want_bad he, pb_mk]; rfl⟩)
  simp only [if_neg h8]
  rw [bindO_assoc]
  exact RelO.pbR hsec (fun b st σ h => .must (must_rel hL h [41])) (fun a σ he => ⟨_, by simp only [want_bad he, pb_mk]; rfl⟩)

theorem gatom_rel (n : Nat) (h : RelS s st σ) : RelO s (gatomP s n st) (rGatom (n + 12) σ) := by
  unfold gatomP rGatom
  refine RelO.pbR (text_rel hL h (a := 2) (by omega) (by omega)) (fun name st σ h => ?_) (fun a σ he => ⟨_, by simp only [want_bad he, pb_mk, is_bad he, kind_bad he, foldR_bad he, Bool.false_eq_true, and_false, if_false]; rfl⟩)
  rw [sign_rel hL h [40]]
  by_cases h1 : 0 < funcOp name ∧ isSign [40] st = true
  · rw [if_pos h1, if_pos h1]
    exact call_rel hL n _ (adv_sign hL h h1.2)
  rw [if_neg h1, if_neg h1]
  simp only [some_bind]
  refine RelO.pbU (must_rel hL h [46]) (fun _ _ st σ h => ?_) (fun a σ he => ⟨_, by simp only [want_bad he, pb_mk, kind_bad he, foldR_bad he, Bool.false_eq_true, if_false]; rfl⟩)
  refine RelO.pbR (text_rel hL h (a := 2) (by omega) (by omega)) (fun nm st σ h => ?_) (fun a σ he => ⟨_, by simp only [want_bad he, pb_mk, kind_bad he, foldR_bad he, Bool.false_eq_true, if_false]; rfl⟩)
  refine RelO.pbU (must_rel hL h [61]) (fun _ _ st σ h => ?_) (fun a σ he => ⟨_, by simp only [want_bad he, pb_mk, kind_bad he, foldR_bad he, Bool.false_eq_true, if_false]; rfl⟩)
  rw [show kind 110 σ = (st.1.kind == 2) from kind_rel hL h (a := 2) (by omega)]
  by_cases h2 : st.1.kind = 2
  · rw [if_pos h2, if_pos (by simpa using h2)]
    simp only [some_bind]
    refine RelO.pbR (text_rel hL h (a := 2) (by omega) (by omega)) (fun b st σ h => ?_) (fun a σ he => ⟨_, by simp only [want_bad he, pb_mk]; rfl⟩)
    refine RelO.pbU (must_rel hL h [46]) (fun _ _ st σ h => ?_) (fun a σ he => ⟨_, by simp only [want_bad he, pb_mk]; rfl⟩)
    exact RelO.pbR (text_rel hL h (a := 2) (by omega) (by omega)) (fun arg st σ h => .of (.ok h)) (fun a σ he => ⟨_, rfl⟩)
  · rw [if_neg h2, if_neg (by simpa using h2)]
    simp only [some_bind]
    refine RelO.pbR (text_rel hL h (a := 4) (by omega) (by omega)) (fun v st σ h => ?_) (fun a σ he => ⟨_, by simp only [foldR_bad he, pb_mk]; rfl⟩)
    exact RelO.pbR (fold_rel hL h) (fun f st σ h => .of (.ok h)) (fun a σ he => ⟨_, rfl⟩)

/-- Constraints. -/
theorem con_rel : ∀ n : Nat, (∀ (st : S) (σ : PS L), RelS s st σ → RelO s (gorP s n st) (rGor (n + 12) σ)) ∧ (∀ (st : S) (σ : PS L) (l : List Con), RelS s st σ → RelO s (gorL s n l st) (rGorL (n + 12) l σ)) ∧
    (∀ (st : S) (σ : PS L), RelS s st σ → RelO s (gandP s n st) (rGand (n + 12) σ)) ∧ (∀ (st : S) (σ : PS L) (l : List Con), RelS s st σ → RelO s (gandL s n l st) (rGandL (n + 12) l σ)) ∧ (∀ (st : S) (σ : PS L), RelS s st σ → RelO s (gnotP s n st) (rGnot (n + 12) σ)) := by
  intro n
  induction n with
  | zero => refine ⟨?_, ?_, ?_, ?_, ?_⟩ <;> · intros; intro r hr; simp [gorP, gorL, gandP, gandL, gnotP] at hr
  | succ n ih =>
    obtain ⟨i1, i2, i3, i4, i5⟩ := ih
    refine ⟨fun st σ h => ?_, fun st σ l h => ?_, fun st σ h => ?_, fun st σ l h => ?_, fun st σ h => ?_⟩
    · exact RelO.bind (i3 st σ h) (fun a st σ h => i2 st σ [a] h) (fun a σ he => ⟨_, rGorL_bad he (n + 11) [a]⟩)
    · show RelO s (if isSign [124] st = true then _ else _) (if is 111 [124] σ = true then _ else _)
      rw [sign_rel hL h [124]]
      split
      · rename_i h1
        exact RelO.bind (i3 _ _ (adv_sign hL h h1)) (fun a st σ h => i2 st σ _ h) (fun a σ he => ⟨_, rGorL_bad he (n + 11) _⟩)
      · exact .of (.ok h)
    · exact RelO.bind (i5 st σ h) (fun a st σ h => i4 st σ [a] h) (fun a σ he => ⟨_, rGandL_bad he (n + 11) [a]⟩)
    · show RelO s (if isSign [38] st = true then _ else _) (if is 111 [38] σ = true then _ else _)
      rw [sign_rel hL h [38]]
      split
      · rename_i h1
        exact RelO.bind (i5 _ _ (adv_sign hL h h1)) (fun a st σ h => i4 st σ _ h) (fun a σ he => ⟨_, rGandL_bad he (n + 11) _⟩)
      · exact .of (.ok h)
    · show RelO s (if isSign [33] st = true then _ else if isSign [40] st = true then _ else _) (if is 111 [33] σ = true then _ else if is 111 [40] σ = true then _ else _)
      rw [sign_rel hL h [33], sign_rel hL h [40]]
      split
      · rename_i h1
        exact RelO.bind (i5 _ _ (adv_sign hL h h1)) (fun a st σ h => .of (.ok h)) (fun a σ he => ⟨_, rfl⟩)
      · split
        · rename_i h1
          exact RelO.bind (i1 _ _ (adv_sign hL h h1)) (fun a st σ h => .must (must_rel hL h [41])) (fun a σ he => ⟨a, by simp [want_bad he, pb_mk]⟩)
        · exact gatom_rel hL n h

theorem name_text (hv : V s st) (hk : st.1.kind = 2) : st.1.text ≠ [] := by
  have _ := hL
  obtain ⟨i, hi, rfl⟩ := hv
  obtain ⟨j, hj⟩ : ∃ j, j = runEnd isBlank s i := ⟨_, rfl⟩
  have h1 : j ≤ s.length := by rw [hj]; exact runEnd_le hi
  by_cases he : j = s.length
  · rw [lex_end hj he] at hk; simp at hk
  · have hjl : j < s.length := by omega
    cases hl : letter (s.getD j 0) with
    | true =>
      rw [lex_name hj hjl hl, ← takeWhile_run]
      have key : (s.drop j).takeWhile wordb ≠ [] := by
        rw [getD_of hjl] at hl
        rw [List.drop_eq_getElem_cons hjl, List.takeWhile_cons, if_pos (by simp [wordb, hl])]
        simp
      exact key
    | false =>
      cases hd : digit (s.getD j 0) with
      | true => rw [lex_num hj hjl hl hd] at hk; simp at hk
      | false =>
        by_cases hq : s.getD j 0 = 34
        · rw [lex_str hj hjl hl hd hq] at hk
          split at hk <;> simp at hk
        · rw [lex_sign hj hjl hl hd hq] at hk
          split at hk <;> simp at hk

/-- The number of a filter. -/
theorem word1_rel (h : RelS s st σ) : wordR filterWords 1 σ = if st.1.kind = 2 ∧ 1 ≤ wordNo filterWords st.1.text then wordNo filterWords st.1.text else -1 := by
  have hw := fun x => word_rel hL h x
  simp only [wordR, filterWords, List.length_cons, List.length_nil, wordFrom, List.getD_cons_succ, List.getD_cons_zero, hw]
  by_cases hk : st.1.kind = 2
  · simp only [hk, beq_self_eq_true, Bool.true_and, true_and]
    have hne := name_text hL h.V hk
    have h0 : (([] : Str) == st.1.text) = false := by
      cases ht : st.1.text with
      | nil => exact absurd ht hne
      | cons a b => rfl
    simp only [wordNo, List.findIdx?_cons, h0, Bool.false_eq_true, if_false, Bool.beq_comm (a := st.1.text)]
    rw [show ([119, 105, 116, 104, 105, 110] == st.1.text) = (st.1.text == [119, 105, 116, 104, 105, 110]) from Bool.beq_comm, show ([99, 111, 110, 116, 97, 105, 110, 105, 110, 103] == st.1.text) = (st.1.text == [99, 111, 110, 116, 97, 105, 110, 105, 110, 103]) from Bool.beq_comm, show ([111, 118, 101, 114, 108, 97, 112, 112, 105, 110, 103] == st.1.text) = (st.1.text == [111, 118, 101, 114, 108, 97, 112, 112, 105, 110, 103]) from Bool.beq_comm]
    cases st.1.text == [119, 105, 116, 104, 105, 110] <;> cases st.1.text == [99, 111, 110, 116, 97, 105, 110, 105, 110, 103] <;> cases st.1.text == [111, 118, 101, 114, 108, 97, 112, 112, 105, 110, 103] <;> simp
  · have : (st.1.kind == 2) = false := by simpa using hk
    simp [this, hk]

theorem filters_rel : ∀ (n : Nat) (st : S) (σ : PS L) (l : List Flt), RelS s st σ → RelO s (filtersL s n l st) (rFilters (n + 12) l σ) := by
  intro n
  induction n with
  | zero => intro st σ l h r hr; simp [filtersL] at hr
  | succ n ih =>
    intro st σ l h
    have hsg := sign_rel hL h [33]
    have he : RelS s (if isSign [33] st = true then nxt s st else st) (eat [33] σ) := by
      unfold eat
      rw [hsg]
      split
      · rename_i h1; exact adv_sign hL h h1
      · exact h
    show RelO s (if (isSign [33] st || isWord filterWords st) = true then _ else _) (if σ.e = 0 then _ else _)
    rw [if_pos h.1, hsg]
    have hw := word1_rel hL he
    obtain ⟨st', hst'⟩ : ∃ st', st' = (if isSign [33] st = true then nxt s st else st) := ⟨_, rfl⟩
    rw [← hst'] at he hw
    simp only [← hst']
    by_cases hc : st'.1.kind = 2 ∧ 1 ≤ wordNo filterWords st'.1.text
    · rw [if_pos hc] at hw
      have hin : (isSign [33] st || isWord filterWords st) = true := by
        by_cases h1 : isSign [33] st = true
        · rw [h1]; rfl
        · rw [if_neg h1] at hst'
          subst hst'
          have : filterWords.contains st'.1.text = true := by
            have := hc.2
            unfold wordNo at this
            split at this
            · rename_i i hi
              rw [List.findIdx?_eq_some_iff_getElem] at hi
              obtain ⟨q1, q2, _⟩ := hi
              rw [beq_iff_eq] at q2
              rw [List.contains_iff_mem, ← q2]
              exact List.getElem_mem q1
            · omega
          have hw2 : isWord filterWords st' = true := by
            unfold isWord
            rw [this, hc.1]
            rfl
          rw [hw2, Bool.or_true]
      rw [if_pos hin, if_neg (by omega), if_neg (by rw [hw]; omega), hw]
      exact RelO.pbR (text_rel hL (adv_rel hL he (by omega)) (a := 2) (by omega) (by omega)) (fun r st σ h => ih st σ _ h) (fun a σ he => ⟨_, rFilters_bad he (n + 11) _⟩)
    · rw [if_neg hc] at hw
      rw [if_pos hw]
      by_cases h1 : isSign [33] st = true
      · rw [if_pos (by rw [h1]; rfl), if_pos (by omega), if_pos h1]
        refine RelO.of (r := .bad _ _) ⟨by decide, ?_, ?_⟩
        · simp [wrong, err, he.1]
        · simp [wrong, err, he.1, now_rel hL he, conv]
      · rw [if_neg h1] at hst'
        subst hst'
        have hnw : isWord filterWords st' = false := by
          cases hq : isWord filterWords st' with
          | false => rfl
          | true =>
            exfalso
            simp only [isWord, Bool.and_eq_true, beq_iff_eq] at hq
            refine hc ⟨hq.1, ?_⟩
            have hne := name_text hL h.V hq.1
            have hmem := List.contains_iff_mem.1 hq.2
            simp only [filterWords, List.mem_cons, List.not_mem_nil, or_false] at hmem
            rcases hmem with hm | hm | hm | hm
            · exact absurd hm hne
            · rw [hm]; decide
            · rw [hm]; decide
            · rw [hm]; decide
        rw [if_neg (by rw [hnw]; simp [h1]), if_neg h1]
        exact .of (.ok he)

theorem word0_rel (h : RelS s st σ) : wordR strategyWords 0 σ = if isWord strategyWords st = true then wordNo strategyWords st.1.text else -1 := by
  have hw := fun x => word_rel hL h x
  simp only [wordR, strategyWords, List.length_cons, List.length_nil, wordFrom, List.getD_cons_succ, List.getD_cons_zero, hw, isWord]
  by_cases hk : st.1.kind = 2
  · simp only [hk, beq_self_eq_true, Bool.true_and, List.contains_cons, List.contains_nil, Bool.or_false, wordNo, List.findIdx?_cons, List.findIdx?_nil]
    rw [show ([101, 97, 99, 104] == st.1.text) = (st.1.text == [101, 97, 99, 104]) from Bool.beq_comm, show ([115, 104, 111, 114, 116, 101, 115, 116] == st.1.text) = (st.1.text == [115, 104, 111, 114, 116, 101, 115, 116]) from Bool.beq_comm, show ([108, 111, 110, 103, 101, 115, 116] == st.1.text) = (st.1.text == [108, 111, 110, 103, 101, 115, 116]) from Bool.beq_comm, show ([116, 114, 97, 100, 105, 116, 105, 111, 110, 97, 108] == st.1.text) = (st.1.text == [116, 114, 97, 100, 105, 116, 105, 111, 110, 97, 108]) from Bool.beq_comm]
    cases st.1.text == [101, 97, 99, 104] <;> cases st.1.text == [115, 104, 111, 114, 116, 101, 115, 116] <;> cases st.1.text == [108, 111, 110, 103, 101, 115, 116] <;> cases st.1.text == [116, 114, 97, 100, 105, 116, 105, 111, 110, 97, 108] <;> simp
  · have : (st.1.kind == 2) = false := by simpa using hk
    simp [this]

theorem strategy_rel (h : RelS s st σ) : RelR s (strategyP s st) (rStrategy σ) := by
  unfold strategyP rStrategy
  rw [show is 110 [115, 116, 114, 97, 116, 101, 103, 121] σ = isWord [[115, 116, 114, 97, 116, 101, 103, 121]] st from (word_rel hL h _).trans (by unfold isWord; rw [List.contains_cons, List.contains_nil, Bool.or_false])]
  by_cases h1 : isWord [[115, 116, 114, 97, 116, 101, 103, 121]] st = true
  · rw [if_pos h1, if_pos h1]
    have hk : 2 ≤ st.1.kind := by simp only [isWord, Bool.and_eq_true, beq_iff_eq] at h1; omega
    have ha := adv_rel hL h hk
    have hw := word0_rel hL ha
    by_cases h2 : isWord strategyWords (nxt s st) = true
    · rw [if_pos h2] at hw ⊢
      have hge : 0 ≤ wordNo strategyWords (nxt s st).1.text := by
        simp only [isWord, Bool.and_eq_true, beq_iff_eq] at h2
        have hmem := List.contains_iff_mem.1 h2.2
        simp only [strategyWords, List.mem_cons, List.not_mem_nil, or_false] at hmem
        rcases hmem with hm | hm | hm | hm <;> (rw [hm]; decide)
      rw [hw, if_neg (by omega)]
      exact .ok (adv_rel hL ha (by simp only [isWord, Bool.and_eq_true, beq_iff_eq] at h2; omega))
    · rw [if_neg h2] at hw ⊢
      rw [hw, if_pos rfl]
      refine ⟨by decide, ?_, ?_⟩
      · simp [wrong, err, ha.1]
      · simp [wrong, err, ha.1, now_rel hL ha, conv]
  · rw [if_neg h1, if_neg h1]
    exact .ok h

theorem end_rel {α : Type} {a : α} (h : RelS s st σ) : RelR s (if st.1.kind = 0 then R.ok a st else .bad st.1.pos 3) (a, if σ.e = 0 ∧ (now σ).kind ≠ 101 then wrong σ else σ) := by
  have hk : (now σ).kind = 101 ↔ st.1.kind = 0 := by
    rw [now_rel hL h]
    exact ⟨fun h => (mapK_eq (a := 0) (by omega) h).symm, fun h => by show mapK _ = 101; rw [h]; rfl⟩
  by_cases h1 : st.1.kind = 0
  · rw [if_pos h1, if_neg (by simp [hk.2 h1])]
    exact .ok h
  · rw [if_neg h1, if_pos ⟨h.1, fun h => h1 (hk.1 h)⟩]
    refine ⟨by decide, ?_, ?_⟩
    · simp [wrong, err, h.1]
    · simp [wrong, err, h.1, now_rel hL h, conv]

/-- Whole queries. -/
theorem query_rel (n : Nat) (h : RelS s (lexAt s 0) σ) : RelO s (queryP s n) (rQuery (n + 12) σ) := by
  unfold queryP rQuery
  have hend : ∀ {σ : PS L}, σ.e ≠ 0 → (if σ.e = 0 ∧ (now σ).kind ≠ 101 then wrong σ else σ) = σ := fun he => if_neg (fun h => he h.1)
  refine RelO.bind ((pat_rel hL n).1 _ _ false 0 h (by omega) (by simp)) (fun p st σ h => ?_) (fun a σ he => ⟨_, by
    simp only [is_bad he, Bool.false_eq_true, if_false, pbO_some]
    rw [show n + 12 = n + 11 + 1 from rfl, rFilters_bad he, pbO_some, rStrategy_bad he, pb_mk, hend he]⟩)
  refine RelO.bind (?_ : RelO s (if isSign [58, 58] st then gorP s n (nxt s st) else some (.ok Con.zero st)) _) (fun g st σ h => ?_) (fun a σ he => ⟨_, by
    rw [show n + 12 = n + 11 + 1 from rfl, rFilters_bad he, pbO_some, rStrategy_bad he, pb_mk, hend he]⟩)
  · rw [sign_rel hL h [58, 58]]
    split
    · rename_i h1; exact (con_rel hL n).1 _ _ (adv_sign hL h h1)
    · exact .of (.ok h)
  refine RelO.bind (filters_rel hL n st σ [] h) (fun fs st σ h => ?_) (fun a σ he => ⟨_, by rw [rStrategy_bad he, pb_mk, hend he]⟩)
  refine RelO.pbR (strategy_rel hL h) (fun k st σ h => ?_) (fun a σ he => ⟨_, by rw [hend he]⟩)
  have := end_rel hL (a := (⟨p, g, fs, k⟩ : Qry)) h
  have e1 : (if st.1.kind = 0 then some (R.ok (⟨p, g, fs, k⟩ : Qry) st) else some (.bad st.1.pos 3)) = some (if st.1.kind = 0 then R.ok (⟨p, g, fs, k⟩ : Qry) st else .bad st.1.pos 3) := by split <;> rfl
  rw [e1]
  exact .of this
end
end Go.Q
