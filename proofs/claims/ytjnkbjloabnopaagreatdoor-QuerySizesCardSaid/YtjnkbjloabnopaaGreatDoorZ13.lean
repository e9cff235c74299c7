/- There is fuel enough: every text is read to an end. Plain Lean, no program in sight; no conditions. -/
import Derived.Test.YtjnkbjloabnopaaGreatDoorZ12
namespace Go.Q

/-- How much is left. -/
def left (s : Str) (st : S) : Nat := s.length - st.1.pos

def TotR {α : Type} (s : Str) (r : R α) (b : Nat) : Prop := ∀ a st, r = .ok a st → V s st ∧ left s st < b
def Tot {α : Type} (s : Str) (x : Option (R α)) (b : Nat) : Prop := ∃ r, x = some r ∧ TotR s r b

section
variable {s : Str} {st : S} {b c : Nat}

theorem left_nxt (h : V s st) (hk : 2 ≤ st.1.kind) : left s (nxt s st) < left s st := by
  have h1 := h.lt hk
  have h2 := h.le
  have h3 := (lexAt_le h.le).2.1
  have h4 := (lexAt_le h.le).2.2.1
  have h5 := (lexAt_le h.le).1
  unfold left nxt
  omega

theorem TotR.ok {α : Type} {a : α} (h : V s st) (hb : left s st < b) : TotR s (.ok a st) b := by
  intro a st he
  injection he with h1 h2
  subst h2
  exact ⟨h, hb⟩
theorem TotR.bad {α : Type} {p : Nat} {e : Int} : TotR s (R.bad (α := α) p e) b := fun a st he => by cases he
theorem TotR.mono {α : Type} {r : R α} (h : TotR s r b) (hb : b ≤ c) : TotR s r c := fun a st he => ⟨(h a st he).1, by have := (h a st he).2; omega⟩
theorem TotR.bind {α β : Type} {r : R α} {f : α → S → R β} (h : TotR s r b) (hf : ∀ a st, V s st → left s st < b → TotR s (f a st) c) : TotR s (r.bind f) c := by
  cases r with
  | ok a st => exact hf a st (h a st rfl).1 (h a st rfl).2
  | bad p e => exact .bad
theorem Tot.of {α : Type} {r : R α} (h : TotR s r b) : Tot s (some r) b := ⟨r, rfl, h⟩
theorem Tot.mono {α : Type} {x : Option (R α)} (h : Tot s x b) (hb : b ≤ c) : Tot s x c := by obtain ⟨r, hr, h⟩ := h; exact ⟨r, hr, h.mono hb⟩
theorem Tot.bind {α β : Type} {x : Option (R α)} {f : α → S → Option (R β)} (h : Tot s x b) (hf : ∀ a st, V s st → left s st < b → Tot s (f a st) c) : Tot s (bindO x f) c := by
  obtain ⟨r, rfl, h⟩ := h
  cases r with
  | ok a st => exact hf a st (h a st rfl).1 (h a st rfl).2
  | bad p e => exact .of .bad

variable (hv : V s st)
include hv

theorem text_tot {k : Nat} (hk : 2 ≤ k) : TotR s (textP s k st) (left s st) := by
  unfold textP
  split
  · exact .ok hv.next (left_nxt hv (by omega))
  · exact .bad
theorem sign_left {x : Str} (hx : isSign x st = true) : left s (nxt s st) < left s st := by
  simp only [isSign, Bool.and_eq_true, beq_iff_eq] at hx
  exact left_nxt hv (by omega)
theorem must_tot (x : Str) : TotR s (mustP s x st) (left s st) := by
  unfold mustP
  split
  · rename_i h; exact .ok hv.next (sign_left hv h)
  · exact .bad
theorem fold_tot : TotR s (foldP s st) (left s st + 1) := by
  unfold foldP
  split
  · rename_i h; exact .ok hv.next (by have := sign_left hv h; omega)
  · exact .ok hv (by omega)
theorem number_tot (most p : Nat) : TotR s (numberP s most p st) (left s st) := by
  unfold numberP
  refine (text_tot hv (by omega)).bind fun t st' hv' hl => ?_
  split
  · exact .bad
  · exact .ok hv' hl
theorem big_tot : TotR s (bigP s st) (left s st) := number_tot hv _ _
theorem signed_tot : TotR s (signedP s st) (left s st) := by
  unfold signedP
  split
  · rename_i h
    exact (big_tot hv.next).bind fun n st' hv' hl => .ok hv' (by have := sign_left hv h; simp only [nxt] at this hl; omega)
  · exact big_tot hv

theorem atom_tot : TotR s (atomP s st) (left s st) := by
  unfold atomP
  refine (text_tot hv (by omega)).bind fun name st1 v1 l1 => ?_
  split
  · rename_i h1
    simp only [Bool.and_eq_true] at h1
    have h2 := sign_left v1 h1.2
    refine (text_tot v1.next (by omega)).bind fun ty st2 v2 l2 => ?_
    simp only [nxt] at h2
    split
    · rename_i h3
      have h4 := sign_left v2 h3
      refine (text_tot v2.next (by omega)).bind fun arg st3 v3 l3 => ?_
      simp only [nxt] at h4
      refine (must_tot v3 _).bind fun _ st4 v4 l4 => (text_tot v4 (by omega)).bind fun v st5 v5 l5 => (must_tot v5 _).bind fun _ st6 v6 l6 => .ok v6 (by omega)
    · exact (must_tot v2 _).bind fun _ st3 v3 l3 => .ok v3 (by omega)
  · split
    · rename_i h2
      have h3 : left s (nxt s st1) < left s st1 := left_nxt v1 (by simp only [isWord, Bool.and_eq_true, beq_iff_eq] at h2; omega)
      simp only [nxt] at h3
      exact (text_tot v1.next (by omega)).bind fun v st2 v2 l2 => .ok v2 (by omega)
    · split
      · rename_i h2
        have h3 := sign_left v1 h2
        simp only [nxt] at h3
        exact (text_tot v1.next (by omega)).bind fun v st2 v2 l2 => (fold_tot v2).bind fun f st3 v3 l3 => .ok v3 (by omega)
      · refine (must_tot v1 _).bind fun _ st2 v2 l2 => ?_
        split
        · exact (text_tot v2 (by omega)).bind fun l st3 v3 l3 => (must_tot v3 _).bind fun _ st4 v4 l4 => (text_tot v4 (by omega)).bind fun arg st5 v5 l5 => .ok v5 (by omega)
        · exact (text_tot v2 (by omega)).bind fun v st3 v3 l3 => (fold_tot v3).bind fun f st4 v4 l4 => .ok v4 (by omega)
end

section
variable {s : Str}

theorem cond_tot : ∀ n : Nat, (∀ (st : S), V s st → 8 * left s st + 3 ≤ n → Tot s (orP s n st) (left s st)) ∧ (∀ (st : S) (l : List Cond), V s st → 8 * left s st + 1 ≤ n → Tot s (orL s n l st) (left s st + 1)) ∧
    (∀ (st : S), V s st → 8 * left s st + 2 ≤ n → Tot s (andP s n st) (left s st)) ∧ (∀ (st : S) (l : List Cond), V s st → 8 * left s st + 1 ≤ n → Tot s (andL s n l st) (left s st + 1)) ∧ (∀ (st : S), V s st → 8 * left s st + 1 ≤ n → Tot s (notP s n st) (left s st)) := by
  intro n
  induction n with
  | zero => refine ⟨?_, ?_, ?_, ?_, ?_⟩ <;> · intros; omega
  | succ n ih =>
    obtain ⟨i1, i2, i3, i4, i5⟩ := ih
    refine ⟨fun st hv hn => ?_, fun st l hv hn => ?_, fun st hv hn => ?_, fun st l hv hn => ?_, fun st hv hn => ?_⟩
    · exact (i3 st hv (by omega)).bind fun a st1 v1 l1 => (i2 st1 [a] v1 (by omega)).mono (by omega)
    · simp only [orL]
      split
      · rename_i h
        have := sign_left hv h
        exact (i3 _ hv.next (by simp only [nxt] at this ⊢; omega)).bind fun a st1 v1 l1 => (i2 st1 _ v1 (by simp only [nxt] at this l1; omega)).mono (by simp only [nxt] at this l1; omega)
      · exact .of (.ok hv (by omega))
    · exact (i5 st hv (by omega)).bind fun a st1 v1 l1 => (i4 st1 [a] v1 (by omega)).mono (by omega)
    · simp only [andL]
      split
      · rename_i h
        have := sign_left hv h
        exact (i5 _ hv.next (by simp only [nxt] at this ⊢; omega)).bind fun a st1 v1 l1 => (i4 st1 _ v1 (by simp only [nxt] at this l1; omega)).mono (by simp only [nxt] at this l1; omega)
      · exact .of (.ok hv (by omega))
    · simp only [notP]
      split
      · rename_i h
        have := sign_left hv h
        exact (i5 _ hv.next (by simp only [nxt] at this ⊢; omega)).bind fun a st1 v1 l1 => .of (.ok v1 (by simp only [nxt] at this l1; omega))
      · split
        · rename_i h
          have := sign_left hv h
          exact (i1 _ hv.next (by simp only [nxt] at this ⊢; omega)).bind fun a st1 v1 l1 => .of ((must_tot v1 _).bind fun _ st2 v2 l2 => .ok v2 (by simp only [nxt] at this l1; omega))
        · exact .of (atom_tot hv)

theorem token_tot {st : S} (hv : V s st) (n : Nat) (label : Str) (hn : 8 * left s st ≤ n) : Tot s (tokenP s n label st) (left s st) := by
  unfold tokenP
  split
  · rename_i h
    have := sign_left hv h
    have hv1 : V s (nxt s st) := hv.next
    split
    · exact .of ((must_tot hv1 _).bind fun _ st2 v2 l2 => .ok v2 (by omega))
    · exact ((cond_tot n).1 _ hv1 (by omega)).bind fun c st1 v1 l1 => .of ((must_tot v1 _).bind fun _ st2 v2 l2 => .ok v2 (by omega))
  · exact .of ((text_tot hv (by omega)).bind fun v st1 v1 l1 => (fold_tot v1).bind fun f st2 v2 l2 => .ok v2 (by omega))

theorem suffix_tot {st : S} (hv : V s st) {r : R (Int × Int)} (hr : suffixP s st = some r) : TotR s r (left s st) := by
  unfold suffixP at hr
  split at hr
  · rename_i h; injection hr with hr; subst hr; exact .ok hv.next (sign_left hv h)
  split at hr
  · rename_i h; injection hr with hr; subst hr; exact .ok hv.next (sign_left hv h)
  split at hr
  · rename_i h; injection hr with hr; subst hr; exact .ok hv.next (sign_left hv h)
  split at hr
  · rename_i h
    injection hr with hr
    subst hr
    have hl := sign_left hv h
    have hv1 : V s (nxt s st) := hv.next
    refine (number_tot hv1 _ _).bind fun lo st1 v1 l1 => ?_
    split
    · rename_i h1
      have hl1 := sign_left v1 h1
      have hv2 : V s (nxt s st1) := v1.next
      split
      · exact (must_tot hv2 _).bind fun _ st2 v2 l2 => .ok v2 (by omega)
      · refine (number_tot hv2 _ _).bind fun hi st2 v2 l2 => ?_
        split
        · exact .bad
        · exact (must_tot v2 _).bind fun _ st3 v3 l3 => .ok v3 (by omega)
    · exact (must_tot v1 _).bind fun _ st2 v2 l2 => .ok v2 (by omega)
  · cases hr

theorem begins_left {st : S} {inner : Bool} (hb : beginsP s inner st = true) : 2 ≤ st.1.kind := by
  unfold beginsP at hb
  split at hb
  · omega
  split at hb
  · omega
  · simp only [isSign, Bool.or_eq_true, Bool.and_eq_true, beq_iff_eq] at hb
    omega

theorem pat_tot : ∀ n : Nat, (∀ (st : S) (i : Bool), V s st → 8 * left s st + 4 ≤ n → Tot s (altP s n i st) (left s st)) ∧ (∀ (st : S) (i : Bool) (l : List Pat), V s st → 8 * left s st + 1 ≤ n → Tot s (altL s n i l st) (left s st + 1)) ∧
    (∀ (st : S) (i : Bool), V s st → 8 * left s st + 3 ≤ n → Tot s (seqP s n i st) (left s st)) ∧ (∀ (st : S) (i : Bool) (l : List Pat), V s st → 8 * left s st + 4 ≤ n → Tot s (seqL s n i l st) (left s st + 1)) ∧
    (∀ (st : S), V s st → 8 * left s st + 2 ≤ n → Tot s (repP s n st) (left s st)) ∧ (∀ (st : S) (p : Pat), V s st → 8 * left s st + 1 ≤ n → Tot s (repL s n p st) (left s st + 1)) ∧ (∀ (st : S), V s st → 8 * left s st + 1 ≤ n → Tot s (itemP s n st) (left s st)) := by
  intro n
  induction n with
  | zero => refine ⟨?_, ?_, ?_, ?_, ?_, ?_, ?_⟩ <;> · intros; omega
  | succ n ih =>
    obtain ⟨i1, i2, i3, i4, i5, i6, i7⟩ := ih
    refine ⟨fun st i hv hn => ?_, fun st i l hv hn => ?_, fun st i hv hn => ?_, fun st i l hv hn => ?_, fun st hv hn => ?_, fun st p hv hn => ?_, fun st hv hn => ?_⟩
    · exact (i3 st i hv (by omega)).bind fun a st1 v1 l1 => (i2 st1 i [a] v1 (by omega)).mono (by omega)
    · simp only [altL]
      split
      · rename_i h
        have := sign_left hv h
        exact (i3 _ i hv.next (by simp only [nxt] at this ⊢; omega)).bind fun a st1 v1 l1 => (i2 st1 i _ v1 (by simp only [nxt] at this l1; omega)).mono (by simp only [nxt] at this l1; omega)
      · exact .of (.ok hv (by omega))
    · exact (i5 st hv (by omega)).bind fun a st1 v1 l1 => (i4 st1 i [a] v1 (by omega)).mono (by omega)
    · simp only [seqL]
      split
      · exact (i5 _ hv (by omega)).bind fun a st1 v1 l1 => (i4 st1 i _ v1 (by omega)).mono (by omega)
      · exact .of (.ok hv (by omega))
    · exact (i7 st hv (by omega)).bind fun a st1 v1 l1 => (i6 st1 a v1 (by omega)).mono (by omega)
    · simp only [repL]
      split
      · exact .of (.ok hv (by omega))
      · exact .of .bad
      · rename_i lo hi st1 hs
        obtain ⟨v1, l1⟩ := suffix_tot hv hs _ _ rfl
        exact (i6 st1 _ v1 (by omega)).mono (by omega)
    · simp only [itemP]
      split
      · rename_i h
        have := sign_left hv h
        simp only [nxt] at this ⊢
        exact .of ((text_tot hv.next (by omega)).bind fun r st1 v1 l1 => (must_tot v1 _).bind fun _ st2 v2 l2 => .ok v2 (by omega))
      split
      · rename_i h
        have := sign_left hv h
        simp only [nxt] at this ⊢
        exact .of ((text_tot hv.next (by omega)).bind fun r st1 v1 l1 => (must_tot v1 _).bind fun _ st2 v2 l2 => .ok v2 (by omega))
      split
      · rename_i h
        have := sign_left hv h
        simp only [nxt] at this ⊢
        exact (i1 _ true hv.next (by omega)).bind fun a st1 v1 l1 => .of ((must_tot v1 _).bind fun _ st2 v2 l2 => .ok v2 (by omega))
      split
      · refine (Tot.of (b := left s st) ((text_tot hv (by omega)).bind fun l st1 v1 l1 => (must_tot v1 _).bind fun _ st2 v2 l2 => .ok v2 (by omega))).bind fun l st1 v1 l1 => ?_
        exact (token_tot v1 n l (by omega)).mono (by omega)
      · exact token_tot hv n [] (by omega)

theorem args_tot : ∀ (n : Nat) (st : S) (l : List Str), V s st → 8 * left s st + 1 ≤ n → Tot s (argsL s n l st) (left s st + 1) := by
  intro n
  induction n with
  | zero => intros; omega
  | succ n ih =>
    intro st l hv hn
    simp only [argsL]
    split
    · rename_i h
      have := sign_left hv h
      simp only [nxt] at this ⊢
      exact (Tot.of (text_tot hv.next (by omega))).bind fun a st1 v1 l1 => (ih st1 _ v1 (by omega)).mono (by omega)
    · exact .of (.ok hv (by omega))

theorem comma_tot {st : S} (hv : V s st) : TotR s (commaP s st) (left s st) := (must_tot hv _).bind fun _ st1 v1 l1 => (text_tot v1 (by omega)).mono (by omega)

theorem argsP_tot {st : S} (hv : V s st) (n : Nat) (op : Int) (a : Str) (hn : 8 * left s st + 1 ≤ n) : Tot s (argsP s n op a st) (left s st + 1) := by
  unfold argsP
  split
  · exact .of (.ok hv (by omega))
  split
  · exact .of ((must_tot hv _).bind fun _ st1 v1 l1 => (big_tot v1).bind fun lo st2 v2 l2 => (must_tot v2 _).bind fun _ st3 v3 l3 => (big_tot v3).bind fun hi st4 v4 l4 => .ok v4 (by omega))
  · refine (Tot.of (comma_tot hv)).bind fun b st1 v1 l1 => ?_
    split
    · exact .of ((must_tot v1 _).bind fun _ st2 v2 l2 => (signed_tot v2).bind fun lo st3 v3 l3 => (must_tot v3 _).bind fun _ st4 v4 l4 => (signed_tot v4).bind fun hi st5 v5 l5 => .ok v5 (by omega))
    split
    · exact .of ((comma_tot v1).bind fun nm st2 v2 l2 => .ok v2 (by omega))
    split
    · exact (args_tot n st1 [] v1 (by omega)).bind fun l st2 v2 l2 => .of (.ok v2 (by omega))
    · exact .of (.ok v1 (by omega))

theorem gatom_tot {st : S} (hv : V s st) (n : Nat) (hn : 8 * left s st ≤ n) : Tot s (gatomP s n st) (left s st) := by
  unfold gatomP
  refine (Tot.of (text_tot hv (by omega))).bind fun name st1 v1 l1 => ?_
  split
  · rename_i h
    have := sign_left v1 h.2
    simp only [nxt] at this ⊢
    refine (Tot.of (text_tot v1.next (by omega))).bind fun a st2 v2 l2 => ?_
    exact (argsP_tot v2 n _ a (by omega)).bind fun g st3 v3 l3 => .of ((must_tot v3 _).bind fun _ st4 v4 l4 => .ok v4 (by omega))
  · refine .of ((must_tot v1 _).bind fun _ st2 v2 l2 => (text_tot v2 (by omega)).bind fun nm st3 v3 l3 => (must_tot v3 _).bind fun _ st4 v4 l4 => ?_)
    split
    · exact (text_tot v4 (by omega)).bind fun b st5 v5 l5 => (must_tot v5 _).bind fun _ st6 v6 l6 => (text_tot v6 (by omega)).bind fun arg st7 v7 l7 => .ok v7 (by omega)
    · exact (text_tot v4 (by omega)).bind fun v st5 v5 l5 => (fold_tot v5).bind fun f st6 v6 l6 => .ok v6 (by omega)

theorem con_tot : ∀ n : Nat, (∀ (st : S), V s st → 8 * left s st + 3 ≤ n → Tot s (gorP s n st) (left s st)) ∧ (∀ (st : S) (l : List Con), V s st → 8 * left s st + 1 ≤ n → Tot s (gorL s n l st) (left s st + 1)) ∧
    (∀ (st : S), V s st → 8 * left s st + 2 ≤ n → Tot s (gandP s n st) (left s st)) ∧ (∀ (st : S) (l : List Con), V s st → 8 * left s st + 1 ≤ n → Tot s (gandL s n l st) (left s st + 1)) ∧ (∀ (st : S), V s st → 8 * left s st + 1 ≤ n → Tot s (gnotP s n st) (left s st)) := by
  intro n
  induction n with
  | zero => refine ⟨?_, ?_, ?_, ?_, ?_⟩ <;> · intros; omega
  | succ n ih =>
    obtain ⟨i1, i2, i3, i4, i5⟩ := ih
    refine ⟨fun st hv hn => ?_, fun st l hv hn => ?_, fun st hv hn => ?_, fun st l hv hn => ?_, fun st hv hn => ?_⟩
    · exact (i3 st hv (by omega)).bind fun a st1 v1 l1 => (i2 st1 [a] v1 (by omega)).mono (by omega)
    · simp only [gorL]
      split
      · rename_i h
        have := sign_left hv h
        exact (i3 _ hv.next (by simp only [nxt] at this ⊢; omega)).bind fun a st1 v1 l1 => (i2 st1 _ v1 (by simp only [nxt] at this l1; omega)).mono (by simp only [nxt] at this l1; omega)
      · exact .of (.ok hv (by omega))
    · exact (i5 st hv (by omega)).bind fun a st1 v1 l1 => (i4 st1 [a] v1 (by omega)).mono (by omega)
    · simp only [gandL]
      split
      · rename_i h
        have := sign_left hv h
        exact (i5 _ hv.next (by simp only [nxt] at this ⊢; omega)).bind fun a st1 v1 l1 => (i4 st1 _ v1 (by simp only [nxt] at this l1; omega)).mono (by simp only [nxt] at this l1; omega)
      · exact .of (.ok hv (by omega))
    · simp only [gnotP]
      split
      · rename_i h
        have := sign_left hv h
        exact (i5 _ hv.next (by simp only [nxt] at this ⊢; omega)).bind fun a st1 v1 l1 => .of (.ok v1 (by simp only [nxt] at this l1; omega))
      · split
        · rename_i h
          have := sign_left hv h
          exact (i1 _ hv.next (by simp only [nxt] at this ⊢; omega)).bind fun a st1 v1 l1 => .of ((must_tot v1 _).bind fun _ st2 v2 l2 => .ok v2 (by simp only [nxt] at this l1; omega))
        · exact gatom_tot hv n (by omega)

theorem filters_tot : ∀ (n : Nat) (st : S) (l : List Flt), V s st → 8 * left s st + 1 ≤ n → Tot s (filtersL s n l st) (left s st + 1) := by
  intro n
  induction n with
  | zero => intros; omega
  | succ n ih =>
    intro st l hv hn
    simp only [filtersL]
    split
    · have key : ∀ st', V s st' → left s st' ≤ left s st → Tot s (if st'.1.kind ≠ 2 ∨ wordNo filterWords st'.1.text < 1 then some (R.bad st'.1.pos 3) else bindO (some (textP s 2 (nxt s st'))) fun r st1 => filtersL s n (l ++ [⟨wordNo filterWords st'.1.text, isSign [33] st, r⟩]) st1) (left s st + 1) := by
        intro st' hv' hl
        split
        · exact .of .bad
        · rename_i hc
          have := left_nxt hv' (by omega)
          simp only [nxt] at this ⊢
          exact (Tot.of (text_tot hv'.next (by omega))).bind fun r st1 v1 l1 => (ih st1 _ v1 (by omega)).mono (by omega)
      by_cases h1 : isSign [33] st = true
      · simp only [h1, if_true]
        have := key (nxt s st) hv.next (by have := sign_left hv h1; omega)
        rw [h1] at this
        exact this
      · have h1' : isSign [33] st = false := by simpa using h1
        have := key st hv (Nat.le_refl _)
        rw [h1'] at this ⊢
        exact this
    · exact .of (.ok hv (by omega))

theorem strategy_tot {st : S} (hv : V s st) : TotR s (strategyP s st) (left s st + 1) := by
  unfold strategyP
  split
  · rename_i h
    have := left_nxt hv (by simp only [isWord, Bool.and_eq_true, beq_iff_eq] at h; omega)
    split
    · rename_i h2
      have h3 := left_nxt (st := nxt s st) hv.next (by simp only [isWord, Bool.and_eq_true, beq_iff_eq] at h2; omega)
      exact .ok (st := nxt s (nxt s st)) (V.next (st := nxt s st) hv.next) (by omega)
    · exact .bad
  · exact .ok hv (by omega)

/-- FUEL ENOUGH. -/
theorem query_tot (n : Nat) (hn : 8 * s.length + 4 ≤ n) : ∃ r, queryP s n = some r := by
  have h0 : V s (lexAt s 0) := ⟨0, Nat.zero_le _, rfl⟩
  have hle : ∀ st, left s st ≤ s.length := fun st => by unfold left; omega
  have : Tot s (queryP s n) (s.length + 1) := by
    unfold queryP
    refine ((pat_tot n).1 _ false h0 (by have := hle (lexAt s 0); omega)).bind fun p st1 v1 l1 => ?_
    have l1' := hle st1
    refine Tot.bind (b := left s st1 + 1) (?_ : Tot s (if isSign [58, 58] st1 then gorP s n (nxt s st1) else some (.ok Con.zero st1)) _) fun g st2 v2 l2 => ?_
    · split
      · rename_i h
        have := sign_left v1 h
        exact ((con_tot n).1 _ v1.next (by simp only [nxt] at this ⊢; omega)).mono (by simp only [nxt] at this ⊢; omega)
      · exact .of (.ok v1 (by omega))
    have l2' := hle st2
    refine (filters_tot n st2 [] v2 (by omega)).bind fun fs st3 v3 l3 => ?_
    have l3' := hle st3
    refine (Tot.of (strategy_tot v3)).bind fun k st4 v4 l4 => ?_
    have l4' := hle st4
    split
    · exact .of (.ok v4 (by omega))
    · exact .of .bad
  obtain ⟨r, hr, _⟩ := this
  exact ⟨r, hr⟩
end
end Go.Q

/- What is read has short lists. Plain Lean, no program in sight; no conditions. -/
namespace Go.Q

inductive CondOK (M : Nat) : Cond → Prop where
  | mk (op name arg value label fold kids) : kids.length ≤ M → (∀ k, k ∈ kids → CondOK M k) → CondOK M (.mk op name arg value label fold kids)
inductive PatOK (M : Nat) : Pat → Prop where
  | mk (op cond label region lo hi kids) : CondOK M cond → kids.length ≤ M → (∀ k, k ∈ kids → PatOK M k) → PatOK M (.mk op cond label region lo hi kids)
inductive ConOK (M : Nat) : Con → Prop where
  | mk (op a b name arg value fold lo hi args kids) : args.length ≤ M → kids.length ≤ M → (∀ k, k ∈ kids → ConOK M k) → ConOK M (.mk op a b name arg value fold lo hi args kids)
structure QryOK (M : Nat) (q : Qry) : Prop where
  pat : PatOK M q.pat
  glob : ConOK M q.glob
  filters : q.filters.length ≤ M

/-- What is read, is so. -/
def Ok {α : Type} (p : α → Prop) (r : R α) : Prop := ∀ a st, r = .ok a st → p a
def OkO {α : Type} (p : α → Prop) (x : Option (R α)) : Prop := ∀ r, x = some r → Ok p r

section
variable {α β : Type} {p : α → Prop} {q : β → Prop}
theorem Ok.ok {a : α} {st : S} (h : p a) : Ok p (.ok a st) := by intro b st' he; injection he with h1 h2; subst h1; exact h
theorem Ok.bad {n : Nat} {e : Int} : Ok p (R.bad n e) := fun a st he => by cases he
theorem Ok.bind {r : R α} {f : α → S → R β} (h : Ok p r) (hf : ∀ a st, p a → Ok q (f a st)) : Ok q (r.bind f) := by
  cases r with
  | ok a st => exact hf a st (h a st rfl)
  | bad n e => exact .bad
theorem Ok.bindT {r : R α} {f : α → S → R β} (hf : ∀ a st, Ok q (f a st)) : Ok q (r.bind f) := Ok.bind (p := fun _ => True) (fun _ _ _ => trivial) fun a st _ => hf a st
theorem OkO.of {r : R α} (h : Ok p r) : OkO p (some r) := by intro r' he; injection he with he; subst he; exact h
theorem OkO.none : OkO p none := fun r h => by cases h
theorem OkO.bind {x : Option (R α)} {f : α → S → Option (R β)} (h : OkO p x) (hf : ∀ a st, p a → OkO q (f a st)) : OkO q (bindO x f) := by
  rcases x with _ | (⟨a, st⟩ | ⟨n, e⟩)
  · exact .none
  · exact hf a st (h _ rfl a st rfl)
  · exact .of .bad
theorem OkO.bindT {x : Option (R α)} {f : α → S → Option (R β)} (hf : ∀ a st, OkO q (f a st)) : OkO q (bindO x f) := OkO.bind (p := fun _ => True) (fun _ _ _ _ _ => trivial) fun a st _ => hf a st
end

section
variable {s : Str} {M : Nat}

theorem cond_leaf {op : Int} {a b c d : Str} {f : Bool} : CondOK M (.mk op a b c d f []) := .mk _ _ _ _ _ _ _ (Nat.zero_le _) fun _ h => by cases h
theorem cond_one (hM : 1 ≤ M) {op : Int} {a b c d : Str} {f : Bool} {k : Cond} (h : CondOK M k) : CondOK M (.mk op a b c d f [k]) := .mk _ _ _ _ _ _ _ hM fun x hx => by
  rw [List.mem_singleton] at hx; subst hx; exact h
theorem all_snoc {α : Type} {p : α → Prop} {l : List α} {a : α} (h : ∀ k, k ∈ l → p k) (ha : p a) : ∀ k, k ∈ l ++ [a] → p k := by
  intro k hk
  rcases List.mem_append.1 hk with hk | hk
  · exact h k hk
  · rw [List.mem_singleton] at hk; subst hk; exact ha
theorem all_one {α : Type} {p : α → Prop} {a : α} (ha : p a) : ∀ k, k ∈ [a] → p k := fun k hk => by rw [List.mem_singleton] at hk; subst hk; exact ha
theorem manyC_ok {op : Int} {l : List Cond} (h : ∀ k, k ∈ l → CondOK M k) (hl : l.length ≤ M) : CondOK M (manyC op l) := by
  unfold manyC
  split
  · exact h _ (List.mem_singleton.2 rfl)
  · exact .mk _ _ _ _ _ _ _ hl h

theorem atom_ok (hM : 1 ≤ M) (st : S) : Ok (CondOK M) (atomP s st) := by
  unfold atomP
  refine .bindT fun name st1 => ?_
  split
  · refine .bindT fun ty st2 => ?_
    split
    · exact .bindT fun _ _ => .bindT fun _ _ => .bindT fun _ _ => .bindT fun _ _ => .ok cond_leaf
    · exact .bindT fun _ _ => .ok cond_leaf
  · split
    · exact .bindT fun _ _ => .ok cond_leaf
    · split
      · exact .bindT fun _ _ => .bindT fun _ _ => .ok (cond_one hM cond_leaf)
      · refine .bindT fun _ st2 => ?_
        split
        · exact .bindT fun _ _ => .bindT fun _ _ => .bindT fun _ _ => .ok cond_leaf
        · exact .bindT fun _ _ => .bindT fun _ _ => .ok cond_leaf

theorem cond_ok : ∀ n : Nat, n < M → (∀ st, OkO (CondOK M) (orP s n st)) ∧ (∀ l st, (∀ k, k ∈ l → CondOK M k) → l.length + n ≤ M → OkO (CondOK M) (orL s n l st)) ∧
    (∀ st, OkO (CondOK M) (andP s n st)) ∧ (∀ l st, (∀ k, k ∈ l → CondOK M k) → l.length + n ≤ M → OkO (CondOK M) (andL s n l st)) ∧ (∀ st, OkO (CondOK M) (notP s n st)) := by
  intro n
  induction n with
  | zero => exact fun _ => ⟨fun _ => .none, fun _ _ _ _ => .none, fun _ => .none, fun _ _ _ _ => .none, fun _ => .none⟩
  | succ n ih =>
    intro hn
    obtain ⟨i1, i2, i3, i4, i5⟩ := ih (by omega)
    refine ⟨fun st => ?_, fun l st hl hc => ?_, fun st => ?_, fun l st hl hc => ?_, fun st => ?_⟩
    · exact (i3 st).bind fun a st1 ha => i2 [a] st1 (all_one ha) (by simp only [List.length_cons, List.length_nil]; omega)
    · rw [orL]
      split
      · exact (i3 _).bind fun a st1 ha => i2 _ st1 (all_snoc hl ha) (by simp only [List.length_append, List.length_cons, List.length_nil]; omega)
      · exact .of (.ok (manyC_ok hl (by omega)))
    · exact (i5 st).bind fun a st1 ha => i4 [a] st1 (all_one ha) (by simp only [List.length_cons, List.length_nil]; omega)
    · rw [andL]
      split
      · exact (i5 _).bind fun a st1 ha => i4 _ st1 (all_snoc hl ha) (by simp only [List.length_append, List.length_cons, List.length_nil]; omega)
      · exact .of (.ok (manyC_ok hl (by omega)))
    · rw [notP]
      split
      · exact (i5 _).bind fun a st1 ha => .of (.ok (cond_one (by omega) ha))
      · split
        · exact (i1 _).bind fun a st1 ha => .of (.bindT fun _ _ => .ok ha)
        · exact .of (atom_ok (by omega) _)

theorem pat_leaf {op : Int} {c : Cond} {a b : Str} {lo hi : Int} (hc : CondOK M c) : PatOK M (.mk op c a b lo hi []) := .mk _ _ _ _ _ _ _ hc (Nat.zero_le _) fun _ h => by cases h
theorem manyP_ok {op : Int} {l : List Pat} (h : ∀ k, k ∈ l → PatOK M k) (hl : l.length ≤ M) : PatOK M (manyP op l) := by
  unfold manyP
  split
  · exact h _ (List.mem_singleton.2 rfl)
  · exact .mk _ _ _ _ _ _ _ cond_leaf hl h

theorem token_ok {n : Nat} (hn : n < M) (label : Str) (st : S) : OkO (PatOK M) (tokenP s n label st) := by
  unfold tokenP
  split
  · split
    · exact .of (.bindT fun _ _ => .ok (pat_leaf cond_leaf))
    · exact ((cond_ok n hn).1 _).bind fun c st1 hc => .of (.bindT fun _ _ => .ok (pat_leaf hc))
  · exact .of (.bindT fun _ _ => .bindT fun _ _ => .ok (pat_leaf cond_leaf))

theorem pat_ok : ∀ n : Nat, n < M → (∀ b st, OkO (PatOK M) (altP s n b st)) ∧ (∀ b l st, (∀ k, k ∈ l → PatOK M k) → l.length + n ≤ M → OkO (PatOK M) (altL s n b l st)) ∧
    (∀ b st, OkO (PatOK M) (seqP s n b st)) ∧ (∀ b l st, (∀ k, k ∈ l → PatOK M k) → l.length + n ≤ M → OkO (PatOK M) (seqL s n b l st)) ∧ (∀ st, OkO (PatOK M) (repP s n st)) ∧
    (∀ p st, PatOK M p → OkO (PatOK M) (repL s n p st)) ∧ (∀ st, OkO (PatOK M) (itemP s n st)) := by
  intro n
  induction n with
  | zero => exact fun _ => ⟨fun _ _ => .none, fun _ _ _ _ _ => .none, fun _ _ => .none, fun _ _ _ _ _ => .none, fun _ => .none, fun _ _ _ => .none, fun _ => .none⟩
  | succ n ih =>
    intro hn
    obtain ⟨i1, i2, i3, i4, i5, i6, i7⟩ := ih (by omega)
    refine ⟨fun b st => ?_, fun b l st hl hc => ?_, fun b st => ?_, fun b l st hl hc => ?_, fun st => ?_, fun p st hp => ?_, fun st => ?_⟩
    · exact (i3 b st).bind fun a st1 ha => i2 b [a] st1 (all_one ha) (by simp only [List.length_cons, List.length_nil]; omega)
    · rw [altL]
      split
      · exact (i3 b _).bind fun a st1 ha => i2 b _ st1 (all_snoc hl ha) (by simp only [List.length_append, List.length_cons, List.length_nil]; omega)
      · exact .of (.ok (manyP_ok hl (by omega)))
    · exact (i5 st).bind fun a st1 ha => i4 b [a] st1 (all_one ha) (by simp only [List.length_cons, List.length_nil]; omega)
    · rw [seqL]
      split
      · exact (i5 _).bind fun a st1 ha => i4 b _ st1 (all_snoc hl ha) (by simp only [List.length_append, List.length_cons, List.length_nil]; omega)
      · exact .of (.ok (manyP_ok hl (by omega)))
    · exact (i7 st).bind fun a st1 ha => i6 a st1 ha
    · rw [repL]
      split
      · exact .of (.ok hp)
      · exact .of .bad
      · refine i6 _ _ (.mk _ _ _ _ _ _ _ cond_leaf (by simp only [List.length_cons, List.length_nil]; omega) (all_one hp))
    · rw [itemP]
      split
      · exact .of (.bindT fun _ _ => .bindT fun _ _ => .ok (pat_leaf cond_leaf))
      · split
        · exact .of (.bindT fun _ _ => .bindT fun _ _ => .ok (pat_leaf cond_leaf))
        · split
          · exact (i1 true _).bind fun a st1 ha => .of (.bindT fun _ _ => .ok ha)
          · split
            · exact .bindT fun l st1 => token_ok (by omega) l st1
            · exact token_ok (by omega) _ _

theorem con_leaf {op : Int} {a b c d e : Str} {f : Bool} {lo hi : Int} {l : List Str} (hl : l.length ≤ M) : ConOK M (.mk op a b c d e f lo hi l []) := .mk _ _ _ _ _ _ _ _ _ _ _ hl (Nat.zero_le _) fun _ h => by cases h
theorem con_0 {op : Int} {a b c d e : Str} {f : Bool} {lo hi : Int} : ConOK M (.mk op a b c d e f lo hi [] []) := con_leaf (Nat.zero_le _)
theorem manyG_ok {op : Int} {l : List Con} (h : ∀ k, k ∈ l → ConOK M k) (hl : l.length ≤ M) : ConOK M (manyG op l) := by
  unfold manyG
  split
  · exact h _ (List.mem_singleton.2 rfl)
  · exact .mk _ _ _ _ _ _ _ _ _ _ _ (Nat.zero_le _) hl h
theorem argsL_ok : ∀ (n : Nat) (l : List Str) (st : S), l.length + n ≤ M → OkO (fun l => l.length ≤ M) (argsL s n l st)
  | 0, _, _, _ => .none
  | n + 1, l, st, h => by
    rw [argsL]
    split
    · exact .bindT fun a st1 => argsL_ok n _ st1 (by simp only [List.length_append, List.length_cons, List.length_nil]; omega)
    · exact .of (.ok (by omega))
theorem args_ok {n : Nat} (hn : n < M) (op : Int) (a : Str) (st : S) : OkO (ConOK M) (argsP s n op a st) := by
  unfold argsP
  split
  · exact .of (.ok con_0)
  · split
    · exact .of (.bindT fun _ _ => .bindT fun _ _ => .bindT fun _ _ => .bindT fun _ _ => .ok con_0)
    · refine .bindT fun b st1 => ?_
      split
      · exact .of (.bindT fun _ _ => .bindT fun _ _ => .bindT fun _ _ => .bindT fun _ _ => .ok con_0)
      · split
        · exact .of (.bindT fun _ _ => .ok con_0)
        · split
          · exact (argsL_ok n [] st1 (by simp only [List.length_nil]; omega)).bind fun l st2 hl => .of (.ok (con_leaf hl))
          · exact .of (.ok con_0)
theorem gatom_ok {n : Nat} (hn : n < M) (st : S) : OkO (ConOK M) (gatomP s n st) := by
  unfold gatomP
  refine .bindT fun name st1 => ?_
  split
  · exact .bindT fun a st2 => (args_ok hn _ a st2).bind fun g st3 hg => .of (.bindT fun _ _ => .ok hg)
  · refine .of (.bindT fun _ _ => .bindT fun _ _ => .bindT fun _ st2 => ?_)
    split
    · exact .bindT fun _ _ => .bindT fun _ _ => .bindT fun _ _ => .ok con_0
    · exact .bindT fun _ _ => .bindT fun _ _ => .ok con_0

theorem con_ok : ∀ n : Nat, n < M → (∀ st, OkO (ConOK M) (gorP s n st)) ∧ (∀ l st, (∀ k, k ∈ l → ConOK M k) → l.length + n ≤ M → OkO (ConOK M) (gorL s n l st)) ∧
    (∀ st, OkO (ConOK M) (gandP s n st)) ∧ (∀ l st, (∀ k, k ∈ l → ConOK M k) → l.length + n ≤ M → OkO (ConOK M) (gandL s n l st)) ∧ (∀ st, OkO (ConOK M) (gnotP s n st)) := by
  intro n
  induction n with
  | zero => exact fun _ => ⟨fun _ => .none, fun _ _ _ _ => .none, fun _ => .none, fun _ _ _ _ => .none, fun _ => .none⟩
  | succ n ih =>
    intro hn
    obtain ⟨i1, i2, i3, i4, i5⟩ := ih (by omega)
    refine ⟨fun st => ?_, fun l st hl hc => ?_, fun st => ?_, fun l st hl hc => ?_, fun st => ?_⟩
    · exact (i3 st).bind fun a st1 ha => i2 [a] st1 (all_one ha) (by simp only [List.length_cons, List.length_nil]; omega)
    · rw [gorL]
      split
      · exact (i3 _).bind fun a st1 ha => i2 _ st1 (all_snoc hl ha) (by simp only [List.length_append, List.length_cons, List.length_nil]; omega)
      · exact .of (.ok (manyG_ok hl (by omega)))
    · exact (i5 st).bind fun a st1 ha => i4 [a] st1 (all_one ha) (by simp only [List.length_cons, List.length_nil]; omega)
    · rw [gandL]
      split
      · exact (i5 _).bind fun a st1 ha => i4 _ st1 (all_snoc hl ha) (by simp only [List.length_append, List.length_cons, List.length_nil]; omega)
      · exact .of (.ok (manyG_ok hl (by omega)))
    · rw [gnotP]
      split
      · exact (i5 _).bind fun a st1 ha => .of (.ok (.mk _ _ _ _ _ _ _ _ _ _ _ (Nat.zero_le _) (by simp only [List.length_cons, List.length_nil]; omega) (all_one ha)))
      · split
        · exact (i1 _).bind fun a st1 ha => .of (.bindT fun _ _ => .ok ha)
        · exact gatom_ok (by omega) _

theorem filtersL_ok : ∀ (n : Nat) (l : List Flt) (st : S), l.length + n ≤ M → OkO (fun l => l.length ≤ M) (filtersL s n l st)
  | 0, _, _, _ => .none
  | n + 1, l, st, h => by
    rw [filtersL]
    split
    · dsimp only
      generalize (if isSign [33] st = true then nxt s st else st) = st2
      split
      · exact .of .bad
      · exact .bindT fun a st1 => filtersL_ok n _ st1 (by simp only [List.length_append, List.length_cons, List.length_nil]; omega)
    · exact .of (.ok (by omega))

theorem query_ok {n : Nat} (hn : n < M) : OkO (QryOK M) (queryP s n) := by
  unfold queryP
  refine ((pat_ok n hn).1 _ _).bind fun p st hp => OkO.bind (p := ConOK M) ?_ fun g st1 hg => (filtersL_ok (M := M) n [] st1 (by simp only [List.length_nil]; omega)).bind fun fs st2 hf => .bindT fun k st3 => ?_
  · split
    · exact (con_ok n hn).1 _
    · exact .of (.ok con_0)
  · split
    · exact .of (.ok ⟨hp, hg, hf⟩)
    · exact .of .bad
end
end Go.Q

/- Sizes, shapes and leaves of patterns and conditions, in plain Lean. No program in sight; no conditions. -/
namespace Go.Q

mutual
/-- The nesting is at most a hundred. -/
def shallowB : Pat → Nat → Bool
  | .mk _ _ _ _ _ _ kids, d => decide (d ≤ 100) && shallowBs kids (d + 1)
def shallowBs : List Pat → Nat → Bool
  | [], _ => true
  | p :: r, d => shallowB p d && shallowBs r d
end

mutual
/-- All nodes of a pattern. -/
def allP (F : Pat → Bool) : Pat → Bool
  | .mk op cond label region lo hi kids => F (.mk op cond label region lo hi kids) && allPs F kids
def allPs (F : Pat → Bool) : List Pat → Bool
  | [] => true
  | p :: r => allP F p && allPs F r
end

theorem shallowBs_all (d : Nat) : ∀ l, shallowBs l d = l.all fun p => shallowB p d
  | [] => rfl
  | p :: r => by rw [shallowBs, shallowBs_all d r]; rfl
theorem allPs_all (F : Pat → Bool) : ∀ l, allPs F l = l.all (allP F)
  | [] => rfl
  | p :: r => by rw [allPs, allPs_all F r]; rfl

def zeroC : Cond → Bool
  | .mk op name arg value label fold kids => op == 0 && name == [] && arg == [] && value == [] && label == [] && !fold && kids.length == 0

/-- A node of a pattern has what its kind uses, and no more. -/
def nodeB : Pat → Bool
  | .mk op cond label region lo hi kids =>
    if op = 1 then (region == [] && (lo == 0 && hi == 0)) && kids.length == 0
    else if op = 2 ∨ op = 3 then ((zeroC cond && label == []) && (lo == 0 && hi == 0)) && kids.length == 0
    else if op = 4 ∨ op = 5 then (((zeroC cond && label == []) && region == []) && (lo == 0 && hi == 0)) && decide (2 ≤ kids.length)
    else if op = 6 then ((zeroC cond && label == []) && region == []) && kids.length == 1
    else false

def beginsB (c : UInt8) : Bool := decide (65 ≤ c.toNat) && decide (c.toNat ≤ 90) || decide (97 ≤ c.toNat) && decide (c.toNat ≤ 122) || c.toNat == 95
def goesOnB (c : UInt8) : Bool := beginsB c || decide (48 ≤ c.toNat) && decide (c.toNat ≤ 57) || c.toNat == 45
def nameB (s : Str) : Bool := decide (1 ≤ s.length) && decide (s.length ≤ 32) && beginsB (s.getD 0 0) && s.all goesOnB

def namedB : Pat → Bool
  | .mk op _ label region _ _ _ => (!(op == 2 || op == 3) || nameB region) && (label == [] || nameB label)
def rangedB : Pat → Bool
  | .mk op _ _ _ lo hi _ => op != 6 || decide (0 ≤ lo) && decide (lo ≤ 16) && (hi == -1 || decide (lo ≤ hi) && decide (hi ≤ 16))

def shapeP (p : Pat) : Bool := shallowB p 1 && allP nodeB p
def rightP (p : Pat) : Bool := shapeP p && allP namedB p && allP rangedB p

mutual
def sizeP : Pat → Int
  | .mk op _ _ _ lo hi kids => if kids.length = 0 then 1 else if op ≠ 6 ∨ hi = 0 then sizePs kids 0 else if hi < 0 then min (sizePs kids 0 * (lo + 1)) 1000 else min (sizePs kids 0 * hi) 1000
def sizePs : List Pat → Int → Int
  | [], n => n
  | p :: r, n => sizePs r (min (n + sizeP p) 1000)
end

def SizeP (p : Pat) : Int := if rightP p then sizeP p else 0

def cloneP : Pat → Pat
  | .mk op cond label _ _ _ _ => .mk op cond label [] 0 0 []

mutual
/-- The token patterns. -/
def leavesP : Pat → List Pat
  | .mk op cond label region lo hi kids => if op = 1 then [.mk op cond label [] 0 0 []] else leavesPs kids
def leavesPs : List Pat → List Pat
  | [] => []
  | p :: r => leavesP p ++ leavesPs r
end

mutual
/-- Nodes and levels of a condition, counted until there are too many. -/
def measC : Cond → Nat → Nat → Nat × Nat
  | .mk _ _ _ _ _ _ kids, n, d => measCs kids (n + 1) d d
def measCs : List Cond → Nat → Nat → Nat → Nat × Nat
  | [], n, _, m => (n, m)
  | k :: r, n, d, m => if n > 60 then (n, m) else measCs r (measC k n (d + 1)).1 d (max m (measC k n (d + 1)).2)
end

mutual
def allC (F : Cond → Bool) : Cond → Bool
  | .mk op name arg value label fold kids => F (.mk op name arg value label fold kids) && allCs F kids
def allCs (F : Cond → Bool) : List Cond → Bool
  | [] => true
  | p :: r => allC F p && allCs F r
end

/-- A node of a condition has what its kind uses, and no more. -/
def shapeC : Cond → Bool
  | .mk op name arg value label fold kids =>
    if op = 1 then kids.length == 0 && name == [] && arg == [] && value == [] && label == [] && fold == false
    else if op = 2 then kids.length == 0 && arg == [] && label == []
    else if op = 3 then kids.length == 0 && arg == [] && label == [] && fold == false
    else if op = 4 then kids.length == 0 && value == [] && fold == false
    else if op = 5 then (if arg == [] && value != [] then false else kids.length == 0 && label == [] && fold == false)
    else if op = 6 then kids.length == 1 && name == [] && arg == [] && value == [] && label == [] && fold == false
    else if op = 7 ∨ op = 8 then decide (2 ≤ kids.length) && decide (kids.length ≤ 60) && name == [] && arg == [] && value == [] && label == [] && fold == false
    else false

def ShapeC (x : Cond) : Bool := decide ((measC x 0 1).1 ≤ 60) && decide ((measC x 0 1).2 ≤ 20) && allC shapeC x

def noneG : Con → Bool
  | .mk op a b name arg value fold lo hi args kids => op == 0 && a == [] && b == [] && name == [] && arg == [] && value == [] && !fold && lo == 0 && hi == 0 && args.length == 0 && kids.length == 0

end Go.Q

/- Rewriting rules in two bundles, and small searches as terms. No conditions. -/
namespace Go.Proofs
open Go.Abs Go.Q

theorem sbb1 : (∀ {α β : Type} {a : α} {st : S} {f : α → S → R β}, (R.ok a st).bind f = f a st) ∧ (∀ {α β : Type} {p : Nat} {e : Int} {f : α → S → R β}, (R.bad (α := α) p e).bind f = .bad p e) ∧
    (∀ {α β : Type} {a : α} {st : S} {f : α → S → Option (R β)}, bindO (some (.ok a st)) f = f a st) ∧ (∀ {α β : Type} {p : Nat} {e : Int} {f : α → S → Option (R β)}, bindO (some (R.bad (α := α) p e)) f = some (.bad p e)) ∧
    (∀ {α : Type} {x : Decidable True} (t e : α), @ite α True x t e = t) ∧ (∀ {α : Type} {x : Decidable False} (t e : α), @ite α False x t e = e) ∧ ((false = true) = False) :=
  ⟨bind_ok, bind_bad, bindO_ok, bindO_bad, fun _ _ => if_pos trivial, fun _ _ => if_neg id, Bool.false_eq_true⟩

theorem sbb : ((∀ {α β : Type} {a : α} {st : S} {f : α → S → R β}, (R.ok a st).bind f = f a st) ∧ (∀ {α β : Type} {p : Nat} {e : Int} {f : α → S → R β}, (R.bad (α := α) p e).bind f = .bad p e) ∧
    (∀ {α β : Type} {a : α} {st : S} {f : α → S → Option (R β)}, bindO (some (.ok a st)) f = f a st) ∧ (∀ {α β : Type} {p : Nat} {e : Int} {f : α → S → Option (R β)}, bindO (some (R.bad (α := α) p e)) f = some (.bad p e)) ∧
    (∀ {α : Type} {x : Decidable True} (t e : α), @ite α True x t e = t) ∧ (∀ {α : Type} {x : Decidable False} (t e : α), @ite α False x t e = e) ∧ ((false = true) = False)) ∧
    (∀ b : Bool, (b && true) = b) ∧ (∀ b : Bool, (b && false) = false) ∧ (∀ b : Bool, (true && b) = b) ∧ (∀ b : Bool, (false && b) = false) ∧ (∀ b : Bool, (b || true) = true) ∧ (∀ b : Bool, (b || false) = b) ∧ ((!true) = false) ∧ ((!false) = true) :=
  ⟨sbb1, Bool.and_true, Bool.and_false, Bool.true_and, Bool.false_and, Bool.or_true, Bool.or_false, rfl, rfl⟩
end Go.Proofs
