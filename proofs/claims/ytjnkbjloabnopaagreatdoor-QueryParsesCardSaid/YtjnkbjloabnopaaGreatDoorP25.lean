/- The tokens that the reference makes are in order, and are the list of Q3. No conditions. -/
import Derived.Test.YtjnkbjloabnopaaGreatDoorP24
namespace Go.Proofs
open Go.Abs Go.Q
section
variable {s : Str}

theorem quo_len : ∀ (n : Nat) (r : Str) (v : Str) (k : Nat), r.length ≤ n → quo r = some (v, k) → v.length ≤ r.length := by
  intro n
  induction n with
  | zero => intro r v k hr hq; obtain rfl := List.eq_nil_of_length_eq_zero (Nat.le_zero.1 hr); cases hq
  | succ n ih =>
    intro r v k hr hq
    match r, hr, hq with
    | [c], _, hq =>
      simp only [quo] at hq
      split at hq
      · injection hq with hq; simp only [Prod.mk.injEq] at hq; rw [← hq.1]; simp
      · cases hq
    | c :: d :: r, hr, hq =>
      simp only [quo] at hq
      simp only [List.length_cons] at hr ⊢
      split at hq
      · split at hq
        · obtain ⟨⟨v2, k2⟩, h3, h4⟩ := Option.map_eq_some_iff.1 hq
          simp only [Prod.mk.injEq] at h4
          have := ih r v2 k2 (by omega) h3
          rw [← h4.1]
          simp
          omega
        · injection hq with hq; simp only [Prod.mk.injEq] at hq; rw [← hq.1]; simp
      · obtain ⟨⟨v2, k2⟩, h3, h4⟩ := Option.map_eq_some_iff.1 hq
        simp only [Prod.mk.injEq] at h4
        have := ih (d :: r) v2 k2 (by simp; omega) h3
        rw [← h4.1]
        simp at this ⊢
        omega

theorem lexAt_text {i : Nat} (hi : i ≤ s.length) : (lexAt s i).1.text.length ≤ s.length + 2 := by
  obtain ⟨j, hj⟩ : ∃ j, j = runEnd isBlank s i := ⟨_, rfl⟩
  have h1 : j ≤ s.length := by rw [hj]; exact runEnd_le hi
  by_cases he : j = s.length
  · rw [lex_end hj he]; simp
  · have hjl : j < s.length := by omega
    cases hl : letter (s.getD j 0) with
    | true => rw [lex_name hj hjl hl]; simp; omega
    | false =>
      cases hd : digit (s.getD j 0) with
      | true => rw [lex_num hj hjl hl hd]; simp; omega
      | false =>
        by_cases hq : s.getD j 0 = 34
        · rw [lex_str hj hjl hl hd hq]
          split
          · rename_i v n hv
            unfold quoAt at hv
            obtain ⟨⟨v2, k2⟩, h3, h4⟩ := Option.map_eq_some_iff.1 hv
            simp only [Prod.mk.injEq, List.nil_append] at h4
            have := quo_len _ _ _ _ (Nat.le_refl _) h3
            rw [List.length_drop] at this
            rw [← h4.1]
            simp only
            omega
          · simp
        · rw [lex_sign hj hjl hl hd hq]
          split
          · rename_i x hx
            rw [signAt_find] at hx
            have := sign_len (List.mem_of_find?_eq_some hx)
            simp only
            omega
          · simp

theorem nextPos_le (m : Nat) : nextPos s m ≤ s.length := by
  cases m with
  | zero => simp [nextPos]
  | succ m => exact (stAt_V s m).le

theorem nextPos_ge (m : Nat) (hk : ∀ i, i < m → 2 ≤ (stAt s i).1.kind) : m ≤ nextPos s m := by
  induction m with
  | zero => exact Nat.zero_le _
  | succ m ih =>
    have h1 := ih fun i hi => hk i (by omega)
    have h2 := (stAt_V s m).lt (hk m (by omega))
    have h3 := (lexAt_le (nextPos_le (s := s) m)).2.1
    rw [← stAt_next] at h3
    show m + 1 ≤ (stAt s m).2
    omega

theorem mapK_kind {k : Nat} (h : mapK k = 110 ∨ mapK k = 100 ∨ mapK k = 115 ∨ mapK k = 111) : 2 ≤ k := by
  match k, h with
  | 0, h => simp [mapK] at h
  | 1, h => simp [mapK] at h
  | k + 2, _ => omega

theorem toks_is {K : Nat} (h1 : (stAt s K).1.kind ≤ 1) (h2 : ∀ i, i < K → 2 ≤ (stAt s i).1.kind) : IsToks s (toksTo s (K + 1)) := ⟨K, h1, h2, rfl⟩

theorem toks_ok {K : Nat} (hs : s.length ≤ 500) (h1 : (stAt s K).1.kind ≤ 1) (h2 : ∀ i, i < K → 2 ≤ (stAt s i).1.kind) : LOk (toksTo s (K + 1)) := by
  have hK := nextPos_ge K h2
  have hK2 := nextPos_le (s := s) K
  have hget : ∀ (i : Nat) (t : Tok), (toksTo s (K + 1))[i]? = some t → i < K + 1 ∧ t = conv (stAt s i).1 := by
    intro i t hi
    have hlt : i < K + 1 := by
      have := (List.getElem?_eq_some_iff.1 hi).1
      rwa [toksTo_length] at this
    refine ⟨hlt, ?_⟩
    unfold toksTo at hi
    rw [List.getElem?_map, List.getElem?_range hlt] at hi
    injection hi with hi
    exact hi.symm
  refine ⟨by rw [toksTo_length]; omega, fun i t hi => ?_, fun i t hi hk => ?_, fun i t hi hk => ?_⟩
  · obtain ⟨h3, rfl⟩ := hget i t hi
    have h4 := lexAt_text (nextPos_le (s := s) i)
    rw [← stAt_next] at h4
    have h5 := (stAt_V s i).pos
    have h6 := (stAt_V s i).le
    show (stAt s i).1.text.length ≤ 1000 ∧ (stAt s i).1.pos ≤ 1000
    omega
  · obtain ⟨h3, rfl⟩ := hget i t hi
    exact ((stAt_V s i).digits (mapK_eq (a := 3) (by omega) hk).symm).1
  · obtain ⟨h3, rfl⟩ := hget i t hi
    have h4 := mapK_kind hk
    rw [toksTo_length]
    by_cases hiK : i = K
    · subst hiK; omega
    · omega
end
end Go.Proofs
