/- The tokens of a text, by the reference. No conditions. -/
import Derived.Test.YtjnkbjloabnopaaGreatDoorP23
namespace Go.Proofs
open Go.Abs Go.Q
attribute [local irreducible] awp aops Run BodyQ ACalls Back
section
variable {G : Nat → Option Obj} {h : AHeap} {s : Str}

theorem c100 (c : UInt8) : ACalls Tryz.prog G 100 [.int .u8 c.toNat] h (Gives (.bool (letter c)) h) := by
  refine en100 (by simp) fun hw => ?_
  refine g7 ?_ ?_ ?_ ?_ ?_ ?_ ?_ <;> (repeat intro hb hc)
  all_goals refine ⟨?_, rfl⟩
  all_goals simp only [AOut.ret.injEq, AVal.bool.injEq, letter]
  all_goals rw [Bool.eq_iff_iff]
  all_goals simp
  all_goals omega

theorem c101 (c : UInt8) : ACalls Tryz.prog G 101 [.int .u8 c.toNat] h (Gives (.bool (digit c)) h) := by
  refine en101 (by simp) fun hw => ?_
  refine g2 ?_ ?_ <;> (repeat intro hb hc)
  all_goals refine ⟨?_, rfl⟩
  all_goals simp only [AOut.ret.injEq, AVal.bool.injEq, digit]
  all_goals rw [Bool.eq_iff_iff]
  all_goals simp
  all_goals omega

def signs : List Str := twos ++ ones.map fun c => [c]

theorem c102 : ACalls Tryz.prog G 102 [] h (Gives (.sl 1 (encSs signs) .frz) h) := by
  refine ACalls.fin (en102 (by simp) fun hw => ?_)
  refine g1 ?_
  exact fin_sub (.refl hw) (.ret _ _ weak_frz) ⟨rfl, rfl⟩

theorem signAt_find (r : Str) : signAt r = signs.find? (fun x => x.isPrefixOf r) := by
  unfold signAt signs
  rw [List.find?_append]
  cases twos.find? (fun x => x.isPrefixOf r) with
  | some x => rfl
  | none =>
    simp only [Option.none_or]
    cases r with
    | nil =>
      symm
      rw [List.find?_eq_none]
      intro x hx
      obtain ⟨c, _, rfl⟩ := List.mem_map.1 hx
      simp
    | cons d t =>
      have key : ∀ l : Str, (l.map fun c => [c]).find? (fun x => x.isPrefixOf (d :: t)) = if l.contains d then some [d] else none := by
        intro l
        induction l with
        | nil => rfl
        | cons c l ih =>
          rw [List.map_cons, List.find?_cons, ih, List.contains_cons]
          by_cases hc : c = d
          · subst hc; simp
          · have h1 : (c == d) = false := by simpa using hc
            have h2 : (d == c) = false := by simpa using fun h => hc h.symm
            simp [List.isPrefixOf, h1, h2]
      exact (key ones).symm

theorem sign_len {x : Str} (hx : x ∈ signs) : 1 ≤ x.length ∧ x.length ≤ 2 := by
  unfold signs at hx
  rcases List.mem_append.1 hx with h1 | h1
  · rw [two_len h1]; decide
  · obtain ⟨c, _, rfl⟩ := List.mem_map.1 h1
    simp

def toksTo (s : Str) (m : Nat) : List Tok := (List.range m).map fun i => conv (stAt s i).1
theorem toksTo_succ (m : Nat) : toksTo s (m + 1) = toksTo s m ++ [conv (stAt s m).1] := by
  unfold toksTo
  rw [List.range_succ, List.map_append]
  rfl
theorem toksTo_length (m : Nat) : (toksTo s m).length = m := by simp [toksTo]
def nextPos (s : Str) : Nat → Nat
  | 0 => 0
  | m + 1 => (stAt s m).2
theorem stAt_next (m : Nat) : stAt s m = lexAt s (nextPos s m) := by cases m <;> rfl
theorem encTs_snoc (l : List Tok) (t : Tok) : encTs (l ++ [t]) = encTs l ++ [encT t] := by simp [encTs]


set_option maxHeartbeats 4000000 in
set_option maxRecDepth 10000 in
theorem c37 (s : Str) (hs : s.length ≤ 1000) : ACalls Tryz.prog G 37 [.str s] h (fun out h' => ∃ K, (stAt s K).1.kind ≤ 1 ∧ (∀ i, i < K → 2 ≤ (stAt s i).1.kind) ∧ out = .ret (.sl 3 (encTs (toksTo s (K + 1))) .frz) ∧ h' = h) := by
  refine ACalls.fin (en37 (by simp) fun hw => ?_)
  refine g1 ?_
  refine w_loop (fun e h' n => ∃ (m : Nat) (tg : Tag), nextPos s m ≤ s.length ∧ m ≤ nextPos s m ∧ (∀ i, i < m → 2 ≤ (stAt s i).1.kind) ∧ n = s.length - nextPos s m ∧ Sub h h' ∧ Room h h' 92 (m * 3) tg ∧ e = [(0, true, .str s), (3, true, .sl 3 (encTs (toksTo s m)) tg), (4, true, .int .i64 (nextPos s m))])
    [(0, true, .str s), (3, true, .sl 3 [] .nl), (4, true, .int .i64 (0 : Nat))] _ (.cons rfl (.consw rfl (weak_nl (.inl rfl)) (.cons rfl (.nil _)))) ⟨0, .nl, by simp [nextPos], by simp, fun i hi => by omega, rfl, .refl hw, trivial, rfl⟩ ?_
  rintro _ h' _ ⟨m, tg, hi, hmi, hkinds, rfl, hsub, hroom, rfl⟩
  have hst := stAt_next (s := s) m
  generalize hidef : nextPos s m = i at hi hmi hst ⊢
  refine g1 ?_
  refine w_loop (fun e h'' n => ∃ j : Nat, i ≤ j ∧ j ≤ s.length ∧ runEnd isBlank s j = runEnd isBlank s i ∧ n = s.length - j ∧ h' = h'' ∧ e = [(0, true, .str s), (3, true, .sl 3 (encTs (toksTo s m)) tg), (4, true, .int .i64 j)])
    _ _ (.cons rfl (.cons rfl (.cons rfl (.nil _)))) ⟨i, Nat.le_refl _, hi, rfl, rfl, rfl, rfl⟩ ?_
  rintro _ _ _ ⟨j, hij, hj, hrun, rfl, rfl, rfl⟩
  by_cases hjl : j < s.length
  rotate_left
  · -- the end
    have f1 : decide ((j : Int) < (s.length : Int)) = false := by simp; omega
    have f2 : ((j : Int) == (s.length : Int)) = true := by simp; omega
    refine g1 ?_
    have hjd : j = runEnd isBlank s i := by rw [← hrun, runEnd_end (by omega)]
    have hlex := lex_end hjd (by omega)
    have htok : toksTo s (m + 1) = toksTo s m ++ [⟨101, [], j⟩] := by rw [toksTo_succ, hst, hlex]; rfl
    refine s_append h rfl rfl (tt rfl) (tt rfl) rfl (.inl rfl) hsub.next (by rw [encTs_length, toksTo_length]; exact hroom) (by simp only [encTs_length, toksTo_length, List.length_cons, List.length_nil]; omega) fun tg' h2 hr2 hx2 => ⟨trivial, ?_⟩
    refine g1 ?_
    have hsub2 := hx2.sub _ (Nat.le_refl _) hsub
    refine fin_sub hsub2 (.ret _ _ weak_frz) ⟨m, by rw [hst, hlex]; simp, hkinds, ?_, rfl⟩
    rw [htok, encTs_snoc]
    rfl
  have f1 : decide ((j : Int) < (s.length : Int)) = true := by simp; omega
  have f2 : ((j : Int) == (s.length : Int)) = false := by simp; omega
  have ej : (s.getD (j : Int).toNat 0) = s.getD j 0 := rfl
  by_cases hbl : isBlank (s.getD j 0) = true
  · have hnext := runEnd_step hjl hbl
    simp only [isBlank, Bool.or_eq_true, beq_iff_eq] at hbl
    refine g3 ?_ ?_ ?_ <;> (repeat intro hb hc)
    · refine l_n _ _ ?_ ?_ ⟨j + 1, by omega, by omega, by rw [hnext, hrun], rfl, rfl, rfl⟩
      · omega
      · exact envv
    · exfalso
      rw [ej] at *
      omega
    · refine l_n _ _ ?_ ?_ ⟨j + 1, by omega, by omega, by rw [hnext, hrun], rfl, rfl, rfl⟩
      · omega
      · exact envv
  have hbl' : isBlank (s.getD j 0) = false := by simpa using hbl
  have hjd : j = runEnd isBlank s i := by rw [← hrun, runEnd_stop hjl hbl']
  have g32 : (((s.getD (j : Int).toNat 0).toNat : Int) == 32) = false := by
    rw [ej]
    simp only [isBlank, Bool.or_eq_false_iff, beq_eq_false_iff_ne, ne_eq] at hbl' ⊢
    omega
  have g10 : (((s.getD (j : Int).toNat 0).toNat : Int) == 10) = false := by
    rw [ej]
    simp only [isBlank, Bool.or_eq_false_iff, beq_eq_false_iff_ne, ne_eq] at hbl' ⊢
    omega
  refine g1 ?_
  refine s_call rfl rfl rfl ca100 ?_
  refine (c100 (s.getD j 0)).mono ?_
  rintro _ _ ⟨rfl, hh⟩
  obtain rfl := hh.symm
  refine back trivial ?_
  rcases Bool.eq_false_or_eq_true (letter (s.getD j 0)) with hl | hl
  · -- a name
    rw [hl]
    refine g1 ?_
    refine w_loop (fun e h'' n => ∃ k : Nat, j ≤ k ∧ k ≤ s.length ∧ runEnd wordb s k = runEnd wordb s j ∧ n = s.length - k ∧ h' = h'' ∧ e = [(0, true, .str s), (3, true, .sl 3 (encTs (toksTo s m)) tg), (4, true, .int .i64 j), (5, true, .int .i64 k)])
      _ _ (.cons rfl (.cons rfl (.cons rfl (.cons rfl (.nil _))))) ⟨j, Nat.le_refl _, hj, rfl, rfl, rfl, rfl⟩ ?_
    rintro _ _ _ ⟨k, hjk, hk, hrunk, rfl, rfl, rfl⟩
    have hjk2 : runEnd wordb s j ≠ j := by
      have h1 := runEnd_step (p := wordb) hjl (by unfold wordb; rw [hl]; rfl)
      have h2 := le_runEnd (p := wordb) (s := s) (i := j + 1)
      omega
    by_cases hkl : k < s.length
    · have f3 : decide ((k : Int) < (s.length : Int)) = true := by simp; omega
      refine g1 ?_
      refine s_call rfl rfl rfl ca100 ?_
      refine (c100 (s.getD k 0)).mono ?_
      rintro _ _ ⟨rfl, hh⟩
      obtain rfl := hh.symm
      refine back trivial ?_
      rcases Bool.eq_false_or_eq_true (letter (s.getD k 0)) with hl2 | hl2
      · have hnext := runEnd_step (p := wordb) hkl (by unfold wordb; rw [hl2]; rfl)
        rw [hl2]
        refine g1 ?_
        refine l_n _ _ ?_ ?_ ⟨k + 1, by omega, by omega, by rw [hnext, hrunk], rfl, rfl, rfl⟩
        · omega
        · exact envv
      · rw [hl2]
        refine g1 ?_
        refine s_call rfl rfl rfl ca101 ?_
        refine (c101 (s.getD k 0)).mono ?_
        rintro _ _ ⟨rfl, hh⟩
        obtain rfl := hh.symm
        refine back trivial ?_
        rcases Bool.eq_false_or_eq_true (digit (s.getD k 0)) with hd2 | hd2
        · have hnext := runEnd_step (p := wordb) hkl (by unfold wordb; rw [hd2]; simp)
          rw [hd2]
          refine g1 ?_
          refine l_n _ _ ?_ ?_ ⟨k + 1, by omega, by omega, by rw [hnext, hrunk], rfl, rfl, rfl⟩
          · omega
          · exact envv
        · rw [hd2]
          by_cases h45 : (s.getD k 0).toNat = 45
          · have hnext := runEnd_step (p := wordb) hkl (by unfold wordb; rw [hl2, hd2, h45]; rfl)
            have f4 : (((s.getD (k : Int).toNat 0).toNat : Int) == 45) = true := by
              show (((s.getD k 0).toNat : Int) == 45) = true
              simp only [beq_iff_eq]; omega
            refine g1 ?_
            refine l_n _ _ ?_ ?_ ⟨k + 1, by omega, by omega, by rw [hnext, hrunk], rfl, rfl, rfl⟩
            · omega
            · exact envv
          · have hend := runEnd_stop (p := wordb) hkl (by unfold wordb; rw [hl2, hd2, beq_eq_false_iff_ne.2 h45]; rfl)
            have f4 : (((s.getD (k : Int).toNat 0).toNat : Int) == 45) = false := by
              show (((s.getD k 0).toNat : Int) == 45) = false
              simp only [beq_eq_false_iff_ne, ne_eq]; omega
            refine g1 ?_
            have hke : runEnd wordb s j = k := by rw [← hrunk, hend]
            have hlex := lex_name hjd hjl hl
            rw [hke] at hlex hjk2
            have htok : toksTo s (m + 1) = toksTo s m ++ [⟨110, (s.take k).drop j, j⟩] := by rw [toksTo_succ, hst, hlex]; rfl
            have hnp : nextPos s (m + 1) = k := by show (stAt s m).2 = k; rw [hst, hlex]
            refine s_append h rfl rfl (tt rfl) (tt rfl) rfl (.inl rfl) hsub.next (by rw [encTs_length, toksTo_length]; exact hroom) (by simp only [encTs_length, toksTo_length, List.length_cons, List.length_nil]; omega) fun tg' h2 hr2 hx2 => ⟨trivial, ?_⟩
            refine g1 ?_
            have hsub2 := hx2.sub _ (Nat.le_refl _) hsub
            refine l_n _ _ ?_ ?_ ⟨m + 1, tg', by rw [hnp]; omega, by rw [hnp]; omega, fun q hq2 => ?_, rfl, hsub2, append_room hr2 (by simp [encTs_length, toksTo_length]), rfl⟩
            · rw [hnp]; omega
            · refine .cons rfl (.cons ?_ (.cons ?_ (.nil _)))
              · rw [htok, encTs_snoc]
                rfl
              · rw [hnp]
                rfl
            · rcases Nat.lt_succ_iff_lt_or_eq.1 hq2 with h1 | rfl
              · exact hkinds _ h1
              · rw [hst, hlex]; exact Nat.le_of_ble_eq_true rfl
    · have f3 : decide ((k : Int) < (s.length : Int)) = false := by simp; omega
      have hend := runEnd_end (p := wordb) (s := s) (i := k) (by omega)
      refine g1 ?_
      have hke : runEnd wordb s j = k := by rw [← hrunk, hend]
      have hlex := lex_name hjd hjl hl
      rw [hke] at hlex hjk2
      have htok : toksTo s (m + 1) = toksTo s m ++ [⟨110, (s.take k).drop j, j⟩] := by rw [toksTo_succ, hst, hlex]; rfl
      have hnp : nextPos s (m + 1) = k := by show (stAt s m).2 = k; rw [hst, hlex]
      refine s_append h rfl rfl (tt rfl) (tt rfl) rfl (.inl rfl) hsub.next (by rw [encTs_length, toksTo_length]; exact hroom) (by simp only [encTs_length, toksTo_length, List.length_cons, List.length_nil]; omega) fun tg' h2 hr2 hx2 => ⟨trivial, ?_⟩
      refine g1 ?_
      have hsub2 := hx2.sub _ (Nat.le_refl _) hsub
      refine l_n _ _ ?_ ?_ ⟨m + 1, tg', by rw [hnp]; omega, by rw [hnp]; omega, fun q hq2 => ?_, rfl, hsub2, append_room hr2 (by simp [encTs_length, toksTo_length]), rfl⟩
      · rw [hnp]; omega
      · refine .cons rfl (.cons ?_ (.cons ?_ (.nil _)))
        · rw [htok, encTs_snoc]
          rfl
        · rw [hnp]
          rfl
      · rcases Nat.lt_succ_iff_lt_or_eq.1 hq2 with h1 | rfl
        · exact hkinds _ h1
        · rw [hst, hlex]; exact Nat.le_of_ble_eq_true rfl
  rw [hl]
  refine g1 ?_
  refine s_call rfl rfl rfl ca101 ?_
  refine (c101 (s.getD j 0)).mono ?_
  rintro _ _ ⟨rfl, hh⟩
  obtain rfl := hh.symm
  refine back trivial ?_
  rcases Bool.eq_false_or_eq_true (digit (s.getD j 0)) with hd | hd
  · -- a number
    rw [hd]
    refine g1 ?_
    refine w_loop (fun e h'' n => ∃ k : Nat, j ≤ k ∧ k ≤ s.length ∧ runEnd digit s k = runEnd digit s j ∧ n = s.length - k ∧ h' = h'' ∧ e = [(0, true, .str s), (3, true, .sl 3 (encTs (toksTo s m)) tg), (4, true, .int .i64 j), (5, true, .int .i64 k)])
      _ _ (.cons rfl (.cons rfl (.cons rfl (.cons rfl (.nil _))))) ⟨j, Nat.le_refl _, hj, rfl, rfl, rfl, rfl⟩ ?_
    rintro _ _ _ ⟨k, hjk, hk, hrunk, rfl, rfl, rfl⟩
    have hjk2 : runEnd digit s j ≠ j := by
      have h1 := runEnd_step (p := digit) hjl hd
      have h2 := le_runEnd (p := digit) (s := s) (i := j + 1)
      omega
    by_cases hkl : k < s.length
    · have f3 : decide ((k : Int) < (s.length : Int)) = true := by simp; omega
      refine g1 ?_
      refine s_call rfl rfl rfl ca101 ?_
      refine (c101 (s.getD k 0)).mono ?_
      rintro _ _ ⟨rfl, hh⟩
      obtain rfl := hh.symm
      refine back trivial ?_
      rcases Bool.eq_false_or_eq_true (digit (s.getD k 0)) with hd2 | hd2
      · have hnext := runEnd_step (p := digit) hkl hd2
        rw [hd2]
        refine g1 ?_
        refine l_n _ _ ?_ ?_ ⟨k + 1, by omega, by omega, by rw [hnext, hrunk], rfl, rfl, rfl⟩
        · omega
        · exact envv
      · have hend := runEnd_stop (p := digit) hkl hd2
        rw [hd2]
        refine g1 ?_
        have hke : runEnd digit s j = k := by rw [← hrunk, hend]
        have hlex := lex_num hjd hjl hl hd
        rw [hke] at hlex hjk2
        have htok : toksTo s (m + 1) = toksTo s m ++ [⟨100, (s.take k).drop j, j⟩] := by rw [toksTo_succ, hst, hlex]; rfl
        have hnp : nextPos s (m + 1) = k := by show (stAt s m).2 = k; rw [hst, hlex]
        refine s_append h rfl rfl (tt rfl) (tt rfl) rfl (.inl rfl) hsub.next (by rw [encTs_length, toksTo_length]; exact hroom) (by simp only [encTs_length, toksTo_length, List.length_cons, List.length_nil]; omega) fun tg' h2 hr2 hx2 => ⟨trivial, ?_⟩
        refine g1 ?_
        have hsub2 := hx2.sub _ (Nat.le_refl _) hsub
        refine l_n _ _ ?_ ?_ ⟨m + 1, tg', by rw [hnp]; omega, by rw [hnp]; omega, fun q hq2 => ?_, rfl, hsub2, append_room hr2 (by simp [encTs_length, toksTo_length]), rfl⟩
        · rw [hnp]; omega
        · refine .cons rfl (.cons ?_ (.cons ?_ (.nil _)))
          · rw [htok, encTs_snoc]
            rfl
          · rw [hnp]
            rfl
        · rcases Nat.lt_succ_iff_lt_or_eq.1 hq2 with h1 | rfl
          · exact hkinds _ h1
          · rw [hst, hlex]; exact Nat.le_of_ble_eq_true rfl
    · have f3 : decide ((k : Int) < (s.length : Int)) = false := by simp; omega
      have hend := runEnd_end (p := digit) (s := s) (i := k) (by omega)
      refine g1 ?_
      have hke : runEnd digit s j = k := by rw [← hrunk, hend]
      have hlex := lex_num hjd hjl hl hd
      rw [hke] at hlex hjk2
      have htok : toksTo s (m + 1) = toksTo s m ++ [⟨100, (s.take k).drop j, j⟩] := by rw [toksTo_succ, hst, hlex]; rfl
      have hnp : nextPos s (m + 1) = k := by show (stAt s m).2 = k; rw [hst, hlex]
      refine s_append h rfl rfl (tt rfl) (tt rfl) rfl (.inl rfl) hsub.next (by rw [encTs_length, toksTo_length]; exact hroom) (by simp only [encTs_length, toksTo_length, List.length_cons, List.length_nil]; omega) fun tg' h2 hr2 hx2 => ⟨trivial, ?_⟩
      refine g1 ?_
      have hsub2 := hx2.sub _ (Nat.le_refl _) hsub
      refine l_n _ _ ?_ ?_ ⟨m + 1, tg', by rw [hnp]; omega, by rw [hnp]; omega, fun q hq2 => ?_, rfl, hsub2, append_room hr2 (by simp [encTs_length, toksTo_length]), rfl⟩
      · rw [hnp]; omega
      · refine .cons rfl (.cons ?_ (.cons ?_ (.nil _)))
        · rw [htok, encTs_snoc]
          rfl
        · rw [hnp]
          rfl
      · rcases Nat.lt_succ_iff_lt_or_eq.1 hq2 with h1 | rfl
        · exact hkinds _ h1
        · rw [hst, hlex]; exact Nat.le_of_ble_eq_true rfl
  rw [hd]
  by_cases h34 : s.getD j 0 = 34
  · -- a string
    have g34 : (((s.getD (j : Int).toNat 0).toNat : Int) == 34) = true := by
      rw [ej, h34]; rfl
    have hstr := lex_str hjd hjl hl hd h34
    refine g1 ?_
    refine w_loop (fun e h'' n => ∃ (k : Nat) (v : Str), j + 1 ≤ k ∧ k ≤ s.length ∧ v.length ≤ k ∧ quoAt s v k = quoAt s [] (j + 1) ∧ n = s.length - k ∧ h' = h'' ∧ e = [(0, true, .str s), (3, true, .sl 3 (encTs (toksTo s m)) tg), (4, true, .int .i64 j), (5, true, .int .i64 k), (6, true, .str v), (7, true, .bool false)])
      _ _ (.cons rfl (.cons rfl (.cons rfl (.cons rfl (.cons rfl (.cons rfl (.nil _))))))) ⟨j + 1, [], Nat.le_refl _, by omega, by simp, rfl, rfl, rfl, rfl⟩ ?_
    rintro _ _ _ ⟨k, v, hjk, hk, hvl, hq, rfl, rfl, rfl⟩
    by_cases hkl : k < s.length
    · have f3 : decide ((k : Int) < (s.length : Int)) = true := by simp; omega
      have ek : (s.getD (k : Int).toNat 0) = s.getD k 0 := rfl
      have ek1 : (s.getD ((k : Int) + 1).toNat 0) = s.getD (k + 1) 0 := rfl
      by_cases k34 : s.getD k 0 = 34
      · have f4 : (((s.getD (k : Int).toNat 0).toNat : Int) == 34) = true := by rw [ek, k34]; rfl
        by_cases hk1 : k + 1 < s.length
        · have f5 : decide ((k : Int) + 1 < (s.length : Int)) = true := by simp; omega
          by_cases k134 : s.getD (k + 1) 0 = 34
          · have f6 : (((s.getD ((k : Int) + 1).toNat 0).toNat : Int) == 34) = true := by rw [ek1, k134]; rfl
            have hnext := quoAt_two (b := v) hk1 k34 k134
            refine g1 ?_
            refine l_n _ _ ?_ ?_ ⟨k + 1 + 1, v ++ [s.getD (k + 1) 0], by omega, by omega, by simp; omega, by rw [hnext, hq], rfl, rfl, rfl⟩
            · omega
            · refine .cons rfl (.cons rfl (.cons rfl (.cons rfl (.cons ?_ (.cons rfl (.nil _))))))
              rw [← one_take hk1]
              rfl
          · have f6 : (((s.getD ((k : Int) + 1).toNat 0).toNat : Int) == 34) = false := by
              rw [ek1]
              simp only [beq_eq_false_iff_ne, ne_eq]
              exact fun hh => k134 (u8_eq (n := 34) hh)
            have hclose := quoAt_close (b := v) hkl k34 (.inr k134)
            refine g1 ?_
            rw [hq] at hclose
            rw [hclose] at hstr
            simp only at hstr
            have hlex := hstr
            have htok : toksTo s (m + 1) = toksTo s m ++ [⟨115, v, j⟩] := by rw [toksTo_succ, hst, hlex]; rfl
            have hnp : nextPos s (m + 1) = (k + 1) := by show (stAt s m).2 = (k + 1); rw [hst, hlex]
            refine s_append h rfl rfl (tt rfl) (tt rfl) rfl (.inl rfl) hsub.next (by rw [encTs_length, toksTo_length]; exact hroom) (by simp only [encTs_length, toksTo_length, List.length_cons, List.length_nil]; omega) fun tg' h2 hr2 hx2 => ⟨trivial, ?_⟩
            refine g1 ?_
            have hsub2 := hx2.sub _ (Nat.le_refl _) hsub
            refine l_n _ _ ?_ ?_ ⟨m + 1, tg', by rw [hnp]; omega, by rw [hnp]; omega, fun q hq2 => ?_, rfl, hsub2, append_room hr2 (by simp [encTs_length, toksTo_length]), rfl⟩
            · rw [hnp]; omega
            · refine .cons rfl (.cons ?_ (.cons ?_ (.nil _)))
              · rw [htok, encTs_snoc]
                rfl
              · rw [hnp]
                rfl
            · rcases Nat.lt_succ_iff_lt_or_eq.1 hq2 with h1 | rfl
              · exact hkinds _ h1
              · rw [hst, hlex]; exact Nat.le_of_ble_eq_true rfl
        · have f5 : decide ((k : Int) + 1 < (s.length : Int)) = false := by simp; omega
          have hclose := quoAt_close (b := v) hkl k34 (.inl (by omega))
          refine g1 ?_
          rw [hq] at hclose
          rw [hclose] at hstr
          simp only at hstr
          have hlex := hstr
          have htok : toksTo s (m + 1) = toksTo s m ++ [⟨115, v, j⟩] := by rw [toksTo_succ, hst, hlex]; rfl
          have hnp : nextPos s (m + 1) = (k + 1) := by show (stAt s m).2 = (k + 1); rw [hst, hlex]
          refine s_append h rfl rfl (tt rfl) (tt rfl) rfl (.inl rfl) hsub.next (by rw [encTs_length, toksTo_length]; exact hroom) (by simp only [encTs_length, toksTo_length, List.length_cons, List.length_nil]; omega) fun tg' h2 hr2 hx2 => ⟨trivial, ?_⟩
          refine g1 ?_
          have hsub2 := hx2.sub _ (Nat.le_refl _) hsub
          refine l_n _ _ ?_ ?_ ⟨m + 1, tg', by rw [hnp]; omega, by rw [hnp]; omega, fun q hq2 => ?_, rfl, hsub2, append_room hr2 (by simp [encTs_length, toksTo_length]), rfl⟩
          · rw [hnp]; omega
          · refine .cons rfl (.cons ?_ (.cons ?_ (.nil _)))
            · rw [htok, encTs_snoc]
              rfl
            · rw [hnp]
              rfl
          · rcases Nat.lt_succ_iff_lt_or_eq.1 hq2 with h1 | rfl
            · exact hkinds _ h1
            · rw [hst, hlex]; exact Nat.le_of_ble_eq_true rfl
      · have f4 : (((s.getD (k : Int).toNat 0).toNat : Int) == 34) = false := by
          rw [ek]
          simp only [beq_eq_false_iff_ne, ne_eq]
          exact fun hh => k34 (u8_eq (n := 34) hh)
        have hnext := quoAt_other (b := v) hkl k34
        refine g1 ?_
        refine l_n _ _ ?_ ?_ ⟨k + 1, v ++ [s.getD k 0], by omega, by omega, by simp; omega, by rw [hnext, hq], rfl, rfl, rfl⟩
        · omega
        · refine .cons rfl (.cons rfl (.cons rfl (.cons rfl (.cons ?_ (.cons rfl (.nil _))))))
          rw [← one_take hkl]
          rfl
    · have f3 : decide ((k : Int) < (s.length : Int)) = false := by simp; omega
      have hend := quoAt_end (b := v) (j := k) (s := s) (by omega)
      rw [hq] at hend
      rw [hend] at hstr
      simp only at hstr
      refine g1 ?_
      have htok : toksTo s (m + 1) = toksTo s m ++ [⟨120, [], j⟩] := by rw [toksTo_succ, hst, hstr]; rfl
      refine s_append h rfl rfl (tt rfl) (tt rfl) rfl (.inl rfl) hsub.next (by rw [encTs_length, toksTo_length]; exact hroom) (by simp only [encTs_length, toksTo_length, List.length_cons, List.length_nil]; omega) fun tg' h2 hr2 hx2 => ⟨trivial, ?_⟩
      refine g1 ?_
      have hsub2 := hx2.sub _ (Nat.le_refl _) hsub
      refine fin_sub hsub2 (.ret _ _ weak_frz) ⟨m, by rw [hst, hstr]; simp, hkinds, ?_, rfl⟩
      rw [htok, encTs_snoc]
      rfl
  -- a sign
  have g34 : (((s.getD (j : Int).toNat 0).toNat : Int) == 34) = false := by
    rw [ej]
    simp only [beq_eq_false_iff_ne, ne_eq]
    exact fun hh => h34 (u8_eq (n := 34) hh)
  have hsig := lex_sign hjd hjl hl hd h34
  rw [signAt_find] at hsig
  refine g1 ?_
  refine s_call rfl rfl rfl ca102 ?_
  refine (c102).mono ?_
  rintro _ _ ⟨rfl, hh⟩
  obtain rfl := hh.symm
  refine back trivial ?_
  refine g1 ?_
  have hs23 : signs.length = 23 := rfl
  have fjj : ((j : Int) == (j : Int)) = true := by simp
  refine w_loop (fun e h'' n => ∃ k : Nat, k ≤ 23 ∧ n = 23 - k ∧ (∀ q x, q < k → signs[q]? = some x → x.isPrefixOf (s.drop j) = false) ∧ h' = h'' ∧ e = [(0, true, .str s), (3, true, .sl 3 (encTs (toksTo s m)) tg), (4, true, .int .i64 j), (5, true, .int .i64 j), (38, true, .sl 1 (encSs signs) .frz), (39, true, .int .i64 23), (40, true, .int .i64 k)])
    _ _ (.cons rfl (.cons rfl (.cons rfl (.cons rfl (.cons rfl (.cons rfl (.cons rfl (.nil _)))))))) ⟨0, by omega, rfl, fun q x hq => by omega, rfl, rfl⟩ ?_
  rintro _ _ _ ⟨k, hk, rfl, hpre, rfl, rfl⟩
  by_cases hk23 : k < 23
  · have f3 : decide ((k : Int) < (23 : Int)) = true := by simp; omega
    obtain ⟨x, hx⟩ : ∃ x, signs[k]? = some x := ⟨_, List.getElem?_eq_getElem (by omega)⟩
    have hxl := sign_len (List.mem_of_getElem? hx)
    refine g1 ?_
    refine s_ia rfl (tt rfl) (tt rfl) rfl rfl rfl (fun _ => rfl) (by omega) (row := [.str x]) (by show (signs.map _)[k]? = _; rw [List.getElem?_map, hx]; rfl) ?_
    by_cases hle : x.length ≤ s.length - j
    · have f4 : decide ((s.length : Int) - (j : Int) ≥ (x.length : Int)) = true := by simp; omega
      have hpt := prefix_take (s.drop j) x
      rw [show (s.drop j).take x.length = (s.take (j + x.length)).drop j by rw [List.drop_take]; congr 1; omega] at hpt
      cases hp : x.isPrefixOf (s.drop j) with
      | true =>
        rw [hp] at hpt
        have f5 : ((s.take ((j : Int) + (x.length : Int)).toNat).drop (j : Int).toNat == x) = true := hpt
        have f6 : ((j : Int) + (x.length : Int) == (j : Int)) = false := by rw [beq_eq_false_iff_ne]; omega
        have hsl : (s.take (j + x.length)).drop j = x := by simpa using hpt
        have hfind : signs.find? (fun x => x.isPrefixOf (s.drop j)) = some x := by
          rw [List.find?_eq_some_iff_getElem]
          obtain ⟨hk2, hxk⟩ := List.getElem?_eq_some_iff.1 hx
          refine ⟨hp, k, hk2, hxk, fun q hq => ?_⟩
          rw [hpre q _ hq (List.getElem?_eq_getElem (by omega))]
          rfl
        rw [hfind] at hsig
        simp only at hsig
        have hlex := hsig
        have htok : toksTo s (m + 1) = toksTo s m ++ [⟨111, (s.take (j + x.length)).drop j, j⟩] := by rw [toksTo_succ, hst, hlex, hsl]; rfl
        refine g1 ?_
        have hnp : nextPos s (m + 1) = (j + x.length) := by show (stAt s m).2 = (j + x.length); rw [hst, hlex]
        refine s_append h rfl rfl (tt rfl) (tt rfl) rfl (.inl rfl) hsub.next (by rw [encTs_length, toksTo_length]; exact hroom) (by simp only [encTs_length, toksTo_length, List.length_cons, List.length_nil]; omega) fun tg' h2 hr2 hx2 => ⟨trivial, ?_⟩
        refine g1 ?_
        have hsub2 := hx2.sub _ (Nat.le_refl _) hsub
        refine l_n _ _ ?_ ?_ ⟨m + 1, tg', by rw [hnp]; omega, by rw [hnp]; omega, fun q hq2 => ?_, rfl, hsub2, append_room hr2 (by simp [encTs_length, toksTo_length]), rfl⟩
        · rw [hnp]; omega
        · refine .cons rfl (.cons ?_ (.cons ?_ (.nil _)))
          · rw [htok, encTs_snoc]
            rfl
          · rw [hnp]
            rfl
        · rcases Nat.lt_succ_iff_lt_or_eq.1 hq2 with h1 | rfl
          · exact hkinds _ h1
          · rw [hst, hlex]; exact Nat.le_of_ble_eq_true rfl
      | false =>
        rw [hp] at hpt
        have f5 : ((s.take ((j : Int) + (x.length : Int)).toNat).drop (j : Int).toNat == x) = false := hpt
        refine g1 ?_
        refine l_n _ _ ?_ ?_ ⟨k + 1, by omega, rfl, ?_, rfl, rfl⟩
        · omega
        · exact envv
        · intro q y hq hy
          by_cases hqk : q = k
          · subst hqk; rw [hx] at hy; injection hy with hy; subst hy; exact hp
          · exact hpre q y (by omega) hy
    · have f4 : decide ((s.length : Int) - (j : Int) ≥ (x.length : Int)) = false := by simp; omega
      have hp : x.isPrefixOf (s.drop j) = false := by
        rw [Bool.eq_false_iff]
        intro hp
        have := (List.isPrefixOf_iff_prefix.1 hp).length_le
        rw [List.length_drop] at this
        omega
      refine g1 ?_
      refine l_n _ _ ?_ ?_ ⟨k + 1, by omega, rfl, ?_, rfl, rfl⟩
      · omega
      · exact envv
      · intro q y hq hy
        by_cases hqk : q = k
        · subst hqk; rw [hx] at hy; injection hy with hy; subst hy; exact hp
        · exact hpre q y (by omega) hy
  · have f3 : decide ((k : Int) < (23 : Int)) = false := by simp; omega
    have hfind : signs.find? (fun x => x.isPrefixOf (s.drop j)) = none := by
      rw [List.find?_eq_none]
      intro x hx
      obtain ⟨q, hq⟩ := List.getElem?_of_mem hx
      rw [hpre q x (by have := (List.getElem?_eq_some_iff.1 hq).1; omega) hq]
      simp
    rw [hfind] at hsig
    simp only at hsig
    refine g1 ?_
    have htok : toksTo s (m + 1) = toksTo s m ++ [⟨120, [], j⟩] := by rw [toksTo_succ, hst, hsig]; rfl
    refine s_append h rfl rfl (tt rfl) (tt rfl) rfl (.inl rfl) hsub.next (by rw [encTs_length, toksTo_length]; exact hroom) (by simp only [encTs_length, toksTo_length, List.length_cons, List.length_nil]; omega) fun tg' h2 hr2 hx2 => ⟨trivial, ?_⟩
    refine g1 ?_
    have hsub2 := hx2.sub _ (Nat.le_refl _) hsub
    refine fin_sub hsub2 (.ret _ _ weak_frz) ⟨m, by rw [hst, hsig]; simp, hkinds, ?_, rfl⟩
    rw [htok, encTs_snoc]
    rfl






end
end Go.Proofs

/- The codes of Parse and of the function it defers, in parts, tied to the loaded program. No conditions. -/
namespace Go.Proofs
open Go.Abs
noncomputable abbrev bod13 : Code := Tryz.f13.body.getD .skip
noncomputable abbrev bod35 : Code := Tryz.f35.body.getD .skip
def r13a_0 : List (AOp × List AOp) := [(⟨some 2, .alloc 38, none⟩, []),
  (⟨some 3, .alloc 3, none⟩, []),
  (⟨some 4, .alloc 39, none⟩, [])]
def ir13a : ACode := .ops r13a_0
theorem tr13a : trCode 14 (Code.fst bod13) = some ir13a := by kernel_rfl
def r13b_0 : List (AOp × List AOp) := [(⟨some 5, .move (.tmp 0), none⟩, []),
  (⟨some 6, .call ⟨.builtin .len, #[(.tmp 5)], #[9]⟩, none⟩, []),
  (⟨some 7, .binOp .gtr 3 (.tmp 6) (.const (.int .i64 400)) 3, none⟩, [])]
def r13b_1 : List (AOp × List AOp) := [(⟨some 8, .build 38 #[], none⟩, []),
  (⟨none, .store 38 (.tmp 2) (.tmp 8), none⟩, []),
  (⟨none, .store 3 (.tmp 3) (.const (.int .i64 0)), none⟩, []),
  (⟨none, .store 39 (.tmp 4) (.const (.int .i64 2)), none⟩, [])]
def ir13b : ACode := .seq (.ops r13b_0) (.cond (.tmp 7) (.seq (.ops r13b_1) (.ret)) (.skip))
theorem tr13b : trCode 14 (Code.fst (Code.snd bod13)) = some ir13b := by kernel_rfl
def r13c : List (AOp × List AOp) := [(⟨some 10, .move (.tmp 0), none⟩, []),
  (⟨some 11, .build 77 #[(0, (.tmp 10))], none⟩, []),
  (⟨some 12, .box 77 (.tmp 11), none⟩, [])]
theorem tr13c : trOps 14 (Code.oper (Code.fst (Code.snd (Code.snd (Code.snd bod13))))).toArray ((Code.oper (Code.fst (Code.snd (Code.snd (Code.snd bod13))))).take 3) = some r13c := by kernel_rfl
def r13e : List (AOp × List AOp) := [(⟨none, .store 38 (.tmp 2) (.tmp 13), none⟩, []),
  (⟨none, .store 3 (.tmp 3) (.const (.int .i64 0)), none⟩, []),
  (⟨none, .store 39 (.tmp 4) (.const (.int .i64 0)), none⟩, [])]
theorem tr13e : trOps 14 (Code.oper (Code.fst (Code.snd (Code.snd (Code.snd bod13))))).toArray ((Code.oper (Code.fst (Code.snd (Code.snd (Code.snd bod13))))).drop 4) = some r13e := by kernel_rfl
def r13d : List (AOp × List AOp) := [(⟨some 9, .makeFunc (.func 35) #[] #[(.tmp 2), (.tmp 3), (.tmp 4)], none⟩, [])]
theorem tr13d : trOps 14 (Code.oper (Code.fst (Code.snd (Code.snd bod13)))).toArray ((Code.oper (Code.fst (Code.snd (Code.snd bod13)))).take 1) = some r13d := by kernel_rfl
def r35y_0 : List (AOp × List AOp) := [(⟨some 14, .move (.tmp 5), none⟩, []),
  (⟨some 15, .unOp .not 4 (.tmp 14), none⟩, [])]
def r35y_1 : List (AOp × List AOp) := [(⟨some 16, .move (.tmp 3), none⟩, []),
  (⟨none, .panic (.tmp 16), none⟩, [])]
def r35y_2 : List (AOp × List AOp) := [(⟨some 17, .build 38 #[], none⟩, []),
  (⟨some 18, .fieldAddr 71 (.tmp 4) 0, none⟩, []),
  (⟨some 19, .load 3 (.tmp 18), none⟩, []),
  (⟨some 20, .fieldAddr 71 (.tmp 4) 1, none⟩, []),
  (⟨some 21, .load 39 (.tmp 20), none⟩, []),
  (⟨none, .store 38 (.tmp 0) (.tmp 17), none⟩, [⟨some 21, .load 39 (.tmp 20), none⟩, ⟨some 19, .load 3 (.tmp 18), none⟩]),
  (⟨none, .store 3 (.tmp 1) (.tmp 19), none⟩, [⟨some 21, .load 39 (.tmp 20), none⟩]),
  (⟨none, .store 39 (.tmp 2) (.tmp 21), none⟩, [])]
def ir35y : ACode := .seq (.seq (.ops r35y_0) (.cond (.tmp 15) (.ops r35y_1) (.skip))) (.ops r35y_2)
theorem tr35y : trCode 22 (Code.snd (Code.fst (Code.snd (Code.snd bod35)))) = some ir35y := by kernel_rfl
def r35x : List (AOp × List AOp) := [(⟨some 9, .move (.tmp 11), none⟩, []),
  (⟨some 12, .extract (.tmp 9) 0, none⟩, []),
  (⟨some 13, .extract (.tmp 9) 1, none⟩, []),
  (⟨some 4, .alloc 71, none⟩, []),
  (⟨none, .store 71 (.tmp 4) (.tmp 12), none⟩, []),
  (⟨some 5, .assign (.tmp 13), none⟩, [])]
theorem tr35x : trOps 22 (Code.oper (Code.fst (Code.fst (Code.snd (Code.snd bod35))))).toArray ((Code.oper (Code.fst (Code.fst (Code.snd (Code.snd bod35))))).drop 2) = some r35x := by kernel_rfl
noncomputable abbrev op13 (c : Code) (i : Nat) : Oper := (Code.oper c).getD i default
theorem b13 : Tryz.f13.body = some (.seq (Code.fst bod13) (.seq (Code.fst (Code.snd bod13)) (.seq (.region 3 (Code.oper (Code.fst (Code.snd (Code.snd bod13)))).toArray false) (.seq (.region 4 (Code.oper (Code.fst (Code.snd (Code.snd (Code.snd bod13))))).toArray false) .ret)))) := by kernel_rfl
theorem b35 : Tryz.f35.body = some (.seq (.region 0 (Code.oper (Code.fst bod35)).toArray false) (.seq (.region 1 (Code.oper (Code.fst (Code.snd bod35))).toArray false) (.cond (.tmp 8) (.seq (.region 2 (Code.oper (Code.fst (Code.fst (Code.snd (Code.snd bod35))))).toArray false) (Code.snd (Code.fst (Code.snd (Code.snd bod35))))) .skip))) := by kernel_rfl
end Go.Proofs

/- Parse: the query, or the offset and number of the error. No conditions. -/
namespace Go.Proofs
open Go.Abs Go.Q
attribute [local irreducible] awp aops Run BodyQ ACalls Back
section
variable {G : Nat → Option Obj} {h : AHeap} {s : Str} {w : World} {vs : List Value}

theorem o35 : (Code.oper (Code.fst bod35)).toArray = #[⟨some 6, .call ⟨.builtin .recover, #[], #[]⟩, (op13 (Code.fst bod35) 0).type, (op13 (Code.fst bod35) 0).pos, (op13 (Code.fst bod35) 0).after, none⟩, ⟨some 3, .assign (.tmp 6), (op13 (Code.fst bod35) 1).type, (op13 (Code.fst bod35) 1).pos, (op13 (Code.fst bod35) 1).after, none⟩] := by kernel_rfl
theorem l35b : (Code.oper (Code.fst (Code.snd bod35))).toArray.toList = [op13 (Code.fst (Code.snd bod35)) 0, op13 (Code.fst (Code.snd bod35)) 1] := by kernel_rfl
theorem o35b0 : (op13 (Code.fst (Code.snd bod35)) 0).op = .move (.tmp 3) ∧ (op13 (Code.fst (Code.snd bod35)) 0).dst = some 7 ∧ (op13 (Code.fst (Code.snd bod35)) 0).guard = none := ⟨by kernel_rfl, by kernel_rfl, by kernel_rfl⟩
theorem o35b1 : (op13 (Code.fst (Code.snd bod35)) 1).op = .binOp .neq 20 (.tmp 7) (.const .nilIface) 20 ∧ (op13 (Code.fst (Code.snd bod35)) 1).dst = some 8 ∧ (op13 (Code.fst (Code.snd bod35)) 1).guard = none := ⟨by kernel_rfl, by kernel_rfl, by kernel_rfl⟩

theorem run_move {P : Program} {a : Act} {o : Oper} {x : Operand} (ho : o.op = .move x) : (execOp a.eval o).run P w = .ok (.value (a.eval x)) w := by
  simp only [execOp, ho, Sem.run_pure]

theorem run_nil35 {a : Act} (ha : a.eval (.tmp 7) = .nilIface) : (execOp a.eval (op13 (Code.fst (Code.snd bod35)) 1)).run Tryz.prog w = .ok (.value (.bool false)) w := by
  simp only [execOp, o35b1.1, ha]
  simp [Act.eval, go_sem]
theorem run_some35 {a : Act} {T : TypeId} {v : Value} (ha : a.eval (.tmp 7) = .iface T v) : (execOp a.eval (op13 (Code.fst (Code.snd bod35)) 1)).run Tryz.prog w = .ok (.value (.bool true)) w := by
  simp only [execOp, o35b1.1, ha]
  simp [Act.eval, go_sem]

abbrev e35 (l : List AVal) (iv : AVal) : Env := (3, true, iv) :: (6, true, iv) :: envFrom 0 l

theorem eval_put {a : Act} {d : Nat} {v : Value} (hd : d < a.tmps.size) : (a.put (some d) v).eval (.tmp d) = v := by
  simp only [Act.eval, Act.put]
  rw [getD_set _ _ _ _ hd, if_pos rfl]
theorem eval_put_ne {a : Act} {d t : Nat} {v : Value} (hd : d < a.tmps.size) (hne : t ≠ d) : (a.put (some d) v).eval (.tmp t) = a.eval (.tmp t) := by
  simp only [Act.eval, Act.put]
  rw [getD_set _ _ _ _ hd, if_neg hne]
theorem size_put {a : Act} {d : Option Nat} {v : Value} : (a.put d v).tmps.size = a.tmps.size := by cases d <;> simp [Act.put]

theorem nil_ret {P : Program} {fn : Func} (hr : fn.results = #[]) (tmps : Array Value) (w : World) : (results fn tmps).run P w = .ok (.tuple #[]) w := by
  rw [results_eq, hr]
  simp

/-- The deferred function where nothing has panicked. -/
theorem c35r {args : List AVal} (hr : Rel G h w) (ha : Reps h w args vs) (hl : args.length = 3) : CallsD Tryz.prog 35 vs.toArray .returning w fun e u' w' => u' = .returning ∧ (∃ v, e = .returned v) ∧ Rel G h w' ∧ Step h w h w' := by
  have hvl : vs.length = 3 := by rw [ha.1, hl]
  have hn : Tryz.f35.ntmps = 22 := Tryz.ntmps35
  refine callsD_recover (v := .nilIface) Tryz.func35 b35 o35 (by rw [hn]; decide) (by rw [hn]; omega) (.inl ⟨rfl, rfl, rfl⟩) fun c₀ cs => ?_
  generalize hact : (({ tmps := vs.toArray ++ Array.replicate (Tryz.f35.ntmps - vs.toArray.size) undef, defers := [] } : Act).put (some 6) .nilIface) = a6
  have hs6 : a6.tmps.size = 22 := by rw [← hact, size_put]; simp [hn, hvl]
  have hd6 : a6.defers = [] := by rw [← hact]; rfl
  refine wp_seq (wp_region_list ?_)
  rw [l35b]
  refine pure_op o35b0.2.2 (run_move o35b0.1) ?_
  rw [o35b0.2.1, eval_put (by omega)]
  refine pure_op o35b1.2.2 (run_nil35 (eval_put (by rw [size_put]; omega))) ?_
  rw [o35b1.2.1]
  refine wp_cond (t := false) (eval_put (by rw [size_put, size_put]; omega)) ?_
  refine wp_skip ⟨hd6, .returning, rfl, _, nil_ret (by kernel_rfl) _ _, rfl, ⟨_, rfl⟩, hr, .refl hr⟩

noncomputable abbrev P35 : Code := Code.fst (Code.fst (Code.snd (Code.snd bod35)))
theorem l35x : (Code.oper P35).toArray.toList = op13 P35 0 :: op13 P35 1 :: ((Code.oper P35).drop 2 ++ []) := by kernel_rfl
theorem o35x0 : (op13 P35 0).op = .move (.tmp 3) ∧ (op13 P35 0).dst = some 10 ∧ (op13 P35 0).guard = none := ⟨by kernel_rfl, by kernel_rfl, by kernel_rfl⟩
theorem o35x1 : (op13 P35 1).op = .typeAssert (.tmp 10) 20 71 true ∧ (op13 P35 1).dst = some 11 ∧ (op13 P35 1).guard = none := ⟨by kernel_rfl, by kernel_rfl, by kernel_rfl⟩
theorem run_assert35 {a : Act} {v : Value} (ha : a.eval (.tmp 10) = .iface 71 v) : (execOp a.eval (op13 P35 1)).run Tryz.prog w = .ok (.value (.tuple #[v, .bool true])) w := by
  simp only [execOp, o35x1.1, ha]
  simp [Instr.typeAssert, run_underlying Tryz.underlying71, go_sem]

/-- What the deferred function leaves where a fault has been raised. -/
def After35 (h : AHeap) (b2 b3 b4 pos : Nat) (x : Int) (h' : AHeap) : Prop :=
  h'.get b2 = some (.box 38 zQ) ∧ h'.get b3 = some (.box 3 [.int .i64 pos]) ∧ h'.get b4 = some (.box 39 [.int .i64 x]) ∧ ∀ hb : AHeap, hb.next ≤ b2 → hb.next ≤ b3 → hb.next ≤ b4 → Sub hb h → Sub hb h'

theorem only_n {P : Program} {K : Env → AHeap → Prop} {e : Env} {h : AHeap} (hk : K e h) : Run P G (Only K) [] .normal e h := by unfold Run; exact hk

set_option maxHeartbeats 1000000 in
theorem c35p {b2 b3 b4 pos : Nat} {x : Int} {v : Value} (h2 : h.get b2 = some (.box 38 zQ)) (h3 : h.get b3 = some (.box 3 [.int .i64 0])) (h4 : h.get b4 = some (.box 39 [.int .i64 0])) (hne : b2 ≠ b3 ∧ b2 ≠ b4 ∧ b3 ≠ b4)
    (hr : Rel G h w) (ha : Reps h w [.ptr b2 0, .ptr b3 0, .ptr b4 0] vs) (hv : Rep h w (fault pos x) v) :
    CallsD Tryz.prog 35 vs.toArray (.panicking [{ v := v, recovered := false }]) w fun e u' w' => u' = .panicking [{ v := v, recovered := true }] ∧ (∃ v, e = .returned v) ∧ ∃ h', After35 h b2 b3 b4 pos x h' ∧ Rel G h' w' ∧ Step h w h' w' := by
  have hvl : vs.length = 3 := by rw [ha.1]; rfl
  have hn : Tryz.f35.ntmps = 22 := Tryz.ntmps35
  obtain ⟨v', rfl, hv'⟩ : ∃ v', v = .iface 71 v' ∧ Rep h w (.agg [.int .i64 pos, .int .i64 x]) v' := by
    unfold fault at hv
    cases hv with
    | iface _ _ v' hv' => exact ⟨v', rfl, hv'⟩
  refine callsD_recover (v := .iface 71 v') Tryz.func35 b35 o35 (by rw [hn]; decide) (by rw [hn]; omega) (.inr ⟨rfl, rfl⟩) fun c₀ cs => ?_
  have he0 := enter_env (n := Tryz.f35.ntmps) (by rw [hn]; show 3 ≤ 22; decide) ha
  generalize hact0 : ({ tmps := vs.toArray ++ Array.replicate (Tryz.f35.ntmps - vs.toArray.size) undef, defers := [] } : Act) = a0
  have he0' : EnvRep h w 22 (envFrom 0 [.ptr b2 0, .ptr b3 0, .ptr b4 0]) a0.tmps := by rw [← hact0, ← hn]; exact he0
  have hd0 : a0.defers = [] := by rw [← hact0]
  have he6 := EnvB.put1 he0' (d := 6) (by decide) hv
  have he3 := EnvB.put1 he6 (d := 3) (by decide) hv
  generalize ha3 : (a0.put (some 6) (.iface 71 v')).put (some 3) (.iface 71 v') = a3 at he3 ⊢
  have hs3 : a3.tmps.size = 22 := he3.1
  have hd3 : a3.defers = [] := by rw [← ha3]; exact hd0
  have hev3 : a3.eval (.tmp 3) = .iface 71 v' := by rw [← ha3]; exact eval_put (by rw [size_put]; have := he0'.1; omega)
  refine wp_seq (wp_region_list ?_)
  rw [l35b]
  refine pure_op o35b0.2.2 (run_move o35b0.1) ?_
  rw [o35b0.2.1, hev3]
  have he7 := EnvB.put1 he3 (d := 7) (by decide) hv
  refine pure_op o35b1.2.2 (run_some35 (eval_put (by omega))) ?_
  rw [o35b1.2.1]
  have he8 := EnvB.put1 he7 (d := 8) (by decide) (.bool true)
  refine wp_cond (t := true) (eval_put (by rw [size_put]; omega)) ?_
  rw [if_pos rfl]
  refine wp_seq (wp_region_list ?_)
  rw [l35x]
  refine pure_op o35x0.2.2 (run_move o35x0.1) ?_
  have hev8 : ((a3.put (some 7) (.iface 71 v')).put (some 8) (.bool true)).eval (.tmp 3) = .iface 71 v' := by
    rw [eval_put_ne (by rw [size_put]; omega) (by decide), eval_put_ne (by omega) (by decide)]
    exact hev3
  rw [o35x0.2.1, hev8]
  have he10 := EnvB.put1 he8 (d := 10) (by decide) hv
  refine pure_op o35x1.2.2 (run_assert35 (eval_put (by rw [size_put, size_put]; omega))) ?_
  rw [o35x1.2.1]
  have htup : Rep h w (.tuple [.agg [.int .i64 pos, .int .i64 x], .bool true]) (.tuple #[v', .bool true]) := by
    have := Rep.tuple (h := h) (w := w) [.agg [.int .i64 pos, .int .i64 x], .bool true] [v', .bool true] rfl (fun i c v h1 h2 => by
      match i, h1, h2 with
      | 0, h1, h2 => simp at h1 h2; subst h1 h2; exact hv'
      | 1, h1, h2 => simp at h1 h2; subst h1 h2; exact .bool true
      | i + 2, h1, h2 => simp at h1)
    exact this
  have he11 := EnvB.put1 he10 (d := 11) (by decide) htup
  refine abs_ops (K := fun e h' => awp Tryz.prog G ir35y (Run Tryz.prog G (Only fun _ h' => After35 h b2 b3 b4 pos x h') []) e h') [] _ r35x tr35x _ h _ w ?_ hr (.refl hr) he11 (D := []) hd3 ?_
  · refine g1 ?_
    refine s_alloc (tt rfl) fun b5 hb5 => ⟨trivial, ?_⟩
    try simp only [set_next, new_next] at hb5
    refine g1 ?_
    have hw2 := hr.wf _ _ h2
    have hw3 := hr.wf _ _ h3
    have hw4 := hr.wf _ _ h4
    obtain ⟨n1, n2, n3⟩ := hne
    (refine s_store (tt rfl) rfl rfl hpp rfl rfl rfl rfl ⟨⟨rk_load (T' := 71) (cs := [.int .i64 pos, .int .i64 x]) (tt rfl) rfl rfl hpp rfl rfl rfl, rk_load (T' := 71) (cs := [.int .i64 pos, .int .i64 x]) (tt rfl) rfl rfl hpp rfl rfl rfl, trivial⟩, ?_⟩)
    (refine s_store (tt rfl) rfl rfl hpp rfl rfl rfl rfl ⟨⟨rk_load (T' := 71) (cs := [.int .i64 pos, .int .i64 x]) (tt rfl) rfl rfl hpp rfl rfl rfl, trivial⟩, ?_⟩)
    refine g1 ?_
    refine only_i ?_
    refine ⟨by exact hpp, by exact hpp, by exact hpp, fun hb k2 k3 k4 hs => ?_⟩
    exact .setl (.setl (.setl (.setl (.new hs hb5 _) (by have := hs.next; omega) _) k2 _) k3 _) k4 _
  · intro e' h' a' w' hk k1 k2 k3 k4
    refine wp_mono (awp_ok mixed _ ir35y tr35y _ e' h' a' w' hk k1 k3 k4) ?_
    rintro ex a2 w2 ⟨ax, e2, h2', q1, q2, q3, q4, q5, q6⟩
    cases ax with
    | normal =>
      obtain rfl := q2
      unfold Run at q1
      exact ⟨q6, _, rfl, _, nil_ret (by kernel_rfl) _ _, rfl, ⟨_, rfl⟩, h2', q1, q3, k2.trans q4⟩
    | exit i => unfold Run at q1; exact q1.elim
    | ret => unfold Run at q1; exact q1.elim
    | panic v => unfold Run at q1; exact q1.elim

/-- What Parse returns for what the reader comes to. -/
def outQ : R Qry → Qry × Int × Int
  | .ok q _ => (q, 0, 0)
  | .bad p e => (⟨.zero, .zero, [], 0⟩, p, e)

abbrev D13 : Code → Code := fun c => Code.fst (Code.snd (Code.snd c))
noncomputable abbrev E13 : Code := Code.fst (Code.snd (Code.snd (Code.snd bod13)))
noncomputable abbrev F13 : Code := Code.fst (Code.snd (Code.snd bod13))
theorem l13d : (Code.oper F13).toArray.toList = (Code.oper F13).take 1 ++ [op13 F13 1] := by kernel_rfl
theorem o13d : (op13 F13 1).op = .defer ⟨.value (.tmp 9), #[], #[]⟩ ∧ (op13 F13 1).dst = none ∧ (op13 F13 1).guard = none := ⟨by kernel_rfl, by kernel_rfl, by kernel_rfl⟩
theorem l13e : (Code.oper E13).toArray.toList = (Code.oper E13).take 3 ++ (op13 E13 3 :: ((Code.oper E13).drop 4 ++ [])) := by kernel_rfl
theorem t13e : trOp 14 (Code.oper E13).toArray (op13 E13 3) = some ⟨some 13, .call ⟨.value (.func 36), #[.tmp 12], #[73]⟩, none⟩ := by kernel_rfl
theorem ca35 : Callable Tryz.prog 35 := ⟨_, Tryz.func35, by kernel_rfl, by kernel_rfl⟩

def Post13 (s : Str) (x : Qry × Int × Int) : AVal := .tuple [encQa x.1, .int .i64 x.2.1, .int .i64 x.2.2]

set_option maxHeartbeats 2000000 in
theorem c13 (hs : s.length ≤ 1000) (x : Qry × Int × Int) (hx : (400 < s.length ∧ x = (⟨.zero, .zero, [], 0⟩, 0, 2)) ∨ (s.length ≤ 400 ∧ ∃ n r, n ≤ 100000 ∧ queryP s n = some r ∧ x = outQ r)) : ACalls Tryz.prog G 13 [.str s] h (Gives (Post13 s x) h) := by
  refine ACalls.fin (acalls_of fun w vs hr ha => ?_)
  have hn : Tryz.f13.ntmps = 14 := Tryz.ntmps13
  have hvl : vs.length = 1 := by rw [ha.1]; rfl
  refine calls_of_wp_defers Tryz.func13 b13 ?_
  have he0 := enter_env (n := Tryz.f13.ntmps) (by rw [hn]; show 1 ≤ 14; decide) ha
  have hw := hr.wf
  refine wp_seq (wp_mono (awp_ok mixed _ ir13a tr13a (Run Tryz.prog G (Only fun e h' => ∃ b2 b3 b4, h.next ≤ b2 ∧ b2 + 1 ≤ b3 ∧ b3 + 1 ≤ b4 ∧ e = [(4, true, .ptr b4 0), (3, true, .ptr b3 0), (2, true, .ptr b2 0), (0, true, .str s)] ∧ h' = ((h.new b2 (.box 38 zQ)).new b3 (.box 3 [.int .i64 0])).new b4 (.box 39 [.int .i64 0])) []) _ h _ w ?_ hr (by rw [← hn]; exact he0) rfl) ?_)
  · refine g1 ?_
    refine s_alloc (tt rfl) fun b2 hb2 => ⟨trivial, ?_⟩
    try simp only [set_next, new_next] at hb2
    refine s_alloc (tt rfl) fun b3 hb3 => ⟨trivial, ?_⟩
    try simp only [set_next, new_next] at hb3
    refine s_alloc (tt rfl) fun b4 hb4 => ⟨trivial, ?_⟩
    try simp only [set_next, new_next] at hb4
    refine g1 ?_
    refine only_i ?_
    exact ⟨b2, b3, b4, hb2, hb3, hb4, rfl, rfl⟩
  rintro ex a1 w1 ⟨ax, e1, h1, q1, q2, q3, q4, q5, q6⟩
  cases ax with
  | exit i => unfold Run at q1; exact q1.elim
  | ret => unfold Run at q1; exact q1.elim
  | panic v => unfold Run at q1; exact q1.elim
  | normal =>
  obtain rfl := q2
  unfold Run at q1
  obtain ⟨b2, b3, b4, hb2, hb3, hb4, rfl, rfl⟩ := q1
  -- where the text is too long
  have hres : ∀ {N : Nat} {e2 : Env} {h2 : AHeap} {w2 : World} {tmps : Array Value} {x : Qry × Int × Int} {cs : List AVal}, e2.get 4 = some (true, .ptr b4 0) → e2.get 3 = some (true, .ptr b3 0) → e2.get 2 = some (true, .ptr b2 0) → EnvRep h2 w2 N e2 tmps → Rel G h2 w2 → h2.get b2 = some (.box 38 cs) → cs.length = 26 → WeakL cs (encQ x.1) → h2.get b3 = some (.box 3 [.int .i64 x.2.1]) → h2.get b4 = some (.box 39 [.int .i64 x.2.2]) → Sub h h2 →
      Step h w h2 w2 → ∃ v, (results Tryz.f13 tmps).run Tryz.prog w2 = .ok v w2 ∧ ∃ out h', Abs.Fin (Gives (Post13 s x) h) out h' ∧ Rel G h' w2 ∧ Step h w h' w2 ∧ RepOut h' w2 out (.returned v) := by
    intro N e2 h2 w2 tmps x cs k4 k3 k2 he hr2 g2 hl2 hwk g3 g4 hsub hstep
    have har : aret Tryz.prog h2 e2 Tryz.f13.results.toList (fun l => l = [.agg cs, .int .i64 x.2.1, .int .i64 x.2.2]) := by
      rw [show Tryz.f13.results.toList = [.cell 2 38, .cell 3 3, .cell 4 39] by kernel_rfl]
      have e1 : ∀ z, aload ⟨26, 376, .st [(32, 0, 13), (35, 13, 11), (36, 24, 1), (3, 25, 1)], z⟩ cs = some (.agg cs) := fun z => by
        simp only [aload, AK.agg, if_true]
        rw [if_pos (by omega), List.take_of_length_le (by omega)]
      simp only [aret, k4, k3, k2, tt (T := 38) rfl, tt (T := 3) rfl, tt (T := 39) rfl, ACellsAt, g2, g3, g4, if_pos (Nat.zero_le _), List.drop_zero, e1]
      exact ⟨trivial, trivial, trivial, rfl⟩
    obtain ⟨xs, v, rfl, h2, h3⟩ := ret_ok hr2 he har
    refine ⟨v, h2, .ret (.tuple [.agg cs, .int .i64 x.2.1, .int .i64 x.2.2]), _, fin_sub hsub (.ret _ _ ?_) ⟨rfl, rfl⟩, hr2, hstep, v, rfl, h3⟩
    exact WeakL.tuple (.cons (WeakL.agg hwk) (.refl _))
  refine wp_seq (wp_mono (awp_ok mixed _ ir13b tr13b (Run Tryz.prog G (fun ax e h' => (ax = .normal ∧ s.length ≤ 400 ∧ h' = (((h.new b2 (.box 38 zQ)).new b3 (.box 3 [.int .i64 0])).new b4 (.box 39 [.int .i64 0])) ∧ EnvLe [(4, true, .ptr b4 0), (3, true, .ptr b3 0), (2, true, .ptr b2 0), (0, true, .str s)] e) ∨
      (ax = .ret ∧ 400 < s.length ∧ e.get 4 = some (true, .ptr b4 0) ∧ e.get 3 = some (true, .ptr b3 0) ∧ e.get 2 = some (true, .ptr b2 0) ∧ h'.get b2 = some (.box 38 zQ) ∧ h'.get b3 = some (.box 3 [.int .i64 0]) ∧ h'.get b4 = some (.box 39 [.int .i64 2]) ∧ Sub h h')) []) _ _ _ _ ?_ q3 q5 q6) ?_)
  · refine g2 ?_ ?_ <;> (repeat intro hb hc)
    · refine .inr ⟨rfl, by omega, rfl, rfl, rfl, by exact hpp, by exact hpp, by exact hpp, ?_⟩
      exact .setl (.setl (.setl (.new (.new (.new (.refl hw) hb2 _) hb3 _) hb4 _) hb2 _) (by omega) _) (by omega) _
    · exact .inl ⟨rfl, by omega, rfl, by exact envv⟩
  rintro ex a2 w2 ⟨ax2, e2, h2, r1, r2, r3, r4, r5, r6⟩
  unfold Run at r1
  rcases r1 with ⟨rfl, hlen, rfl, hle⟩ | ⟨rfl, hlen, k4, k3, k2, g2, g3, g4, hsub⟩
  · obtain rfl := r2
    obtain ⟨n, r, hn1, hq, rfl⟩ : ∃ n r, n ≤ 100000 ∧ queryP s n = some r ∧ x = outQ r := by
      rcases hx with ⟨h1, _⟩ | ⟨_, h2⟩
      · omega
      · exact h2
    have r5' := hle.rep r5
    refine wp_seq (wp_region_list ?_)
    rw [l13d]
    refine abs_ops (D := []) (K := fun e h' => h' = (((h.new b2 (.box 38 zQ)).new b3 (.box 3 [.int .i64 0])).new b4 (.box 39 [.int .i64 0])) ∧ e = [(9, true, .func (.func 35) [] [.ptr b2 0, .ptr b3 0, .ptr b4 0]), (4, true, .ptr b4 0), (3, true, .ptr b3 0), (2, true, .ptr b2 0), (0, true, .str s)]) [op13 F13 1] _ r13d tr13d _ _ a2 w2 ?_ r3 (.refl r3) r5' r6 ?_
    · refine g1 ?_
      exact only_i ⟨rfl, rfl⟩
    rintro _ _ a3 w3 ⟨rfl, rfl⟩ k1 k2 k3 k4
    obtain ⟨vf, vc, hv9, hvf, hvc⟩ := func_inv (eval_rep k3 (t := 9) rfl)
    have hvf0 : vf = [] := List.eq_nil_of_length_eq_zero hvf.1
    subst hvf0
    refine defer_op o13d.2.2 (run_defer o13d.1 hv9) ?_
    rw [o13d.2.1]
    show (Code.seq (.region 4 (Code.oper E13).toArray false) .ret).wp Tryz.prog _ { tmps := a3.tmps, defers := { target := .fn (.func 35) vc.toArray, args := #[] } :: a3.defers } w3
    rw [k4]
    generalize hdd : ({ target := .fn (.func 35) vc.toArray, args := #[] } : Deferred) = dd
    refine wp_seq (wp_region_list ?_)
    rw [l13e]
    have k3' : EnvRep (((h.new b2 (.box 38 zQ)).new b3 (.box 3 [.int .i64 0])).new b4 (.box 39 [.int .i64 0])) w3 14 [(4, true, .ptr b4 0), (3, true, .ptr b3 0), (2, true, .ptr b2 0), (0, true, .str s)] a3.tmps := EnvLe.rep envv k3
    refine abs_ops (D := [dd]) (K := fun e h' => ∃ b5, b4 + 1 ≤ b5 ∧ h' = ((((h.new b2 (.box 38 zQ)).new b3 (.box 3 [.int .i64 0])).new b4 (.box 39 [.int .i64 0])).new b5 (rdr s (⟨0, [], 0⟩, 0))) ∧ EnvLe [(12, true, .ptr b5 0), (4, true, .ptr b4 0), (3, true, .ptr b3 0), (2, true, .ptr b2 0)] e) _ _ r13c tr13c _ _ _ w3 ?_ k1 (.refl k1) k3' rfl ?_
    · refine g1 ?_
      refine s_box rfl rfl fun b5 hb5 => ⟨trivial, ?_⟩
      try simp only [set_next, new_next] at hb5
      refine g1 ?_
      refine only_i ⟨b5, hb5, rfl, by exact envv⟩
    rintro e4 _ a4 w4 ⟨b5, hb5, rfl, hle4⟩ m1 m2 m3 m4
    have m3' := hle4.rep m3
    have hst : Step h w ((((h.new b2 (.box 38 zQ)).new b3 (.box 3 [.int .i64 0])).new b4 (.box 39 [.int .i64 0])).new b5 (rdr s (⟨0, [], 0⟩, 0))) w4 := ((q4.trans r4).trans k2).trans m2
    have hvc4 := hvc.step m2
    have hsub5 : Sub h ((((h.new b2 (.box 38 zQ)).new b3 (.box 3 [.int .i64 0])).new b4 (.box 39 [.int .i64 0])).new b5 (rdr s (⟨0, [], 0⟩, 0))) := .new (.new (.new (.new (.refl hw) hb2 _) hb3 _) hb4 _) hb5 _
    refine abs_one (Qx := Run Tryz.prog G (fun ax e h' => match ax with
      | .normal => ∃ q st, r = .ok q st ∧ h' = ((((h.new b2 (.box 38 zQ)).new b3 (.box 3 [.int .i64 0])).new b4 (.box 39 [.int .i64 0])).new b5 (rdr s (⟨0, [], 0⟩, 0))).set b5 (rdr s st) ∧ EnvLe [(13, true, encQa q), (4, true, .ptr b4 0), (3, true, .ptr b3 0), (2, true, .ptr b2 0)] e
      | .panic v => ∃ p y st, r = .bad p y ∧ v = fault p y ∧ h' = ((((h.new b2 (.box 38 zQ)).new b3 (.box 3 [.int .i64 0])).new b4 (.box 39 [.int .i64 0])).new b5 (rdr s (⟨0, [], 0⟩, 0))).set b5 (rdr s st)
      | _ => False) []) t13e m1 m3' ?_ ?_ ?_
    · refine s_call rfl rfl rfl ca36 ?_
      refine call_r (c36 hs n hn1 r hn_self hq) (fun q st hr hl => back trivial ?_) (fun p y st hr => ?_)
      · refine g1 ?_
        exact ⟨q, st, hr, rfl, by exact envv⟩
      · exact ⟨p, y, st, hr, rfl, rfl⟩
    · intro e5 h5 a5 w5 hk t1 t2 t3 t4
      unfold Run at hk
      obtain ⟨q, st, rfl, rfl, hle5⟩ := hk
      have t3' := hle5.rep t3
      obtain ⟨⟨op', ⟨o2, nm, ag, vl, lb, fd, kd2⟩, lab, reg, lo, hi, kd⟩, ⟨gop, ga, gb, gn, garg, gv, gf, glo, ghi, gargs, gkd⟩, fs, ks⟩ := q
      refine abs_ops (D := [dd]) (K := fun e h' => h'.get b2 = some (.box 38 (encQ ⟨.mk op' (.mk o2 nm ag vl lb fd kd2) lab reg lo hi kd, .mk gop ga gb gn garg gv gf glo ghi gargs gkd, fs, ks⟩)) ∧ h'.get b3 = some (.box 3 [.int .i64 0]) ∧ h'.get b4 = some (.box 39 [.int .i64 0]) ∧ Sub h h' ∧ EnvLe [(4, true, .ptr b4 0), (3, true, .ptr b3 0), (2, true, .ptr b2 0)] e) [] _ r13e tr13e _ _ _ w5 ?_ t1 (.refl t1) t3' (t4.trans m4) ?_
      · refine g1 ?_
        refine only_i ⟨by exact hpp, by exact hpp, by exact hpp, ?_, by exact envv⟩
        exact .setl (.setl (.setl (.setl hsub5 (by omega) _) hb2 _) (by omega) _) (by omega) _
      rintro e6 h6 a6 w6 ⟨g2, g3, g4, hsub6, hle6⟩ y1 y2 y3 y4
      show (Code.ret).wp Tryz.prog _ a6 w6
      refine wp_ret ?_
      show Leaves Tryz.prog Tryz.f13 a6.tmps _ a6.defers .returning w6
      rw [y4, ← hdd]
      refine leaves_one (by simp) ca35 ((c35r y1 ((hvc4.step t2).step y2) rfl).mono ?_)
      rintro e7 u7 w7 ⟨rfl, ⟨v7, rfl⟩, z1, z2⟩
      exact ⟨rfl, ⟨_, rfl⟩, hres (x := outQ (.ok _ st)) (N := 14) (e2 := [(4, true, .ptr b4 0), (3, true, .ptr b3 0), (2, true, .ptr b2 0)]) rfl rfl rfl ((hle6.rep y3).step z2) z1 g2 rfl (.refl _) g3 g4 hsub6 (((hst.trans t2).trans y2).trans z2)⟩
    · intro v h5 w5 u hk t1 t2 t3
      unfold Run at hk
      obtain ⟨p, y, st, rfl, rfl, rfl⟩ := hk
      show Leaves Tryz.prog Tryz.f13 a4.tmps _ a4.defers (.panicking [{ v := u, recovered := false }]) w5
      rw [m4, ← hdd]
      refine leaves_one (by simp) ca35 ((c35p (b2 := b2) (b3 := b3) (b4 := b4) hpp hpp hpp (by omega) t1 (hvc4.step t2) t3).mono ?_)
      rintro e6 u6 w6 ⟨rfl, ⟨v6, rfl⟩, h6, ⟨g2, g3, g4, hsub6⟩, z1, z2⟩
      refine ⟨rfl, ⟨_, rfl⟩, hres (x := outQ (.bad p y)) (cs := zQ) (N := 14) (e2 := [(12, true, .ptr b5 0), (4, true, .ptr b4 0), (3, true, .ptr b3 0), (2, true, .ptr b2 0)]) rfl rfl rfl ((m3'.step t2).step z2) z1 g2 rfl ?_ g3 g4 ?_ ((hst.trans t2).trans z2)⟩
      · exact wkk
      · exact hsub6 h hb2 (by omega) (by omega) (.setl hsub5 (by omega) _)
  · obtain rfl := r2
    show Leaves Tryz.prog Tryz.f13 a2.tmps _ a2.defers .returning w2
    have hx' : x = (⟨.zero, .zero, [], 0⟩, 0, 2) := by
      rcases hx with ⟨_, h2⟩ | ⟨h1, _⟩
      · exact h2
      · omega
    rw [r6]
    subst hx'
    exact hres k4 k3 k2 r5 r3 g2 rfl wkk g3 g4 hsub (q4.trans r4)
end
end Go.Proofs
