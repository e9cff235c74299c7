/- Constraints read by the reference. No conditions. -/
import Derived.Test.YtjnkbjloabnopaaGreatDoorP22
namespace Go.Proofs
open Go.Abs Go.Q
attribute [local irreducible] awp aops Run BodyQ ACalls Back
section
variable {G : Nat → Option Obj} {h : AHeap} {L : List Tok} {σ : PS L} {g : Nat} {d : Int}

def fnames : List Str := [[], [98, 111, 117, 110, 100], [], [], [100, 105, 115, 116, 97, 110, 99, 101], [115, 97, 109, 101], [104, 101, 97, 100], [97, 110, 99, 101, 115, 116, 111, 114], [112, 97, 116, 104], [110, 111, 100, 101], [100, 101, 112, 116, 104]]

/-- The last one of the first k names that is this one. -/
def opTo (name : Str) : Nat → Int
  | 0 => 0
  | k + 1 => if fnames.getD k [] ≠ [] ∧ fnames.getD k [] = name then k else opTo name k

theorem opTo_all (name : Str) : opTo name 11 = funcOp name := by
  simp only [opTo, fnames, List.getD_cons_succ, List.getD_cons_zero, funcOp]
  by_cases h1 : name = [98, 111, 117, 110, 100]
  · subst h1; decide
  by_cases h2 : name = [100, 105, 115, 116, 97, 110, 99, 101]
  · subst h2; decide
  by_cases h3 : name = [115, 97, 109, 101]
  · subst h3; decide
  by_cases h4 : name = [104, 101, 97, 100]
  · subst h4; decide
  by_cases h5 : name = [97, 110, 99, 101, 115, 116, 111, 114]
  · subst h5; decide
  by_cases h6 : name = [112, 97, 116, 104]
  · subst h6; decide
  by_cases h7 : name = [110, 111, 100, 101]
  · subst h7; decide
  by_cases h8 : name = [100, 101, 112, 116, 104]
  · subst h8; decide
  rw [if_neg h1, if_neg h2, if_neg h3, if_neg h4, if_neg h5, if_neg h6, if_neg h7, if_neg h8]
  simp [Ne.symm h1, Ne.symm h2, Ne.symm h3, Ne.symm h4, Ne.symm h5, Ne.symm h6, Ne.symm h7, Ne.symm h8]

theorem c115 : ACalls Tryz.prog G 115 [] h (Gives (.sl 1 (encSs fnames) .frz) h) := by
  refine ACalls.fin (en115 (by simp) fun hw => ?_)
  refine g1 ?_
  exact fin_sub (.refl hw) (.ret _ _ weak_frz) ⟨rfl, rfl⟩

def RGnotOK (G : Nat → Option Obj) (L : List Tok) (n : Nat) : Prop := ∀ (h : AHeap) (σ : PS L) (g : Nat) (d : Int) (r : Con × PS L), h.get g = some (par d σ) → rGnot n σ = some r → ACalls Tryz.prog G 165 [.ptr g 0] h (PP g d h encGa r)
def RGandOK (G : Nat → Option Obj) (L : List Tok) (n : Nat) : Prop := ∀ (h : AHeap) (σ : PS L) (g : Nat) (d : Int) (r : Con × PS L), h.get g = some (par d σ) → rGand n σ = some r → ACalls Tryz.prog G 104 [.ptr g 0] h (PP g d h encGa r)
def RGorOK (G : Nat → Option Obj) (L : List Tok) (n : Nat) : Prop := ∀ (h : AHeap) (σ : PS L) (g : Nat) (d : Int) (r : Con × PS L), h.get g = some (par d σ) → rGor n σ = some r → ACalls Tryz.prog G 40 [.ptr g 0] h (PP g d h encGa r)



set_option maxHeartbeats 4000000 in
set_option maxRecDepth 10000 in
theorem rgnot_step (hL : LOk L) (n : Nat) (hn : n ≤ 100000) (h1 : RGnotOK G L n) (h2 : RGorOK G L n) : RGnotOK G L (n + 1) := by
  intro h σ g d r hg H
  refine ACalls.fin (en165 (by simp) fun hw => ?_)
  have hgl := hw g _ hg
  simp only [rGnot] at H
  refine g1 ?_
  refine s_alloc (tt rfl) fun b1 hb1 => ⟨trivial, ?_⟩
  try simp only [set_next, new_next] at hb1
  refine g1 ?_
  rcases Bool.eq_false_or_eq_true (is 111 [33] σ) with hx | hx <;> simp only [hx, sbb] at H
  · refine s_call rfl rfl rfl ca39 ?_
    refine (c39_t (σ := σ) hL [33] hx hpp).mono ?_
    rintro _ _ ⟨rfl, rfl⟩
    refine back trivial ?_
    refine g1 ?_
    refine s_call rfl rfl rfl ca165 ?_
    refine call_p (pbO_ne H) (fun r1 hr => h1 _ (adv σ) _ d _ hpp hr) fun a s1 hr => back trivial ?_
    rw [hr] at H; simp only [pbO_some, pb_mk, sbb] at H
    simp only [Option.some.injEq] at H
    subst H
    obtain ⟨gop, ga, gb, gn, garg, gv, gf, glo, ghi, gargs, gkd⟩ := a
    refine g1 ?_
    refine fin_q atss wkk
  refine s_call rfl rfl rfl ca39 ?_
  refine (c39_f (σ := σ) hL [33] hx hpp).mono ?_
  rintro _ _ ⟨rfl, rfl⟩
  refine back trivial ?_
  refine g1 ?_
  rcases Bool.eq_false_or_eq_true (is 111 [40] σ) with hx | hx <;> simp only [hx, sbb] at H
  · refine s_call rfl rfl rfl ca39 ?_
    refine (c39_t (σ := σ) hL [40] hx hpp).mono ?_
    rintro _ _ ⟨rfl, rfl⟩
    refine back trivial ?_
    refine g1 ?_
    refine s_call rfl rfl rfl ca40 ?_
    refine call_p (pbO_ne H) (fun r1 hr => h2 _ (adv σ) _ d _ hpp hr) fun a s1 hr => back trivial ?_
    rw [hr] at H; simp only [pbO_some, pb_mk, sbb] at H
    obtain ⟨gop, ga, gb, gn, garg, gv, gf, glo, ghi, gargs, gkd⟩ := a
    refine g1 ?_
    refine s_alloc (tt rfl) fun b2 hb2 => ⟨trivial, ?_⟩
    try simp only [set_next, new_next] at hb2
    refine g1 ?_
    refine s_call rfl rfl rfl ca44 ?_
    refine call_q (c44 (σ := s1) hL 111 (by omega) [41] hpp) fun u s2 hr => back trivial ?_
    simp only [hr, pb_mk, Option.some.injEq] at H
    subst H
    refine g1 ?_
    refine fin_q atss wkk
  refine s_call rfl rfl rfl ca39 ?_
  refine (c39_f (σ := σ) hL [40] hx hpp).mono ?_
  rintro _ _ ⟨rfl, rfl⟩
  refine back trivial ?_
  refine g1 ?_
  unfold rGatom at H
  refine s_call rfl rfl rfl ca44 ?_
  refine call_q (c44 (σ := σ) hL 110 (by omega) [] hpp) fun name s1 hr => back trivial ?_
  simp only [hr, pb_mk] at H
  refine g1 ?_
  refine s_call rfl rfl rfl ca115 ?_
  refine (c115).mono ?_
  rintro _ _ ⟨rfl, rfl⟩
  refine back trivial ?_
  refine g1 ?_
  refine w_loop (fun e h' k => ∃ i : Nat, i ≤ 11 ∧ k = 11 - i ∧ h' = (h.new b1 (.box 35 zG)).set g (par d s1) ∧ e = [(28, true, .int .i64 i), (27, true, .int .i64 11), (26, true, .sl 1 (encSs fnames) .frz), (5, true, .int .i64 (opTo name i)), (4, true, .str name), (2, true, .ptr b1 0), (0, true, .ptr g 0)])
    _ _ (.cons rfl (.cons rfl (.cons rfl (.cons rfl (.cons rfl (.cons rfl (.cons rfl (.nil _)))))))) ⟨0, by omega, rfl, rfl, rfl⟩ ?_
  rintro _ _ k ⟨i, hik, rfl, rfl, rfl⟩
  refine g3 ?_ ?_ ?_ <;> (repeat intro hb hc)
  · obtain ⟨y, hy⟩ : ∃ y, fnames[i]? = some y := ⟨_, List.getElem?_eq_getElem (by simp [fnames]; omega)⟩
    have hyd : fnames.getD i [] = y := by rw [List.getD_eq_getElem?_getD, hy]; rfl
    refine s_ia rfl (tt rfl) (tt rfl) rfl rfl rfl (fun _ => rfl) (by omega) (row := [.str y]) (by show (fnames.map _)[i]? = _; rw [List.getElem?_map, hy]; rfl) ?_
    refine g3 ?_ ?_ ?_ <;> (repeat intro hb hc)
    · have hop : opTo name (i + 1) = i := by
        unfold opTo
        rw [hyd, if_pos ⟨by assumption, by assumption⟩]
      refine l_n _ _ ?_ ?_ ⟨i + 1, by omega, rfl, rfl, rfl⟩
      · omega
      · refine .cons rfl (.cons rfl (.cons rfl (.cons ?_ (.cons rfl (.cons rfl (.cons rfl (.nil _)))))))
        rw [hop]
        rfl
    · have hop : opTo name (i + 1) = opTo name i := by
        show (if _ then _ else _) = _
        rw [hyd, if_neg (fun q => by have := q.2; contradiction)]
      refine l_n _ _ ?_ ?_ ⟨i + 1, by omega, rfl, rfl, rfl⟩
      · omega
      · refine .cons rfl (.cons rfl (.cons rfl (.cons ?_ (.cons rfl (.cons rfl (.cons rfl (.nil _)))))))
        rw [hop]
        rfl
    · have hop : opTo name (i + 1) = opTo name i := by
        show (if _ then _ else _) = _
        rw [hyd, if_neg (fun q => q.1 (by simpa using hc))]
      refine l_n _ _ ?_ ?_ ⟨i + 1, by omega, rfl, rfl, rfl⟩
      · omega
      · refine .cons rfl (.cons rfl (.cons rfl (.cons ?_ (.cons rfl (.cons rfl (.cons rfl (.nil _)))))))
        rw [hop]
        rfl
  · obtain rfl : i = 11 := by omega
    rw [opTo_all] at hb hc ⊢
    rcases Bool.eq_false_or_eq_true (is 111 [40] s1) with hx | hx
    · rw [if_pos ⟨by omega, hx⟩] at H
      refine s_call rfl rfl rfl ca39 ?_
      refine (c39_t (σ := s1) hL [40] hx hpp).mono ?_
      rintro _ _ ⟨rfl, rfl⟩
      refine back trivial ?_
      refine g1 ?_
      refine s_call rfl rfl rfl ca207 ?_
      refine call_q (c207 (σ := adv s1) hL n hn (funcOp name) r hpp H) fun a s2 hr => back trivial ?_
      obtain ⟨gop, ga, gb, gn, garg, gv, gf, glo, ghi, gargs, gkd⟩ := a
      rw [hr]
      refine g1 ?_
      refine fin_q atss wkk
    · rw [if_neg (fun q => by rw [hx] at q; exact absurd q.2 (by simp))] at H
      refine s_call rfl rfl rfl ca39 ?_
      refine (c39_f (σ := s1) hL [40] hx hpp).mono ?_
      rintro _ _ ⟨rfl, rfl⟩
      refine back trivial ?_
      refine g1 ?_
      refine g1 ?_
      refine s_alloc (tt rfl) fun b2 hb2 => ⟨trivial, ?_⟩
      try simp only [set_next, new_next] at hb2
      refine g1 ?_
      refine s_call rfl rfl rfl ca44 ?_
      refine call_q (c44 (σ := s1) hL 111 (by omega) [46] hpp) fun u2 s2 hr => back trivial ?_
      simp only [hr, pb_mk] at H
      refine g1 ?_
      refine s_call rfl rfl rfl ca44 ?_
      refine call_q (c44 (σ := s2) hL 110 (by omega) [] hpp) fun nm s3 hr => back trivial ?_
      simp only [hr, pb_mk] at H
      refine g1 ?_
      refine s_call rfl rfl rfl ca44 ?_
      refine call_q (c44 (σ := s3) hL 111 (by omega) [61] hpp) fun u4 s4 hr => back trivial ?_
      simp only [hr, pb_mk] at H
      rcases kind_cases 110 110 rfl (s4) with ⟨hk, hk1, hk2⟩ | ⟨hk, hk1⟩ | ⟨hk, hk1, hk2⟩ <;> simp only [hk, sbb] at H
      · refine g1 ?_
        refine s_call rfl rfl rfl ca47 ?_
        refine (c47 (σ := s4) hL hpp).mono ?_
        rintro _ _ ⟨rfl, rfl⟩
        refine back trivial ?_
        refine g1 ?_
        refine s_call rfl rfl rfl ca44 ?_
        refine call_q (c44 (σ := s4) hL 110 (by omega) [] hpp) fun b s5 hr => back trivial ?_
        simp only [hr, pb_mk] at H
        refine g1 ?_
        refine s_call rfl rfl rfl ca44 ?_
        refine call_q (c44 (σ := s5) hL 111 (by omega) [46] hpp) fun u6 s6 hr => back trivial ?_
        simp only [hr, pb_mk] at H
        refine g1 ?_
        refine s_call rfl rfl rfl ca44 ?_
        refine call_q (c44 (σ := s6) hL 110 (by omega) [] hpp) fun arg s7 hr => back trivial ?_
        simp only [hr, pb_mk, Option.some.injEq] at H
        subst H
        refine g1 ?_
        refine fin_q atss wkk
      · refine g1 ?_
        refine s_call rfl rfl rfl ca44 ?_
        refine call_q (c44 (σ := s4) hL 115 (by omega) [] hpp) fun v s5 hr => back trivial ?_
        simp only [hr, pb_mk] at H
        refine g1 ?_
        refine s_call rfl rfl rfl ca208 ?_
        refine call_q (c208 (σ := s5) hL hpp) fun f s6 hr => back trivial ?_
        simp only [hr, pb_mk, Option.some.injEq] at H
        subst H
        refine g1 ?_
        refine fin_q atss wkk
      · refine g1 ?_
        refine s_call rfl rfl rfl ca47 ?_
        refine (c47 (σ := s4) hL hpp).mono ?_
        rintro _ _ ⟨rfl, rfl⟩
        refine back trivial ?_
        refine g1 ?_
        refine s_call rfl rfl rfl ca44 ?_
        refine call_q (c44 (σ := s4) hL 115 (by omega) [] hpp) fun v s5 hr => back trivial ?_
        simp only [hr, pb_mk] at H
        refine g1 ?_
        refine s_call rfl rfl rfl ca208 ?_
        refine call_q (c208 (σ := s5) hL hpp) fun f s6 hr => back trivial ?_
        simp only [hr, pb_mk, Option.some.injEq] at H
        subst H
        refine g1 ?_
        refine fin_q atss wkk
  · obtain rfl : i = 11 := by omega
    rw [opTo_all] at hb hc ⊢
    rw [if_neg (fun q => hc q.1)] at H
    refine g1 ?_
    refine s_alloc (tt rfl) fun b2 hb2 => ⟨trivial, ?_⟩
    try simp only [set_next, new_next] at hb2
    refine g1 ?_
    refine s_call rfl rfl rfl ca44 ?_
    refine call_q (c44 (σ := s1) hL 111 (by omega) [46] hpp) fun u2 s2 hr => back trivial ?_
    simp only [hr, pb_mk] at H
    refine g1 ?_
    refine s_call rfl rfl rfl ca44 ?_
    refine call_q (c44 (σ := s2) hL 110 (by omega) [] hpp) fun nm s3 hr => back trivial ?_
    simp only [hr, pb_mk] at H
    refine g1 ?_
    refine s_call rfl rfl rfl ca44 ?_
    refine call_q (c44 (σ := s3) hL 111 (by omega) [61] hpp) fun u4 s4 hr => back trivial ?_
    simp only [hr, pb_mk] at H
    rcases kind_cases 110 110 rfl (s4) with ⟨hk, hk1, hk2⟩ | ⟨hk, hk1⟩ | ⟨hk, hk1, hk2⟩ <;> simp only [hk, sbb] at H
    · refine g1 ?_
      refine s_call rfl rfl rfl ca47 ?_
      refine (c47 (σ := s4) hL hpp).mono ?_
      rintro _ _ ⟨rfl, rfl⟩
      refine back trivial ?_
      refine g1 ?_
      refine s_call rfl rfl rfl ca44 ?_
      refine call_q (c44 (σ := s4) hL 110 (by omega) [] hpp) fun b s5 hr => back trivial ?_
      simp only [hr, pb_mk] at H
      refine g1 ?_
      refine s_call rfl rfl rfl ca44 ?_
      refine call_q (c44 (σ := s5) hL 111 (by omega) [46] hpp) fun u6 s6 hr => back trivial ?_
      simp only [hr, pb_mk] at H
      refine g1 ?_
      refine s_call rfl rfl rfl ca44 ?_
      refine call_q (c44 (σ := s6) hL 110 (by omega) [] hpp) fun arg s7 hr => back trivial ?_
      simp only [hr, pb_mk, Option.some.injEq] at H
      subst H
      refine g1 ?_
      refine fin_q atss wkk
    · refine g1 ?_
      refine s_call rfl rfl rfl ca44 ?_
      refine call_q (c44 (σ := s4) hL 115 (by omega) [] hpp) fun v s5 hr => back trivial ?_
      simp only [hr, pb_mk] at H
      refine g1 ?_
      refine s_call rfl rfl rfl ca208 ?_
      refine call_q (c208 (σ := s5) hL hpp) fun f s6 hr => back trivial ?_
      simp only [hr, pb_mk, Option.some.injEq] at H
      subst H
      refine g1 ?_
      refine fin_q atss wkk
    · refine g1 ?_
      refine s_call rfl rfl rfl ca47 ?_
      refine (c47 (σ := s4) hL hpp).mono ?_
      rintro _ _ ⟨rfl, rfl⟩
      refine back trivial ?_
      refine g1 ?_
      refine s_call rfl rfl rfl ca44 ?_
      refine call_q (c44 (σ := s4) hL 115 (by omega) [] hpp) fun v s5 hr => back trivial ?_
      simp only [hr, pb_mk] at H
      refine g1 ?_
      refine s_call rfl rfl rfl ca208 ?_
      refine call_q (c208 (σ := s5) hL hpp) fun f s6 hr => back trivial ?_
      simp only [hr, pb_mk, Option.some.injEq] at H
      subst H
      refine g1 ?_
      refine fin_q atss wkk


set_option maxHeartbeats 2000000 in
set_option maxRecDepth 10000 in
theorem rgand_step (hL : LOk L) (n : Nat) (hn : n ≤ 100000) (h1 : ∀ m, m ≤ n → RGnotOK G L m) : RGandOK G L (n + 1) := by
  intro h σ g d r hg H
  refine ACalls.fin (en104 (by simp) fun hw => ?_)
  have hgl := hw g _ hg
  simp only [rGand] at H
  refine g1 ?_
  refine s_alloc (tt rfl) fun b1 hb1 => ⟨trivial, ?_⟩
  try simp only [set_next, new_next] at hb1
  refine g1 ?_
  refine s_call rfl rfl rfl ca165 ?_
  refine call_p (pbO_ne H) (fun r1 hr => h1 n (Nat.le_refl n) _ σ _ d _ hpp hr) fun a s1 hr => back trivial ?_
  rw [hr] at H; simp only [pbO_some, pb_mk, sbb] at H
  obtain ⟨gop, ga, gb, gn, garg, gv, gf, glo, ghi, gargs, gkd⟩ := a
  refine g1 ?_
  refine w_loop (fun e h' k => ∃ (acc : List Con) (σ' : PS L) (tg : Tag), rGandL k acc σ' = some r ∧ acc.length + k ≤ n + 1 ∧ k ≤ n ∧ At h g (par d σ') h' ∧ Room (h.new b1 (.box 35 zG)) h' 35 (acc.length * 11) tg ∧ h'.get b1 = some (.box 35 zG) ∧ b1 + 1 ≤ h'.next ∧
      e = [(0, true, .ptr g 0), (2, true, .ptr b1 0), (3, true, .sl 11 (encGs acc) tg)])
    _ _ (.cons rfl (.cons rfl (.cons rfl (.nil _)))) ⟨[.mk gop ga gb gn garg gv gf glo ghi gargs gkd], s1, .full, H, by simp; omega, Nat.le_refl _, by exact atss, trivial, by exact hpp, by simp [set_next, new_next], rfl⟩ ?_
  rintro _ h' k ⟨acc, st', tg, H, hak, hkn, hat, hroom, hbx, hnx, rfl⟩
  cases k with
  | zero => cases H
  | succ k =>
    simp only [rGandL] at H
    have hgx := hat.get
    have hlen := encGs_length acc
    refine g1 ?_
    rcases Bool.eq_false_or_eq_true (is 111 [38] st') with hx | hx <;> simp only [hx, sbb] at H
    · refine s_call rfl rfl rfl ca39 ?_
      refine (c39_t (σ := st') hL [38] hx hpp).mono ?_
      rintro _ _ ⟨rfl, rfl⟩
      refine back trivial ?_
      refine g1 ?_
      refine s_call rfl rfl rfl ca165 ?_
      refine call_p (pbO_ne H) (fun r1 hr => h1 k (by omega) _ (adv st') _ d _ hpp hr) fun a s2 hr => back trivial ?_
      rw [hr] at H; simp only [pbO_some, pb_mk, sbb] at H
      obtain ⟨gop, ga, gb, gn, garg, gv, gf, glo, ghi, gargs, gkd⟩ := a
      refine g1 ?_
      have hgb : g < (h.new b1 (.box 35 zG)).next := by simp only [new_next]; omega
      refine s_append (h.new b1 (.box 35 zG)) rfl rfl (tt rfl) (tt rfl) rfl (.inl rfl) hnx (append_room (Room.set (Room.set hroom hgb) hgb) (by rw [encGs_length])) (by simp only [encGs_length, List.length_cons, List.length_nil]; omega) fun tg' h2 hr2 hx2 => ⟨trivial, ?_⟩
      refine g1 ?_
      refine l_n _ _ ?_ ?_ ⟨acc ++ [.mk gop ga gb gn garg gv gf glo ghi gargs gkd], s2, tg', H, by simp; omega, by omega, ?_, ?_, ?_, Nat.le_trans hnx hx2.next, rfl⟩
      · omega
      · refine .cons rfl (.cons rfl (.cons ?_ (.nil _)))
        rw [encGs_append]
        rfl
      · refine At.ext ?_ (Ext.le (h1 := h) (by simp only [new_next]; omega) hx2)
        exact atss
      · exact append_room hr2 (by simp [encGs_length])
      · rw [hx2.get b1 (by simp only [new_next]; omega)]
        exact hpp
    · simp only [Option.some.injEq] at H
      subst H
      refine s_call rfl rfl rfl ca39 ?_
      refine (c39_f (σ := st') hL [38] hx hpp).mono ?_
      rintro _ _ ⟨rfl, rfl⟩
      refine back trivial ?_
      refine g2 ?_ ?_ <;> (repeat intro hb hc)
      · obtain ⟨c, rfl⟩ : ∃ c, acc = [c] := List.length_eq_one_iff.1 (by omega)
        obtain ⟨gop, ga, gb, gn, garg, gv, gf, glo, ghi, gargs, gkd⟩ := c
        refine s_ia rfl (tt rfl) (tt rfl) rfl rfl rfl (fun _ => rfl) (by omega) rfl ?_
        refine g1 ?_
        refine fin_q atss wkk
      · have : manyG 12 acc = .mk 12 [] [] [] [] [] false 0 0 [] acc := by
          rcases acc with _ | ⟨c, _ | ⟨d, r⟩⟩
          · rfl
          · exact absurd rfl hc
          · rfl
        rw [this]
        refine fin_q atss wkk

set_option maxHeartbeats 2000000 in
set_option maxRecDepth 10000 in
theorem rgor_step (hL : LOk L) (n : Nat) (hn : n ≤ 100000) (h1 : ∀ m, m ≤ n → RGandOK G L m) : RGorOK G L (n + 1) := by
  intro h σ g d r hg H
  refine ACalls.fin (en40 (by simp) fun hw => ?_)
  have hgl := hw g _ hg
  simp only [rGor] at H
  refine g1 ?_
  refine s_alloc (tt rfl) fun b1 hb1 => ⟨trivial, ?_⟩
  try simp only [set_next, new_next] at hb1
  refine g1 ?_
  refine s_call rfl rfl rfl ca104 ?_
  refine call_p (pbO_ne H) (fun r1 hr => h1 n (Nat.le_refl n) _ σ _ d _ hpp hr) fun a s1 hr => back trivial ?_
  rw [hr] at H; simp only [pbO_some, pb_mk, sbb] at H
  obtain ⟨gop, ga, gb, gn, garg, gv, gf, glo, ghi, gargs, gkd⟩ := a
  refine g1 ?_
  refine w_loop (fun e h' k => ∃ (acc : List Con) (σ' : PS L) (tg : Tag), rGorL k acc σ' = some r ∧ acc.length + k ≤ n + 1 ∧ k ≤ n ∧ At h g (par d σ') h' ∧ Room (h.new b1 (.box 35 zG)) h' 35 (acc.length * 11) tg ∧ h'.get b1 = some (.box 35 zG) ∧ b1 + 1 ≤ h'.next ∧
      e = [(0, true, .ptr g 0), (2, true, .ptr b1 0), (3, true, .sl 11 (encGs acc) tg)])
    _ _ (.cons rfl (.cons rfl (.cons rfl (.nil _)))) ⟨[.mk gop ga gb gn garg gv gf glo ghi gargs gkd], s1, .full, H, by simp; omega, Nat.le_refl _, by exact atss, trivial, by exact hpp, by simp [set_next, new_next], rfl⟩ ?_
  rintro _ h' k ⟨acc, st', tg, H, hak, hkn, hat, hroom, hbx, hnx, rfl⟩
  cases k with
  | zero => cases H
  | succ k =>
    simp only [rGorL] at H
    have hgx := hat.get
    have hlen := encGs_length acc
    refine g1 ?_
    rcases Bool.eq_false_or_eq_true (is 111 [124] st') with hx | hx <;> simp only [hx, sbb] at H
    · refine s_call rfl rfl rfl ca39 ?_
      refine (c39_t (σ := st') hL [124] hx hpp).mono ?_
      rintro _ _ ⟨rfl, rfl⟩
      refine back trivial ?_
      refine g1 ?_
      refine s_call rfl rfl rfl ca104 ?_
      refine call_p (pbO_ne H) (fun r1 hr => h1 k (by omega) _ (adv st') _ d _ hpp hr) fun a s2 hr => back trivial ?_
      rw [hr] at H; simp only [pbO_some, pb_mk, sbb] at H
      obtain ⟨gop, ga, gb, gn, garg, gv, gf, glo, ghi, gargs, gkd⟩ := a
      refine g1 ?_
      have hgb : g < (h.new b1 (.box 35 zG)).next := by simp only [new_next]; omega
      refine s_append (h.new b1 (.box 35 zG)) rfl rfl (tt rfl) (tt rfl) rfl (.inl rfl) hnx (append_room (Room.set (Room.set hroom hgb) hgb) (by rw [encGs_length])) (by simp only [encGs_length, List.length_cons, List.length_nil]; omega) fun tg' h2 hr2 hx2 => ⟨trivial, ?_⟩
      refine g1 ?_
      refine l_n _ _ ?_ ?_ ⟨acc ++ [.mk gop ga gb gn garg gv gf glo ghi gargs gkd], s2, tg', H, by simp; omega, by omega, ?_, ?_, ?_, Nat.le_trans hnx hx2.next, rfl⟩
      · omega
      · refine .cons rfl (.cons rfl (.cons ?_ (.nil _)))
        rw [encGs_append]
        rfl
      · refine At.ext ?_ (Ext.le (h1 := h) (by simp only [new_next]; omega) hx2)
        exact atss
      · exact append_room hr2 (by simp [encGs_length])
      · rw [hx2.get b1 (by simp only [new_next]; omega)]
        exact hpp
    · simp only [Option.some.injEq] at H
      subst H
      refine s_call rfl rfl rfl ca39 ?_
      refine (c39_f (σ := st') hL [124] hx hpp).mono ?_
      rintro _ _ ⟨rfl, rfl⟩
      refine back trivial ?_
      refine g2 ?_ ?_ <;> (repeat intro hb hc)
      · obtain ⟨c, rfl⟩ : ∃ c, acc = [c] := List.length_eq_one_iff.1 (by omega)
        obtain ⟨gop, ga, gb, gn, garg, gv, gf, glo, ghi, gargs, gkd⟩ := c
        refine s_ia rfl (tt rfl) (tt rfl) rfl rfl rfl (fun _ => rfl) (by omega) rfl ?_
        refine g1 ?_
        refine fin_q atss wkk
      · have : manyG 13 acc = .mk 13 [] [] [] [] [] false 0 0 [] acc := by
          rcases acc with _ | ⟨c, _ | ⟨d, r⟩⟩
          · rfl
          · exact absurd rfl hc
          · rfl
        rw [this]
        refine fin_q atss wkk


theorem rglobs_ok (hL : LOk L) : ∀ n, n ≤ 100000 → RGnotOK G L n ∧ RGandOK G L n ∧ RGorOK G L n := by
  intro n
  induction n using Nat.strongRecOn with
  | _ n ih =>
    intro hn
    cases n with
    | zero => exact ⟨fun h σ g d r _ H => by simp [rGnot] at H, fun h σ g d r _ H => by simp [rGand] at H, fun h σ g d r _ H => by simp [rGor] at H⟩
    | succ n =>
      have k := fun m (hm : m ≤ n) => ih m (by omega) (by omega)
      exact ⟨rgnot_step hL n (by omega) (k n (Nat.le_refl n)).1 (k n (Nat.le_refl n)).2.2, rgand_step hL n (by omega) fun m hm => (k m hm).1, rgor_step hL n (by omega) fun m hm => (k m hm).2.1⟩
end
end Go.Proofs

/- The codes of some functions, tied to the loaded program. No conditions. -/
namespace Go.Proofs
open Go.Abs Go.Abs.I
def r37_0 : L := [o 2 (a (.const (.slice none 0 0)))]
def r37_1 : L := [o 3 (a (.const (.slice none 0 0)))]
def r37_2 : L := [o 4 (a (k 0))]
def r37_3 : L := [o 10 (m (t 4)),
  o 11 (m (t 0)),
  o 12 (ln (t 11) 9),
  o 13 (.binOp .lss 3 (t 10) (t 12) 3),
  o 14 (m (t 13)),
  y 15 (m (t 0)) 14 true,
  y 16 (m (t 4)) 14 true,
  y 17 (.index 9 (t 15) (t 16)) 14 true,
  y 18 (.binOp .eql 5 (t 17) (.const (.int .u8 32)) 5) 14 true,
  y 19 (m (t 18)) 14 true,
  y 20 (m (t 0)) 19 false,
  y 21 (m (t 4)) 19 false,
  y 22 (.index 9 (t 20) (t 21)) 19 false,
  y 23 (.binOp .eql 5 (t 22) (.const (.int .u8 10)) 5) 19 false,
  y 24 (.pick (t 19) (b true) (t 23)) 14 true,
  o 25 (.pick (t 14) (t 24) (b false))]
def r37_4 : L := [o 26 (m (t 4)),
  o 27 (.binOp .add 3 (t 26) (k 1) 3),
  o 4 (a (t 27))]
def r37_5 : L := [o 28 (m (t 4)),
  o 29 (m (t 0)),
  o 30 (ln (t 29) 9),
  o 31 (.binOp .eql 3 (t 28) (t 30) 3)]
def r37_6 : L := [o 32 (m (t 3)),
  o 33 (m (t 4)),
  o 34 (.build 92 #[(0, (.const (.int .u8 101))), (1, (s #[])), (2, (t 33))]),
  o 35 (.buildSlice 80 1 #[(0, (t 34))]),
  o 36 (.call ⟨.builtin .append, #[(t 32), (t 35)], #[80, 80]⟩),
  o 2 (a (t 36))]
def r37_7 : L := [o 37 (m (t 4)),
  o 5 (a (t 37))]
def r37_8 : L := [o 85 (m (t 0)),
  o 86 (m (t 4)),
  o 87 (.index 9 (t 85) (t 86)),
  o 88 (.call ⟨.value (f 100), #[(t 87)], #[5]⟩),
  o 84 (a (t 88))]
def r37_9 : L := [o 89 (m (t 5)),
  o 90 (m (t 0)),
  o 91 (ln (t 90) 9),
  o 92 (.binOp .lss 3 (t 89) (t 91) 3),
  o 93 (m (t 92)),
  y 94 (m (t 0)) 93 true,
  y 95 (m (t 5)) 93 true,
  y 96 (.index 9 (t 94) (t 95)) 93 true,
  y 97 (.call ⟨.value (f 100), #[(t 96)], #[5]⟩) 93 true,
  y 98 (m (t 97)) 93 true,
  y 99 (m (t 0)) 98 false,
  y 100 (m (t 5)) 98 false,
  y 101 (.index 9 (t 99) (t 100)) 98 false,
  y 102 (.call ⟨.value (f 101), #[(t 101)], #[5]⟩) 98 false,
  y 103 (.pick (t 98) (b true) (t 102)) 93 true,
  y 104 (m (t 103)) 93 true,
  y 105 (m (t 0)) 104 false,
  y 106 (m (t 5)) 104 false,
  y 107 (.index 9 (t 105) (t 106)) 104 false,
  y 108 (.binOp .eql 5 (t 107) (.const (.int .u8 45)) 5) 104 false,
  y 109 (.pick (t 104) (b true) (t 108)) 93 true,
  o 110 (.pick (t 93) (t 109) (b false))]
def r37_10 : L := [o 111 (m (t 5)),
  o 112 (.binOp .add 3 (t 111) (k 1) 3),
  o 5 (a (t 112))]
def r37_11 : L := [o 113 (m (t 3)),
  o 114 (m (t 0)),
  o 115 (m (t 4)),
  o 116 (m (t 5)),
  o 117 (.slice 9 (t 114) (some (t 115)) (some (t 116)) none),
  o 118 (m (t 4)),
  o 119 (.build 92 #[(0, (.const (.int .u8 110))), (1, (t 117)), (2, (t 118))]),
  o 120 (.buildSlice 80 1 #[(0, (t 119))]),
  o 121 (.call ⟨.builtin .append, #[(t 113), (t 120)], #[80, 80]⟩),
  o 3 (a (t 121))]
def r37_12 : L := [o 123 (m (t 0)),
  o 124 (m (t 4)),
  o 125 (.index 9 (t 123) (t 124)),
  o 126 (.call ⟨.value (f 101), #[(t 125)], #[5]⟩),
  o 122 (a (t 126))]
def r37_13 : L := [o 127 (m (t 5)),
  o 128 (m (t 0)),
  o 129 (ln (t 128) 9),
  o 130 (.binOp .lss 3 (t 127) (t 129) 3),
  o 131 (m (t 130)),
  y 132 (m (t 0)) 131 true,
  y 133 (m (t 5)) 131 true,
  y 134 (.index 9 (t 132) (t 133)) 131 true,
  y 135 (.call ⟨.value (f 101), #[(t 134)], #[5]⟩) 131 true,
  o 136 (.pick (t 131) (t 135) (b false))]
def r37_14 : L := [o 137 (m (t 5)),
  o 138 (.binOp .add 3 (t 137) (k 1) 3),
  o 5 (a (t 138))]
def r37_15 : L := [o 139 (m (t 3)),
  o 140 (m (t 0)),
  o 141 (m (t 4)),
  o 142 (m (t 5)),
  o 143 (.slice 9 (t 140) (some (t 141)) (some (t 142)) none),
  o 144 (m (t 4)),
  o 145 (.build 92 #[(0, (.const (.int .u8 100))), (1, (t 143)), (2, (t 144))]),
  o 146 (.buildSlice 80 1 #[(0, (t 145))]),
  o 147 (.call ⟨.builtin .append, #[(t 139), (t 146)], #[80, 80]⟩),
  o 3 (a (t 147))]
def r37_16 : L := [o 149 (m (t 0)),
  o 150 (m (t 4)),
  o 151 (.index 9 (t 149) (t 150)),
  o 152 (.binOp .eql 5 (t 151) (.const (.int .u8 34)) 5),
  o 148 (a (t 152))]
def r37_17 : L := [o 6 (a (s #[])),
  o 7 (a (b false))]
def r37_18 : L := [o 153 (m (t 4)),
  o 154 (.binOp .add 3 (t 153) (k 1) 3),
  o 5 (a (t 154))]
def r37_19 : L := [o 155 (m (t 5)),
  o 156 (m (t 0)),
  o 157 (ln (t 156) 9),
  o 158 (.binOp .lss 3 (t 155) (t 157) 3)]
def r37_20 : L := [o 161 (m (t 0)),
  o 162 (m (t 5)),
  o 163 (.index 9 (t 161) (t 162)),
  o 164 (.binOp .eql 5 (t 163) (.const (.int .u8 34)) 5)]
def r37_21 : L := [o 165 (m (t 5)),
  o 166 (.binOp .add 3 (t 165) (k 1) 3),
  o 167 (m (t 0)),
  o 168 (ln (t 167) 9),
  o 169 (.binOp .lss 3 (t 166) (t 168) 3),
  o 170 (m (t 169)),
  y 171 (m (t 0)) 170 true,
  y 172 (m (t 5)) 170 true,
  y 173 (.binOp .add 3 (t 172) (k 1) 3) 170 true,
  y 174 (.index 9 (t 171) (t 173)) 170 true,
  y 175 (.binOp .eql 5 (t 174) (.const (.int .u8 34)) 5) 170 true,
  o 176 (.pick (t 170) (t 175) (b false))]
def r37_22 : L := [o 177 (m (t 5)),
  o 178 (.binOp .add 3 (t 177) (k 1) 3),
  o 5 (a (t 178))]
def r37_23 : L := [o 7 (a (b true))]
def r37_24 : L := [o 179 (m (t 6)),
  o 180 (m (t 0)),
  o 181 (m (t 5)),
  o 182 (m (t 5)),
  o 183 (.binOp .add 3 (t 182) (k 1) 3),
  o 184 (.slice 9 (t 180) (some (t 181)) (some (t 183)) none),
  o 185 (.binOp .add 9 (t 179) (t 184) 9),
  o 6 (a (t 185))]
def r37_25 : L := [o 159 (m (t 5)),
  o 160 (.binOp .add 3 (t 159) (k 1) 3),
  o 5 (a (t 160))]
def r37_26 : L := [o 186 (m (t 7)),
  o 187 (.unOp .not 4 (t 186))]
def r37_27 : L := [o 188 (m (t 3)),
  o 189 (m (t 4)),
  o 190 (.build 92 #[(0, (.const (.int .u8 120))), (1, (s #[])), (2, (t 189))]),
  o 191 (.buildSlice 80 1 #[(0, (t 190))]),
  o 192 (.call ⟨.builtin .append, #[(t 188), (t 191)], #[80, 80]⟩),
  o 2 (a (t 192))]
def r37_28 : L := [o 193 (m (t 5)),
  o 194 (.binOp .add 3 (t 193) (k 1) 3),
  o 5 (a (t 194))]
def r37_29 : L := [o 195 (m (t 3)),
  o 196 (m (t 6)),
  o 197 (m (t 4)),
  o 198 (.build 92 #[(0, (.const (.int .u8 115))), (1, (t 196)), (2, (t 197))]),
  o 199 (.buildSlice 80 1 #[(0, (t 198))]),
  o 200 (.call ⟨.builtin .append, #[(t 195), (t 199)], #[80, 80]⟩),
  o 3 (a (t 200))]
def r37_30 : L := [o 38 (.call ⟨.value (f 102), #[], #[]⟩),
  o 39 (ln (t 38) 23),
  o 40 (m (k 0))]
def r37_31 : L := [o 41 (.binOp .lss 3 (t 40) (t 39) 3)]
def r37_32 : L := [o 42 (.indexAddr 23 (t 38) (t 40)),
  o 43 (l 9 (t 42)),
  o 9 (a (t 43))]
def r37_33 : L := [o 44 (m (t 0)),
  o 45 (ln (t 44) 9),
  o 46 (m (t 4)),
  o 47 (.binOp .sub 3 (t 45) (t 46) 3),
  o 48 (m (t 9)),
  o 49 (ln (t 48) 9),
  o 50 (.binOp .geq 3 (t 47) (t 49) 3),
  o 51 (m (t 50)),
  y 52 (m (t 0)) 51 true,
  y 53 (m (t 4)) 51 true,
  y 54 (m (t 4)) 51 true,
  y 55 (m (t 9)) 51 true,
  y 56 (ln (t 55) 9) 51 true,
  y 57 (.binOp .add 3 (t 54) (t 56) 3) 51 true,
  y 58 (.slice 9 (t 52) (some (t 53)) (some (t 57)) none) 51 true,
  y 59 (m (t 9)) 51 true,
  y 60 (.binOp .eql 9 (t 58) (t 59) 9) 51 true,
  o 61 (.pick (t 51) (t 60) (b false))]
def r37_34 : L := [o 62 (m (t 4)),
  o 63 (m (t 9)),
  o 64 (ln (t 63) 9),
  o 65 (.binOp .add 3 (t 62) (t 64) 3),
  o 5 (a (t 65))]
def r37_35 : L := [o 66 (.binOp .add 3 (t 40) (k 1) 3),
  o 40 (m (t 66))]
def r37_36 : L := [o 67 (m (t 5)),
  o 68 (m (t 4)),
  o 69 (.binOp .eql 3 (t 67) (t 68) 3)]
def r37_37 : L := [o 70 (m (t 3)),
  o 71 (m (t 4)),
  o 72 (.build 92 #[(0, (.const (.int .u8 120))), (1, (s #[])), (2, (t 71))]),
  o 73 (.buildSlice 80 1 #[(0, (t 72))]),
  o 74 (.call ⟨.builtin .append, #[(t 70), (t 73)], #[80, 80]⟩),
  o 2 (a (t 74))]
def r37_38 : L := [o 75 (m (t 3)),
  o 76 (m (t 0)),
  o 77 (m (t 4)),
  o 78 (m (t 5)),
  o 79 (.slice 9 (t 76) (some (t 77)) (some (t 78)) none),
  o 80 (m (t 4)),
  o 81 (.build 92 #[(0, (.const (.int .u8 111))), (1, (t 79)), (2, (t 80))]),
  o 82 (.buildSlice 80 1 #[(0, (t 81))]),
  o 83 (.call ⟨.builtin .append, #[(t 75), (t 82)], #[80, 80]⟩),
  o 3 (a (t 83))]
def r37_39 : L := [o 201 (m (t 5)),
  o 4 (a (t 201))]
def ir37 : ACode := .seq (.ops r37_0) (.seq (.ops r37_1) (.seq (.ops r37_2) (.block 0 (.loop (.block 1 (.seq (.block 2 (.loop (.seq (.seq (.ops r37_3) (.cond (t 25) (.skip) (.exit 2))) (.block 3 (.ops r37_4))))) (.seq (.seq (.ops r37_5) (.cond (t 31) (.seq (.ops r37_6) (.ret)) (.skip))) (.seq (.ops r37_7) (.seq (.block 4 (.seq (.ops r37_8) (.cond (t 84) (.seq (.block 7 (.loop (.seq (.seq (.ops r37_9) (.cond (t 110) (.skip) (.exit 7))) (.block 8 (.ops r37_10))))) (.ops r37_11)) (.seq (.ops r37_12) (.cond (t 122) (.seq (.block 9 (.loop (.seq (.seq (.ops r37_13) (.cond (t 136) (.skip) (.exit 9))) (.block 10 (.ops r37_14))))) (.ops r37_15)) (.seq (.ops r37_16) (.cond (t 148) (.seq (.ops r37_17) (.seq (.seq (.ops r37_18) (.block 11 (.loop (.seq (.seq (.ops r37_19) (.cond (t 158) (.skip) (.exit 11))) (.seq (.block 12 (.seq (.seq (.ops r37_20) (.cond (t 164) (.seq (.ops r37_21) (.cond (t 176) (.ops r37_22) (.seq (.ops r37_23) (.exit 11)))) (.skip))) (.ops r37_24))) (.ops r37_25)))))) (.seq (.seq (.ops r37_26) (.cond (t 187) (.seq (.ops r37_27) (.ret)) (.skip))) (.seq (.ops r37_28) (.ops r37_29))))) (.seq (.seq (.ops r37_30) (.block 5 (.loop (.seq (.ops r37_31) (.seq (.cond (t 41) (.skip) (.exit 5)) (.seq (.block 6 (.seq (.ops r37_32) (.seq (.ops r37_33) (.cond (t 61) (.seq (.ops r37_34) (.exit 5)) (.skip))))) (.ops r37_35))))))) (.seq (.seq (.ops r37_36) (.cond (t 69) (.seq (.ops r37_37) (.ret)) (.skip))) (.ops r37_38)))))))))) (.ops r37_39))))))))))
theorem en37 : En ir37 202 [.tmp 2] 37 := acalls_enter_b mixed Tryz.func37 Tryz.ntmps37 (by kernel_rfl) (by kernel_rfl)
theorem ca37 : Ca 37 := cal Tryz.func37
def r14_0 : L := [o 2 (.alloc 38),
  o 3 (a (k 0)),
  o 4 (a (k 0))]
def r14_1 : L := [o 9 (m (t 0)),
  o 10 (ln (t 9) 9),
  o 11 (.binOp .gtr 3 (t 10) (k 400) 3)]
def r14_2 : L := [o 12 (.build 38 #[]),
  q (.store 38 (t 2) (t 12)),
  o 3 (a (k 0)),
  o 4 (a (k 2))]
def r14_3 : L := [o 13 (m (t 0)),
  o 14 (.call ⟨.value (f 37), #[(t 13)], #[9]⟩),
  o 15 (.build 83 #[(0, (t 14))]),
  o 16 (.box 83 (t 15)),
  o 5 (a (t 16))]
def r14_4 : L := [o 17 (m (t 5)),
  o 18 (.call ⟨.value (f 38), #[(t 17)], #[79]⟩),
  o 19 (.build 38 #[(0, (t 18))]),
  o 6 (.alloc 38),
  q (.store 38 (t 6) (t 19))]
def r14_5 : L := [o 20 (m (t 5)),
  o 21 (.call ⟨.value (f 39), #[(t 20), (s #[58, 58])], #[79, 9]⟩)]
def r14_6 : L := [o 22 (m (t 5)),
  o 23 (.call ⟨.value (f 40), #[(t 22)], #[79]⟩),
  o 24 (fa 38 (t 6) 1),
  q (.store 35 (t 24) (t 23))]
def r14_7 : L := [o 25 (m (t 5)),
  o 26 (.nilCheck (t 25)),
  o 27 (fa 83 (t 26) 3),
  o 28 (l 39 (t 27)),
  o 29 (.binOp .eql 39 (t 28) (k 0) 39)]
def r14_8 : L := [o 30 (m (t 5)),
  o 31 (.call ⟨.value (f 39), #[(t 30), (s #[33])], #[79, 9]⟩),
  o 7 (a (t 31))]
def r14_9 : L := [o 32 (m (t 5)),
  o 33 (.call ⟨.value (f 42), #[], #[]⟩),
  o 34 (.call ⟨.value (f 41), #[(t 32), (t 33), (k 1)], #[79, 23, 3]⟩),
  o 8 (a (t 34))]
def r14_10 : L := [o 35 (m (t 8)),
  o 36 (.binOp .eql 3 (t 35) (k (-1)) 3)]
def r14_11 : L := [o 37 (m (t 7))]
def r14_12 : L := [o 38 (m (t 5)),
  o 39 (.call ⟨.value (f 43), #[(t 38)], #[79]⟩)]
def r14_13 : L := [o 40 (m (t 5)),
  o 41 (.nilCheck (t 40)),
  o 42 (fa 83 (t 41) 1),
  o 43 (l 3 (t 42)),
  o 44 (.binOp .add 3 (t 43) (k 1) 3),
  o 45 (.nilCheck (t 40)),
  o 46 (fa 83 (t 45) 1),
  q (.store 3 (t 46) (t 44))]
def r14_14 : L := [o 47 (fa 38 (t 6) 2),
  o 48 (l 36 (t 47)),
  o 49 (m (t 8)),
  o 50 (m (t 7)),
  o 51 (m (t 5)),
  oc 52 (.call ⟨.value (f 44), #[(t 51), (.const (.int .u8 110)), (s #[])], #[79, 5, 9]⟩) [c 48 (l 36 (t 47))],
  o 53 (.build 62 #[(0, (t 49)), (1, (t 50)), (2, (t 52))]),
  o 54 (.buildSlice 36 1 #[(0, (t 53))]),
  o 55 (.call ⟨.builtin .append, #[(t 48), (t 54)], #[36, 36]⟩),
  o 56 (fa 38 (t 6) 2),
  q (.store 36 (t 56) (t 55))]
def r14_15 : L := [o 57 (m (t 5)),
  o 58 (.call ⟨.value (f 45), #[(t 57), (.const (.int .u8 110)), (s #[115, 116, 114, 97, 116, 101, 103, 121])], #[79, 5, 9]⟩)]
def r14_16 : L := [o 59 (m (t 5)),
  o 60 (.nilCheck (t 59)),
  o 61 (fa 83 (t 60) 1),
  o 62 (l 3 (t 61)),
  o 63 (.binOp .add 3 (t 62) (k 1) 3),
  o 64 (.nilCheck (t 59)),
  o 65 (fa 83 (t 64) 1),
  q (.store 3 (t 65) (t 63))]
def r14_17 : L := [o 66 (m (t 5)),
  o 67 (.call ⟨.value (f 46), #[], #[]⟩),
  o 68 (.call ⟨.value (f 41), #[(t 66), (t 67), (k 0)], #[79, 23, 3]⟩),
  o 69 (fa 38 (t 6) 3),
  q (.store 3 (t 69) (t 68))]
def r14_18 : L := [o 70 (fa 38 (t 6) 3),
  o 71 (l 3 (t 70)),
  o 72 (.binOp .eql 3 (t 71) (k (-1)) 3)]
def r14_19 : L := [o 73 (m (t 5)),
  o 74 (.call ⟨.value (f 43), #[(t 73)], #[79]⟩)]
def r14_20 : L := [o 75 (m (t 5)),
  o 76 (.nilCheck (t 75)),
  o 77 (fa 83 (t 76) 1),
  o 78 (l 3 (t 77)),
  o 79 (.binOp .add 3 (t 78) (k 1) 3),
  o 80 (.nilCheck (t 75)),
  o 81 (fa 83 (t 80) 1),
  q (.store 3 (t 81) (t 79))]
def r14_21 : L := [o 82 (m (t 5)),
  o 83 (.nilCheck (t 82)),
  o 84 (fa 83 (t 83) 3),
  o 85 (l 39 (t 84)),
  o 86 (.binOp .eql 39 (t 85) (k 0) 39),
  o 87 (m (t 86)),
  y 88 (m (t 5)) 87 true,
  y 89 (.call ⟨.value (f 47), #[(t 88)], #[79]⟩) 87 true,
  y 90 (.field 92 (t 89) 0) 87 true,
  y 91 (.binOp .neq 5 (t 90) (.const (.int .u8 101)) 5) 87 true,
  o 92 (.pick (t 87) (t 91) (b false))]
def r14_22 : L := [o 93 (m (t 5)),
  o 94 (.call ⟨.value (f 43), #[(t 93)], #[79]⟩)]
def r14_23 : L := [o 95 (m (t 5)),
  o 96 (.nilCheck (t 95)),
  o 97 (fa 83 (t 96) 3),
  o 98 (l 39 (t 97)),
  o 99 (.binOp .neq 39 (t 98) (k 0) 39)]
def r14_24 : L := [o 100 (.build 38 #[]),
  o 101 (m (t 5)),
  o 102 (.nilCheck (t 101)),
  o 103 (fa 83 (t 102) 4),
  o 104 (l 3 (t 103)),
  o 105 (m (t 5)),
  o 106 (.nilCheck (t 105)),
  o 107 (fa 83 (t 106) 3),
  o 108 (l 39 (t 107)),
  qc (.store 38 (t 2) (t 100)) [c 108 (l 39 (t 107)), c 104 (l 3 (t 103))],
  o 3 (a (t 104)),
  o 4 (a (t 108))]
def r14_25 : L := [o 109 (l 38 (t 6)),
  q (.store 38 (t 2) (t 109)),
  o 3 (a (k 0)),
  o 4 (a (k 0))]
def ir14 : ACode := .seq (.ops r14_0) (.seq (.seq (.ops r14_1) (.cond (t 11) (.seq (.ops r14_2) (.ret)) (.skip))) (.seq (.ops r14_3) (.seq (.ops r14_4) (.seq (.seq (.ops r14_5) (.cond (t 21) (.ops r14_6) (.skip))) (.seq (.block 0 (.loop (.seq (.seq (.ops r14_7) (.cond (t 29) (.skip) (.exit 0))) (.block 1 (.seq (.ops r14_8) (.seq (.ops r14_9) (.seq (.seq (.ops r14_10) (.cond (t 36) (.seq (.seq (.ops r14_11) (.cond (t 37) (.ops r14_12) (.skip))) (.exit 0)) (.skip))) (.seq (.ops r14_13) (.ops r14_14))))))))) (.seq (.seq (.ops r14_15) (.cond (t 58) (.seq (.ops r14_16) (.seq (.ops r14_17) (.seq (.ops r14_18) (.cond (t 72) (.ops r14_19) (.ops r14_20))))) (.skip))) (.seq (.seq (.ops r14_21) (.cond (t 92) (.ops r14_22) (.skip))) (.seq (.seq (.ops r14_23) (.cond (t 99) (.seq (.ops r14_24) (.ret)) (.skip))) (.seq (.ops r14_25) (.ret))))))))))
theorem en14 : En ir14 110 [.cell 2 38, .tmp 3, .tmp 4] 14 := acalls_enter_b mixed Tryz.func14 Tryz.ntmps14 (by kernel_rfl) (by kernel_rfl)
theorem ca14 : Ca 14 := cal Tryz.func14
end Go.Proofs
