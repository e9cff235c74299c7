/- Widths of the patterns that the generator makes, walked. No conditions. -/
import Derived.Test.YtjnkbjloabnopaaGreatDoorZ22
namespace Go.Proofs
open Go.Abs Go.Q
attribute [local irreducible] awp aops Run BodyQ ACalls Back
section
variable {G : Nat → Option Obj} {h : AHeap}

set_option maxHeartbeats 4000000 in
theorem c79 {lab : Str → Prop} {n : Nat} {p : Pat} (hp : GP lab n p) : n ≤ 4 → ∀ h : AHeap, ACalls Tryz.prog G 79 [encPa p] h (Gives (.tuple [.int .i64 (widP p).1, .int .i64 (widP p).2]) h) := by
  induction hp with
  | token n c label hc hlab =>
    intro _ h
    obtain ⟨op', nm, ag, vl, lb, fd, kd⟩ := c
    refine ACalls.fin (en79 (by simp) fun hw => ?_)
    refine g1 ?_
    refine s_box rfl rfl fun b1 hb1 => ⟨trivial, ?_⟩
    try simp only [set_next, new_next] at hb1
    refine g1 ?_
    exact fin_sub (.new (.refl hw) hb1 _) (.ret _ _ (.refl _)) ⟨rfl, rfl⟩
  | edge n op ty ho hty =>
    intro _ h
    refine ACalls.fin (en79 (by simp) fun hw => ?_)
    rcases ho with rfl | rfl
    · refine g1 ?_
      refine s_box rfl rfl fun b1 hb1 => ⟨trivial, ?_⟩
      try simp only [set_next, new_next] at hb1
      refine g1 ?_
      exact fin_sub (.new (.refl hw) hb1 _) (.ret _ _ (.refl _)) ⟨rfl, rfl⟩
    · refine g1 ?_
      refine s_box rfl rfl fun b1 hb1 => ⟨trivial, ?_⟩
      try simp only [set_next, new_next] at hb1
      refine g1 ?_
      exact fin_sub (.new (.refl hw) hb1 _) (.ret _ _ (.refl _)) ⟨rfl, rfl⟩
  | two n op p q ho hp hq i1 i2 =>
    intro hn h
    have h1 := i1 (by omega)
    have h3 := i2 (by omega)
    have w1 := hp.wb
    have w3 := hq.wb
    have hpw : (3 : Int) ^ n ≤ 27 := by rcases (show n = 0 ∨ n = 1 ∨ n = 2 ∨ n = 3 by omega) with rfl | rfl | rfl | rfl <;> decide
    obtain ⟨w10, w11, w12, w13⟩ := w1
    obtain ⟨w30, w31, w32, w33⟩ := w3
    have w11 := Int.le_trans w11 hpw
    have w13 := Int.le_trans w13 hpw
    have w31 := Int.le_trans w31 hpw
    have w33 := Int.le_trans w33 hpw
    rw [wid_two]
    generalize widP p = w at *
    generalize widP q = v at *
    obtain ⟨wa, wb⟩ := w
    obtain ⟨va, vb⟩ := v
    simp only at *
    obtain ⟨o1, ⟨p1, p2, p3, p4, p5, p6, p7⟩, r1, r2, r3, r4, r5⟩ := p
    obtain ⟨o2, ⟨q1, q2, q3, q4, q5, q6, q7⟩, s1, s2, s3, s4, s5⟩ := q
    refine ACalls.fin (en79 (by simp) fun hw => ?_)
    rcases ho with rfl | rfl
    · refine g1 ?_
      refine s_box rfl rfl fun b1 hb1 => ⟨trivial, ?_⟩
      try simp only [set_next, new_next] at hb1
      refine g1 ?_
      have hsub1 : Sub h (h.new b1 (.box 32 (encPa (.mk 4 .zero [] [] 0 0 [.mk o1 (.mk p1 p2 p3 p4 p5 p6 p7) r1 r2 r3 r4 r5, .mk o2 (.mk q1 q2 q3 q4 q5 q6 q7) s1 s2 s3 s4 s5])).cells)) := .new (.refl hw) hb1 _
      refine s_ia (row := encP (.mk o1 (.mk p1 p2 p3 p4 p5 p6 p7) r1 r2 r3 r4 r5)) rfl (tt rfl) (tt rfl) rfl rfl rfl (fun _ => rfl) (by decide) rfl ?_
      refine g1 ?_
      refine s_call rfl rfl rfl ca79 ?_
      refine (h1 _).mono ?_
      rintro _ _ ⟨rfl, hh⟩
      obtain rfl := hh.symm
      refine back trivial ?_
      have hlen2 : (encPs [.mk o1 (.mk p1 p2 p3 p4 p5 p6 p7) r1 r2 r3 r4 r5, .mk o2 (.mk q1 q2 q3 q4 q5 q6 q7) s1 s2 s3 s4 s5]).length = 2 := rfl
      refine g1 ?_
      obtain ⟨hh, hhd⟩ : ∃ hh, hh = h.new b1 (.box 32 (encPa (.mk 4 .zero [] [] 0 0 [.mk o1 (.mk p1 p2 p3 p4 p5 p6 p7) r1 r2 r3 r4 r5, .mk o2 (.mk q1 q2 q3 q4 q5 q6 q7) s1 s2 s3 s4 s5])).cells) := ⟨_, rfl⟩
      have hbox : hh.get b1 = some (.box 32 (encPa (.mk 4 .zero [] [] 0 0 [.mk o1 (.mk p1 p2 p3 p4 p5 p6 p7) r1 r2 r3 r4 r5, .mk o2 (.mk q1 q2 q3 q4 q5 q6 q7) s1 s2 s3 s4 s5])).cells) := by subst hhd; exact hpp
      have hnx : b1 < hh.next := by subst hhd; simp only [new_next]; omega
      rw [← hhd] at hsub1 ⊢
      clear hhd
      refine w_loop (fun e h' n => Sub h h' ∧ ((n = 1 ∧ h' = hh ∧ e = [(1, true, .ptr b1 0), (6, true, .int .i64 wa), (7, true, .int .i64 wb), (69, true, .sl 13 [encP (.mk o2 (.mk q1 q2 q3 q4 q5 q6 q7) s1 s2 s3 s4 s5)] .frz), (70, true, .int .i64 1), (71, true, .int .i64 0)]) ∨
          (n = 0 ∧ ∃ a b : Int, a = (twoW 4 (wa, wb) (va, vb)).1 ∧ b = (twoW 4 (wa, wb) (va, vb)).2 ∧ e = [(6, true, .int .i64 a), (7, true, .int .i64 b), (70, true, .int .i64 1), (71, true, .int .i64 1)])))
        _ 1 (.cons rfl (.cons rfl (.cons rfl (.cons rfl (.cons rfl (.cons rfl (.nil _))))))) ⟨hsub1, .inl ⟨rfl, rfl, rfl⟩⟩ ?_
      rintro _ h2 _ ⟨hs2, ⟨rfl, rfl, rfl⟩ | ⟨rfl, a, b, ha, hb', rfl⟩⟩
      rotate_left
      · refine g1 ?_
        subst ha; subst hb'
        exact fin_sub hs2 (.ret _ _ (.refl _)) ⟨rfl, rfl⟩
      have hn2 := hs2.next
      refine g1 ?_
      refine s_ia (row := encP (.mk o2 (.mk q1 q2 q3 q4 q5 q6 q7) s1 s2 s3 s4 s5)) rfl (tt rfl) (tt rfl) rfl rfl rfl (fun _ => rfl) (by decide) rfl ?_
      refine g1 ?_
      refine s_alloc (tt rfl) fun b2 hb2 => ⟨trivial, ?_⟩
      try simp only [set_next, new_next] at hb2
      refine g1 ?_
      refine s_call rfl rfl rfl ca79 ?_
      refine (h3 _).mono ?_
      rintro _ _ ⟨rfl, hh⟩
      obtain rfl := hh.symm
      refine back trivial ?_
      refine g3 ?_ ?_ ?_ <;> (repeat intro hb hc)
      all_goals
        refine l_n _ 0 (by omega) envv ⟨?_, .inr ⟨rfl, _, _, ?_, ?_, rfl⟩⟩
        · repeat first | exact Sub.refl hw | assumption | refine Sub.setl ?_ (by omega) _ | refine Sub.new ?_ (by first | omega | (simp only [set_next, new_next]; omega)) _
        · first | (show _ = wa + va; omega) | (show _ = min wa va; omega)
        · first | (show _ = (if wb < 0 ∨ vb < 0 then (-1 : Int) else wb + vb); split <;> omega) | (show _ = (if wb < 0 ∨ vb < 0 then (-1 : Int) else max wb vb); split <;> omega)
    · refine g1 ?_
      refine s_box rfl rfl fun b1 hb1 => ⟨trivial, ?_⟩
      try simp only [set_next, new_next] at hb1
      refine g1 ?_
      have hsub1 : Sub h (h.new b1 (.box 32 (encPa (.mk 5 .zero [] [] 0 0 [.mk o1 (.mk p1 p2 p3 p4 p5 p6 p7) r1 r2 r3 r4 r5, .mk o2 (.mk q1 q2 q3 q4 q5 q6 q7) s1 s2 s3 s4 s5])).cells)) := .new (.refl hw) hb1 _
      refine s_ia (row := encP (.mk o1 (.mk p1 p2 p3 p4 p5 p6 p7) r1 r2 r3 r4 r5)) rfl (tt rfl) (tt rfl) rfl rfl rfl (fun _ => rfl) (by decide) rfl ?_
      refine g1 ?_
      refine s_call rfl rfl rfl ca79 ?_
      refine (h1 _).mono ?_
      rintro _ _ ⟨rfl, hh⟩
      obtain rfl := hh.symm
      refine back trivial ?_
      have hlen2 : (encPs [.mk o1 (.mk p1 p2 p3 p4 p5 p6 p7) r1 r2 r3 r4 r5, .mk o2 (.mk q1 q2 q3 q4 q5 q6 q7) s1 s2 s3 s4 s5]).length = 2 := rfl
      refine g1 ?_
      obtain ⟨hh, hhd⟩ : ∃ hh, hh = h.new b1 (.box 32 (encPa (.mk 5 .zero [] [] 0 0 [.mk o1 (.mk p1 p2 p3 p4 p5 p6 p7) r1 r2 r3 r4 r5, .mk o2 (.mk q1 q2 q3 q4 q5 q6 q7) s1 s2 s3 s4 s5])).cells) := ⟨_, rfl⟩
      have hbox : hh.get b1 = some (.box 32 (encPa (.mk 5 .zero [] [] 0 0 [.mk o1 (.mk p1 p2 p3 p4 p5 p6 p7) r1 r2 r3 r4 r5, .mk o2 (.mk q1 q2 q3 q4 q5 q6 q7) s1 s2 s3 s4 s5])).cells) := by subst hhd; exact hpp
      have hnx : b1 < hh.next := by subst hhd; simp only [new_next]; omega
      rw [← hhd] at hsub1 ⊢
      clear hhd
      refine w_loop (fun e h' n => Sub h h' ∧ ((n = 1 ∧ h' = hh ∧ e = [(1, true, .ptr b1 0), (6, true, .int .i64 wa), (7, true, .int .i64 wb), (69, true, .sl 13 [encP (.mk o2 (.mk q1 q2 q3 q4 q5 q6 q7) s1 s2 s3 s4 s5)] .frz), (70, true, .int .i64 1), (71, true, .int .i64 0)]) ∨
          (n = 0 ∧ ∃ a b : Int, a = (twoW 5 (wa, wb) (va, vb)).1 ∧ b = (twoW 5 (wa, wb) (va, vb)).2 ∧ e = [(6, true, .int .i64 a), (7, true, .int .i64 b), (70, true, .int .i64 1), (71, true, .int .i64 1)])))
        _ 1 (.cons rfl (.cons rfl (.cons rfl (.cons rfl (.cons rfl (.cons rfl (.nil _))))))) ⟨hsub1, .inl ⟨rfl, rfl, rfl⟩⟩ ?_
      rintro _ h2 _ ⟨hs2, ⟨rfl, rfl, rfl⟩ | ⟨rfl, a, b, ha, hb', rfl⟩⟩
      rotate_left
      · refine g1 ?_
        subst ha; subst hb'
        exact fin_sub hs2 (.ret _ _ (.refl _)) ⟨rfl, rfl⟩
      have hn2 := hs2.next
      refine g1 ?_
      refine s_ia (row := encP (.mk o2 (.mk q1 q2 q3 q4 q5 q6 q7) s1 s2 s3 s4 s5)) rfl (tt rfl) (tt rfl) rfl rfl rfl (fun _ => rfl) (by decide) rfl ?_
      refine g1 ?_
      refine s_alloc (tt rfl) fun b2 hb2 => ⟨trivial, ?_⟩
      try simp only [set_next, new_next] at hb2
      refine g1 ?_
      refine s_call rfl rfl rfl ca79 ?_
      refine (h3 _).mono ?_
      rintro _ _ ⟨rfl, hh⟩
      obtain rfl := hh.symm
      refine back trivial ?_
      refine g3 ?_ ?_ ?_ <;> (repeat intro hb hc)
      all_goals
        refine l_n _ 0 (by omega) envv ⟨?_, .inr ⟨rfl, _, _, ?_, ?_, rfl⟩⟩
        · repeat first | exact Sub.refl hw | assumption | refine Sub.setl ?_ (by omega) _ | refine Sub.new ?_ (by first | omega | (simp only [set_next, new_next]; omega)) _
        · first | (show _ = wa + va; omega) | (show _ = min wa va; omega)
        · first | (show _ = (if wb < 0 ∨ vb < 0 then (-1 : Int) else wb + vb); split <;> omega) | (show _ = (if wb < 0 ∨ vb < 0 then (-1 : Int) else max wb vb); split <;> omega)
  | rep n lo hi p hr hp ih =>
    intro hn h
    have h1 := ih (by omega)
    have w1 := hp.wb
    have hpw : (3 : Int) ^ n ≤ 27 := by rcases (show n = 0 ∨ n = 1 ∨ n = 2 ∨ n = 3 by omega) with rfl | rfl | rfl | rfl <;> decide
    obtain ⟨w10, w11, w12, w13⟩ := w1
    have w11 := Int.le_trans w11 hpw
    have w13 := Int.le_trans w13 hpw
    rw [wid_rep]
    generalize widP p = w at *
    obtain ⟨wa, wb⟩ := w
    simp only at *
    obtain ⟨o1, ⟨p1, p2, p3, p4, p5, p6, p7⟩, r1, r2, r3, r4, r5⟩ := p
    refine ACalls.fin (en79 (by simp) fun hw => ?_)
    simp only [reps7, List.mem_cons, Prod.mk.injEq, List.not_mem_nil, or_false] at hr
    rcases hr with ⟨rfl, rfl⟩ | ⟨rfl, rfl⟩ | ⟨rfl, rfl⟩ | ⟨rfl, rfl⟩ | ⟨rfl, rfl⟩ | ⟨rfl, rfl⟩ | ⟨rfl, rfl⟩
    · refine g1 ?_
      refine s_box rfl rfl fun b1 hb1 => ⟨trivial, ?_⟩
      try simp only [set_next, new_next] at hb1
      refine g1 ?_
      refine s_ia (row := encP (.mk o1 (.mk p1 p2 p3 p4 p5 p6 p7) r1 r2 r3 r4 r5)) rfl (tt rfl) (tt rfl) rfl rfl rfl (fun _ => rfl) (by decide) rfl ?_
      refine g1 ?_
      refine s_call rfl rfl rfl ca79 ?_
      refine (h1 _).mono ?_
      rintro _ _ ⟨rfl, hh⟩
      obtain rfl := hh.symm
      refine back trivial ?_
      refine g3 ?_ ?_ ?_ <;> (repeat intro hb hc)
      all_goals
        refine fin_sub (.new (.refl hw) hb1 _) (.ret _ _ (.refl _)) ⟨?_, rfl⟩
        simp only [AOut.ret.injEq, AVal.tuple.injEq, List.cons.injEq, AVal.int.injEq, true_and, and_true, repW]
        repeat rw [wrap64 (by omega)]
        refine ⟨by omega, ?_⟩
        first | (rw [if_pos (Or.inl trivial)]; done) | (rw [if_pos (by omega)]; done) | (rw [if_neg (by omega), if_pos (by omega)]; done) | (rw [if_neg (by omega), if_neg (by omega)]; omega)
    · refine g1 ?_
      refine s_box rfl rfl fun b1 hb1 => ⟨trivial, ?_⟩
      try simp only [set_next, new_next] at hb1
      refine g1 ?_
      refine s_ia (row := encP (.mk o1 (.mk p1 p2 p3 p4 p5 p6 p7) r1 r2 r3 r4 r5)) rfl (tt rfl) (tt rfl) rfl rfl rfl (fun _ => rfl) (by decide) rfl ?_
      refine g1 ?_
      refine s_call rfl rfl rfl ca79 ?_
      refine (h1 _).mono ?_
      rintro _ _ ⟨rfl, hh⟩
      obtain rfl := hh.symm
      refine back trivial ?_
      refine g2 ?_ ?_ <;> (repeat intro hb hc)
      all_goals
        refine fin_sub (.new (.refl hw) hb1 _) (.ret _ _ (.refl _)) ⟨?_, rfl⟩
        simp only [AOut.ret.injEq, AVal.tuple.injEq, List.cons.injEq, AVal.int.injEq, true_and, and_true, repW]
        repeat rw [wrap64 (by omega)]
        refine ⟨by omega, ?_⟩
        first | (rw [if_pos (Or.inl trivial)]; done) | (rw [if_pos (by omega)]; done) | (rw [if_neg (by omega), if_pos (by omega)]; done) | (rw [if_neg (by omega), if_neg (by omega)]; omega)
    · refine g1 ?_
      refine s_box rfl rfl fun b1 hb1 => ⟨trivial, ?_⟩
      try simp only [set_next, new_next] at hb1
      refine g1 ?_
      refine s_ia (row := encP (.mk o1 (.mk p1 p2 p3 p4 p5 p6 p7) r1 r2 r3 r4 r5)) rfl (tt rfl) (tt rfl) rfl rfl rfl (fun _ => rfl) (by decide) rfl ?_
      refine g1 ?_
      refine s_call rfl rfl rfl ca79 ?_
      refine (h1 _).mono ?_
      rintro _ _ ⟨rfl, hh⟩
      obtain rfl := hh.symm
      refine back trivial ?_
      refine g2 ?_ ?_ <;> (repeat intro hb hc)
      all_goals
        refine fin_sub (.new (.refl hw) hb1 _) (.ret _ _ (.refl _)) ⟨?_, rfl⟩
        simp only [AOut.ret.injEq, AVal.tuple.injEq, List.cons.injEq, AVal.int.injEq, true_and, and_true, repW]
        repeat rw [wrap64 (by omega)]
        refine ⟨by omega, ?_⟩
        first | (rw [if_pos (Or.inl trivial)]; done) | (rw [if_pos (by omega)]; done) | (rw [if_neg (by omega), if_pos (by omega)]; done) | (rw [if_neg (by omega), if_neg (by omega)]; omega)
    · refine g1 ?_
      refine s_box rfl rfl fun b1 hb1 => ⟨trivial, ?_⟩
      try simp only [set_next, new_next] at hb1
      refine g1 ?_
      refine s_ia (row := encP (.mk o1 (.mk p1 p2 p3 p4 p5 p6 p7) r1 r2 r3 r4 r5)) rfl (tt rfl) (tt rfl) rfl rfl rfl (fun _ => rfl) (by decide) rfl ?_
      refine g1 ?_
      refine s_call rfl rfl rfl ca79 ?_
      refine (h1 _).mono ?_
      rintro _ _ ⟨rfl, hh⟩
      obtain rfl := hh.symm
      refine back trivial ?_
      refine g3 ?_ ?_ ?_ <;> (repeat intro hb hc)
      all_goals
        refine fin_sub (.new (.refl hw) hb1 _) (.ret _ _ (.refl _)) ⟨?_, rfl⟩
        simp only [AOut.ret.injEq, AVal.tuple.injEq, List.cons.injEq, AVal.int.injEq, true_and, and_true, repW]
        repeat rw [wrap64 (by omega)]
        refine ⟨by omega, ?_⟩
        first | (rw [if_pos (Or.inl trivial)]; done) | (rw [if_pos (by omega)]; done) | (rw [if_neg (by omega), if_pos (by omega)]; done) | (rw [if_neg (by omega), if_neg (by omega)]; omega)
    · refine g1 ?_
      refine s_box rfl rfl fun b1 hb1 => ⟨trivial, ?_⟩
      try simp only [set_next, new_next] at hb1
      refine g1 ?_
      refine s_ia (row := encP (.mk o1 (.mk p1 p2 p3 p4 p5 p6 p7) r1 r2 r3 r4 r5)) rfl (tt rfl) (tt rfl) rfl rfl rfl (fun _ => rfl) (by decide) rfl ?_
      refine g1 ?_
      refine s_call rfl rfl rfl ca79 ?_
      refine (h1 _).mono ?_
      rintro _ _ ⟨rfl, hh⟩
      obtain rfl := hh.symm
      refine back trivial ?_
      refine g3 ?_ ?_ ?_ <;> (repeat intro hb hc)
      all_goals
        refine fin_sub (.new (.refl hw) hb1 _) (.ret _ _ (.refl _)) ⟨?_, rfl⟩
        simp only [AOut.ret.injEq, AVal.tuple.injEq, List.cons.injEq, AVal.int.injEq, true_and, and_true, repW]
        repeat rw [wrap64 (by omega)]
        refine ⟨by omega, ?_⟩
        first | (rw [if_pos (Or.inl trivial)]; done) | (rw [if_pos (by omega)]; done) | (rw [if_neg (by omega), if_pos (by omega)]; done) | (rw [if_neg (by omega), if_neg (by omega)]; omega)
    · refine g1 ?_
      refine s_box rfl rfl fun b1 hb1 => ⟨trivial, ?_⟩
      try simp only [set_next, new_next] at hb1
      refine g1 ?_
      refine s_ia (row := encP (.mk o1 (.mk p1 p2 p3 p4 p5 p6 p7) r1 r2 r3 r4 r5)) rfl (tt rfl) (tt rfl) rfl rfl rfl (fun _ => rfl) (by decide) rfl ?_
      refine g1 ?_
      refine s_call rfl rfl rfl ca79 ?_
      refine (h1 _).mono ?_
      rintro _ _ ⟨rfl, hh⟩
      obtain rfl := hh.symm
      refine back trivial ?_
      refine g3 ?_ ?_ ?_ <;> (repeat intro hb hc)
      all_goals
        refine fin_sub (.new (.refl hw) hb1 _) (.ret _ _ (.refl _)) ⟨?_, rfl⟩
        simp only [AOut.ret.injEq, AVal.tuple.injEq, List.cons.injEq, AVal.int.injEq, true_and, and_true, repW]
        repeat rw [wrap64 (by omega)]
        refine ⟨by omega, ?_⟩
        first | (rw [if_pos (Or.inl trivial)]; done) | (rw [if_pos (by omega)]; done) | (rw [if_neg (by omega), if_pos (by omega)]; done) | (rw [if_neg (by omega), if_neg (by omega)]; omega)
    · refine g1 ?_
      refine s_box rfl rfl fun b1 hb1 => ⟨trivial, ?_⟩
      try simp only [set_next, new_next] at hb1
      refine g1 ?_
      refine s_ia (row := encP (.mk o1 (.mk p1 p2 p3 p4 p5 p6 p7) r1 r2 r3 r4 r5)) rfl (tt rfl) (tt rfl) rfl rfl rfl (fun _ => rfl) (by decide) rfl ?_
      refine g1 ?_
      refine s_call rfl rfl rfl ca79 ?_
      refine (h1 _).mono ?_
      rintro _ _ ⟨rfl, hh⟩
      obtain rfl := hh.symm
      refine back trivial ?_
      refine g1 ?_
      all_goals
        refine fin_sub (.new (.refl hw) hb1 _) (.ret _ _ (.refl _)) ⟨?_, rfl⟩
        simp only [AOut.ret.injEq, AVal.tuple.injEq, List.cons.injEq, AVal.int.injEq, true_and, and_true, repW]
        repeat rw [wrap64 (by omega)]
        refine ⟨by omega, ?_⟩
        first | (rw [if_pos (Or.inl trivial)]; done) | (rw [if_pos (by omega)]; done) | (rw [if_neg (by omega), if_pos (by omega)]; done) | (rw [if_neg (by omega), if_neg (by omega)]; omega)

theorem c27 {lab : Str → Prop} {n : Nat} {p : Pat} (hl : ∀ l, lab l → nameB l = true) (hp : GP lab n p) (hn : n ≤ 4) : ACalls Tryz.prog G 27 [encPa p] h (Gives (.tuple [.int .i64 (widP p).1, .int .i64 (widP p).2]) h) := by
  have h1 := fun h => c73 (G := G) (h := h) (by decide) hp.ok (hp.right (by omega) hl)
  have h2 := c79 (G := G) hp hn
  generalize widP p = w at *
  obtain ⟨op, ⟨op', nm, ag, vl, lb, fd, kd⟩, label, region, lo, hi, kids⟩ := p
  refine ACalls.fin (en27 (by simp) fun hw => ?_)
  refine g1 ?_
  refine s_box rfl rfl fun b1 hb1 => ⟨trivial, ?_⟩
  try simp only [set_next, new_next] at hb1
  refine g1 ?_
  refine s_call rfl rfl rfl ca73 ?_
  refine (h1 _).mono ?_
  rintro _ _ ⟨rfl, hh⟩
  obtain rfl := hh.symm
  refine back trivial ?_
  refine g1 ?_
  refine s_call rfl rfl rfl ca79 ?_
  refine (h2 _).mono ?_
  rintro _ _ ⟨rfl, hh⟩
  obtain rfl := hh.symm
  refine back trivial ?_
  refine g1 ?_
  exact fin_sub (.new (.refl hw) hb1 _) (.ret _ _ (.refl _)) ⟨rfl, rfl⟩
end
end Go.Proofs

/- QuerySizes: the law's function answers true, given that known does. Its one condition: the contract of known. -/
namespace Go.Proofs
open Go.Abs Go.Q
attribute [local irreducible] awp aops Run BodyQ ACalls Back
section
variable {G : Nat → Option Obj} {h : AHeap}

theorem rk_loadf {P : Program} {e : Env} {d dg T b off T' : Nat} {i : TI} {x : Operand} {cs : List AVal} {bb : Bool} {v : AVal} (hgd : e.get dg = some (true, .bool bb)) (hbb : bb = false) (ht : tyi P T = some i) (hx : Abs.look e x = some (true, .ptr b off)) (hb : h.get b = some (.box T' cs)) (ho : Nat.ble off cs.length = true) (hl : aload i (cs.drop off) = some v) (hd : e.get d = some (true, v)) : reload P h e ⟨some d, .load T x, some (dg, false)⟩ := by
  have h1 : aread P h e true (.load T x) = some (true = true → condsL e (Op.load T x).operands.toList ∧ True, v) :=
    aread_of (g := true) (by simp) (by simp only [ard, ht, lookv_of hx, ACellsAt, hb, if_pos (Nat.le_of_ble_eq_true ho), hl]; rfl)
  simp only [reload, gcond, hgd, hbb, h1]
  exact ⟨fun _ => ⟨fun _ => ⟨condsB_iff (c1 hx (fun _ => rfl) (g := true) rfl), trivial⟩, hd⟩, fun hf => by cases hf⟩

def noLab : Str → Prop := fun _ => False

set_option maxHeartbeats 4000000 in
theorem c8 (K : ∀ h, ACalls Tryz.prog G 16 [] h (Gives (.bool true) h)) {l : List Int} {tg : Tag} : ACalls Tryz.prog G 8 [.sl 1 (encIs l) tg] h (Gives (.bool true) h) := by
  refine ACalls.fin (en8 (by simp) fun hw => ?_)
  refine g1 ?_
  refine s_call rfl rfl rfl ca11 ?_
  refine c11.mono ?_
  rintro _ _ ⟨g, l', tg', hl, hgb, rfl, rfl⟩
  refine back trivial ?_
  refine g1 ?_
  refine s_call rfl rfl rfl ca26 ?_
  refine (c26 (lab := noLab) (ls := []) (sz := 0) (tl := .nl) (fun x hx => by cases hx) hl (by decide) (.inr rfl) 2 (by decide) _ 0 (by omega) hn_self).mono ?_
  rintro _ _ ⟨_, k1, ⟨p, hp, rfl⟩, hk1, rfl, rfl⟩
  refine back trivial ?_
  refine g1 ?_
  refine s_call rfl rfl rfl ca26 ?_
  refine (c26 (lab := noLab) (ls := []) (sz := 0) (tl := .nl) (fun x hx => by cases hx) hl (by decide) (.inr rfl) 2 (by decide) _ k1 hk1 hs_self).mono ?_
  rintro _ _ ⟨_, k2, ⟨r, hr, rfl⟩, hk2, rfl, rfl⟩
  have hS := GP.two 2 4 p r (.inl rfl) hp hr
  have hA := GP.two 2 5 p r (.inr rfl) hp hr
  have nl : ∀ l, noLab l → nameB l = true := fun _ hx => hx.elim
  have vp := fun h => c27 (G := G) (h := h) nl hp (by decide)
  have vr := fun h => c27 (G := G) (h := h) nl hr (by decide)
  have vS := fun h => c27 (G := G) (h := h) nl hS (by decide)
  have vA := fun h => c27 (G := G) (h := h) nl hA (by decide)
  have zp := fun h => c28 (G := G) (h := h) (by decide) hp.ok (hp.right (by decide) nl)
  have zr := fun h => c28 (G := G) (h := h) (by decide) hr.ok (hr.right (by decide) nl)
  have zS := fun h => c28 (G := G) (h := h) (by decide) hS.ok (hS.right (by decide) nl)
  have zA := fun h => c28 (G := G) (h := h) (by decide) hA.ok (hA.right (by decide) nl)
  obtain ⟨sp0, sp1⟩ := hp.sb (by decide)
  obtain ⟨sr0, sr1⟩ := hr.sb (by decide)
  have h9 : (3 : Int) ^ 2 = 9 := by decide
  rw [h9] at sp1 sr1
  rw [size_two (.inl rfl) sp0 sr0 (by omega)] at zS
  rw [size_two (.inr rfl) sp0 sr0 (by omega)] at zA
  obtain ⟨wp0, wp1, wp2, wp3⟩ := hp.wb
  obtain ⟨wr0, wr1, wr2, wr3⟩ := hr.wb
  rw [h9] at wp1 wp3 wr1 wr3
  rw [wid_two] at vS vA
  clear hS hA hp hr
  generalize sizeP p = sa at *
  generalize sizeP r = sb at *
  generalize widP p = w at *
  generalize widP r = v at *
  obtain ⟨wa, wb⟩ := w
  obtain ⟨va, vb⟩ := v
  obtain ⟨y, hy⟩ : ∃ y : Int, y = if wb < 0 ∨ vb < 0 then -1 else wb + vb := ⟨_, rfl⟩
  obtain ⟨u, hu⟩ : ∃ u : Int, u = if wb < 0 ∨ vb < 0 then -1 else max wb vb := ⟨_, rfl⟩
  have vS : ∀ h, ACalls Tryz.prog G 27 [encPa (.mk 4 .zero [] [] 0 0 [p, r])] h (Gives (.tuple [.int .i64 (wa + va), .int .i64 y]) h) := by rw [hy]; exact vS
  have vA : ∀ h, ACalls Tryz.prog G 27 [encPa (.mk 5 .zero [] [] 0 0 [p, r])] h (Gives (.tuple [.int .i64 (min wa va), .int .i64 u]) h) := by rw [hu]; exact vA
  simp only at vp vr wp0 wp1 wp2 wp3 wr0 wr1 wr2 wr3
  obtain ⟨o1, ⟨p1, p2, p3, p4, p5, p6, p7⟩, r1, r2, r3, r4, r5⟩ := p
  obtain ⟨o2, ⟨q1, q2, q3, q4, q5, q6, q7⟩, s1, s2, s3, s4, s5⟩ := r
  refine back trivial ?_
  refine g1 ?_
  refine s_alloc (tt rfl) fun b4 hb4 => ⟨trivial, ?_⟩
  try simp only [set_next, new_next] at hb4
  refine g1 ?_
  refine s_alloc (tt rfl) fun b5 hb5 => ⟨trivial, ?_⟩
  try simp only [set_next, new_next] at hb5
  refine g1 ?_
  refine s_alloc (tt rfl) fun b6 hb6 => ⟨trivial, ?_⟩
  try simp only [set_next, new_next] at hb6
  refine g1 ?_
  refine s_alloc (tt rfl) fun b7 hb7 => ⟨trivial, ?_⟩
  try simp only [set_next, new_next] at hb7
  refine g1 ?_
  refine s_call rfl rfl rfl ca27 ?_
  refine (vp _).mono ?_
  rintro _ _ ⟨rfl, hh⟩
  obtain rfl := hh.symm
  refine back trivial ?_
  refine g1 ?_
  refine s_call rfl rfl rfl ca27 ?_
  refine (vr _).mono ?_
  rintro _ _ ⟨rfl, hh⟩
  obtain rfl := hh.symm
  refine back trivial ?_
  refine g1 ?_
  refine s_call rfl rfl rfl ca27 ?_
  refine ((vS _).args wkk).mono ?_
  rintro _ _ ⟨rfl, hh⟩
  obtain rfl := hh.symm
  refine back trivial ?_
  refine g1 ?_
  refine s_call rfl rfl rfl ca27 ?_
  refine ((vA _).args wkk).mono ?_
  rintro _ _ ⟨rfl, hh⟩
  obtain rfl := hh.symm
  refine back trivial ?_
  refine g1 ?_
  have e1 : (sa + sb != sa + sb) = false := by simp
  have e2 : (wa + va != wa + va) = false := by simp
  have e3 : (min wa va != min wa va) = false := by simp
  refine s_call rfl rfl rfl ca28 ?_
  refine ((zS _).args wkk).mono ?_
  rintro _ _ ⟨rfl, hh⟩
  obtain rfl := hh.symm
  refine back ⟨rk_load (tt rfl) rfl rfl hpp rfl rfl rfl, rk_load (tt rfl) rfl rfl hpp rfl rfl rfl, trivial⟩ ?_
  refine g1 ?_
  refine s_call rfl rfl rfl ca28 ?_
  refine (zp _).mono ?_
  rintro _ _ ⟨rfl, hh⟩
  obtain rfl := hh.symm
  refine back ⟨rk_load (tt rfl) rfl rfl hpp rfl rfl rfl, trivial⟩ ?_
  refine g1 ?_
  refine s_call rfl rfl rfl ca28 ?_
  refine (zr _).mono ?_
  rintro _ _ ⟨rfl, hh⟩
  obtain rfl := hh.symm
  refine back trivial ?_
  refine g1 ?_
  refine s_call rfl rfl rfl ca28 ?_
  refine ((zA _).args wkk).mono ?_
  rintro _ _ ⟨rfl, hh⟩
  obtain rfl := hh.symm
  refine back ⟨rk_loadf rfl e1 (tt rfl) rfl hpp rfl rfl rfl, trivial⟩ ?_
  refine g1 ?_
  refine s_call rfl rfl rfl ca28 ?_
  refine ((zS _).args wkk).mono ?_
  rintro _ _ ⟨rfl, hh⟩
  obtain rfl := hh.symm
  refine back trivial ?_
  rcases (show wb = -1 ∨ 0 ≤ wb by omega) with rfl | hwb
  · obtain rfl : y = -1 := by rw [hy, if_pos (.inl (by decide))]
    obtain rfl : u = -1 := by rw [hu, if_pos (.inl (by decide))]
    refine g1 ?_
    refine s_call rfl rfl rfl ca16 ?_
    refine (K _).mono ?_
    rintro _ _ ⟨rfl, hh⟩
    obtain rfl := hh.symm
    refine back trivial ?_
    refine g1 ?_
    refine fin_sub ?_ (.ret _ _ (.refl _)) ⟨rfl, rfl⟩
    repeat first | exact Sub.refl hw | assumption | refine Sub.setl ?_ (by omega) _ | refine Sub.new ?_ (by first | omega | (simp only [set_next, new_next]; omega)) _
  · have e4 : (wb == -1) = false := by simp; omega
    rcases (show vb = -1 ∨ 0 ≤ vb by omega) with rfl | hvb
    · obtain rfl : y = -1 := by rw [hy, if_pos (.inr (by decide))]
      obtain rfl : u = -1 := by rw [hu, if_pos (.inr (by decide))]
      refine g1 ?_
      refine s_call rfl rfl rfl ca16 ?_
      refine (K _).mono ?_
      rintro _ _ ⟨rfl, hh⟩
      obtain rfl := hh.symm
      refine back trivial ?_
      refine g1 ?_
      refine fin_sub ?_ (.ret _ _ (.refl _)) ⟨rfl, rfl⟩
      repeat first | exact Sub.refl hw | assumption | refine Sub.setl ?_ (by omega) _ | refine Sub.new ?_ (by first | omega | (simp only [set_next, new_next]; omega)) _
    · have e5 : (vb == -1) = false := by simp; omega
      obtain rfl : y = wb + vb := by rw [hy, if_neg (by omega)]
      obtain rfl : u = max wb vb := by rw [hu, if_neg (by omega)]
      have e6 : (wb + vb == wb + vb) = true := by simp
      have e7 : (max wb vb == max wb vb) = true := by simp
      refine g1 ?_
      refine s_call rfl rfl rfl ca16 ?_
      refine (K _).mono ?_
      rintro _ _ ⟨rfl, hh⟩
      obtain rfl := hh.symm
      refine back trivial ?_
      refine g1 ?_
      refine fin_sub ?_ (.ret _ _ (.refl _)) ⟨rfl, rfl⟩
      repeat first | exact Sub.refl hw | assumption | refine Sub.setl ?_ (by omega) _ | refine Sub.new ?_ (by first | omega | (simp only [set_next, new_next]; omega)) _
end
end Go.Proofs
