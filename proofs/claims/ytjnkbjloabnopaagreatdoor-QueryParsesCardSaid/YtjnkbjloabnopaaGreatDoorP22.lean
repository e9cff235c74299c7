/- Patterns read by the reference: repetitions, sequences, alternatives. No conditions. -/
import Derived.Test.YtjnkbjloabnopaaGreatDoorP21
namespace Go.Proofs
open Go.Abs Go.Q
attribute [local irreducible] awp aops Run BodyQ ACalls Back
section
variable {G : Nat → Option Obj} {h : AHeap} {L : List Tok} {σ : PS L} {g : Nat} {d : Int}


set_option maxHeartbeats 4000000 in
set_option maxRecDepth 10000 in
theorem rrep_step (hL : LOk L) (n : Nat) (h1 : RItemOK G L n) : RRepOK G L (n + 1) := by
  intro h σ g d r hg hd H
  refine ACalls.fin (en163 (by simp) fun hw => ?_)
  have hgl := hw g _ hg
  simp only [rRep] at H
  refine g1 ?_
  refine s_alloc (tt rfl) fun b1 hb1 => ⟨trivial, ?_⟩
  try simp only [set_next, new_next] at hb1
  refine g1 ?_
  refine s_call rfl rfl rfl ca203 ?_
  refine call_p (pbO_ne H) (fun r1 hr => h1 _ σ _ d _ hpp (by omega) hr) fun a s1 hr => back trivial ?_
  rw [hr] at H; simp only [pbO_some, pb_mk, sbb] at H
  obtain ⟨op', ⟨o2, nm, ag, vl, lb, fd, kd2⟩, lab, reg, lo, hi, kd⟩ := a
  refine g1 ?_
  refine s_alloc (tt rfl) fun b2 hb2 => ⟨trivial, ?_⟩
  try simp only [set_next, new_next] at hb2
  refine g1 ?_
  refine w_loop (fun e h' k => ∃ (p : Pat) (st' : PS L), rRepL k p st' = some r ∧ At h g (par d st') h' ∧ h'.Wf ∧ h'.get b2 = some (.box 32 (encP p)) ∧ h'.get b1 = some (.box 32 zP) ∧ b2 + 1 ≤ h'.next ∧ e = [(0, true, .ptr g 0), (2, true, .ptr b1 0), (3, true, .ptr b2 0)])
    _ _ (.cons rfl (.cons rfl (.cons rfl (.nil _)))) ⟨.mk op' (.mk o2 nm ag vl lb fd kd2) lab reg lo hi kd, s1, H, by exact atss, ?_, by exact hpp, by exact hpp, by simp [set_next, new_next], rfl⟩ ?_
  · exact by repeat first | assumption | (refine wf_set (by first | omega | (simp only [set_next, new_next]; omega)) ?_) | (refine wf_new (by first | omega | (simp only [set_next, new_next]; omega)) ?_)
  rintro _ h' k ⟨p, st', H, hat, hwf, hb2x, hb1x, hnx, rfl⟩
  cases k with
  | zero => simp [rRepL] at H
  | succ k =>
    simp only [rRepL] at H
    have hgx := hat.get
    have hgn : g < h'.next := hwf g _ hgx
    obtain ⟨op', ⟨o2, nm, ag, vl, lb, fd, kd2⟩, lab, reg, lo, hi, kd⟩ := p
    by_cases he : st'.e = 0
    rotate_left
    · have hk1 : (st'.e == 0) = false := by simp [he]
      rw [if_neg he] at H
      simp only [Option.some.injEq] at H
      subst H
      refine g1 ?_
      refine fin_q atss wkk
    have hk1 : (st'.e == 0) = true := by simp [he]
    rw [if_pos he] at H
    unfold rSuffix at H
    refine g1 ?_
    refine s_call rfl rfl rfl ca47 ?_
    refine (c47 (σ := st') hL hpp).mono ?_
    rintro _ _ ⟨rfl, rfl⟩
    refine back trivial ?_
    refine g1 ?_
    rcases Bool.eq_false_or_eq_true (is 111 [63] st') with hx | hx <;> simp only [hx, sbb] at H
    · refine s_call rfl rfl rfl ca39 ?_
      refine (c39_t (σ := st') hL [63] hx hpp).mono ?_
      rintro _ _ ⟨rfl, rfl⟩
      refine back trivial ?_
      refine g1 ?_
      refine l_ns _ _ _ ?_ ?_ (Sub.set (cs' := encP (.mk 6 .zero [] [] 0 1 [(.mk op' (.mk o2 nm ag vl lb fd kd2) lab reg lo hi kd)])) (.refl (by repeat first | assumption | (refine wf_set (by first | omega | (simp only [set_next, new_next]; omega)) ?_) | (refine wf_new (by first | omega | (simp only [set_next, new_next]; omega)) ?_))) (by first | omega | (simp only [set_next, new_next]; omega)) ?_) ⟨.mk 6 .zero [] [] 0 1 [(.mk op' (.mk o2 nm ag vl lb fd kd2) lab reg lo hi kd)], adv st', H, ?_, ?_, hs_self, by exact hpp, by first | omega | (simp only [set_next, new_next]; omega), rfl⟩
      · omega
      · exact envv
      · exact wkk
      · exact At.setl (by omega) atss
      · exact wf_set (by first | omega | (simp only [set_next, new_next]; omega)) (by repeat first | assumption | (refine wf_set (by first | omega | (simp only [set_next, new_next]; omega)) ?_) | (refine wf_new (by first | omega | (simp only [set_next, new_next]; omega)) ?_))
    refine s_call rfl rfl rfl ca39 ?_
    refine (c39_f (σ := st') hL [63] hx hpp).mono ?_
    rintro _ _ ⟨rfl, rfl⟩
    refine back trivial ?_
    refine g1 ?_
    rcases Bool.eq_false_or_eq_true (is 111 [42] st') with hx | hx <;> simp only [hx, sbb] at H
    · refine s_call rfl rfl rfl ca39 ?_
      refine (c39_t (σ := st') hL [42] hx hpp).mono ?_
      rintro _ _ ⟨rfl, rfl⟩
      refine back trivial ?_
      refine g1 ?_
      refine l_ns _ _ _ ?_ ?_ (Sub.set (cs' := encP (.mk 6 .zero [] [] 0 (-1) [(.mk op' (.mk o2 nm ag vl lb fd kd2) lab reg lo hi kd)])) (.refl (by repeat first | assumption | (refine wf_set (by first | omega | (simp only [set_next, new_next]; omega)) ?_) | (refine wf_new (by first | omega | (simp only [set_next, new_next]; omega)) ?_))) (by first | omega | (simp only [set_next, new_next]; omega)) ?_) ⟨.mk 6 .zero [] [] 0 (-1) [(.mk op' (.mk o2 nm ag vl lb fd kd2) lab reg lo hi kd)], adv st', H, ?_, ?_, hs_self, by exact hpp, by first | omega | (simp only [set_next, new_next]; omega), rfl⟩
      · omega
      · exact envv
      · exact wkk
      · exact At.setl (by omega) atss
      · exact wf_set (by first | omega | (simp only [set_next, new_next]; omega)) (by repeat first | assumption | (refine wf_set (by first | omega | (simp only [set_next, new_next]; omega)) ?_) | (refine wf_new (by first | omega | (simp only [set_next, new_next]; omega)) ?_))
    refine s_call rfl rfl rfl ca39 ?_
    refine (c39_f (σ := st') hL [42] hx hpp).mono ?_
    rintro _ _ ⟨rfl, rfl⟩
    refine back trivial ?_
    refine g1 ?_
    rcases Bool.eq_false_or_eq_true (is 111 [43] st') with hx | hx <;> simp only [hx, sbb] at H
    · refine s_call rfl rfl rfl ca39 ?_
      refine (c39_t (σ := st') hL [43] hx hpp).mono ?_
      rintro _ _ ⟨rfl, rfl⟩
      refine back trivial ?_
      refine g1 ?_
      refine l_ns _ _ _ ?_ ?_ (Sub.set (cs' := encP (.mk 6 .zero [] [] 1 (-1) [(.mk op' (.mk o2 nm ag vl lb fd kd2) lab reg lo hi kd)])) (.refl (by repeat first | assumption | (refine wf_set (by first | omega | (simp only [set_next, new_next]; omega)) ?_) | (refine wf_new (by first | omega | (simp only [set_next, new_next]; omega)) ?_))) (by first | omega | (simp only [set_next, new_next]; omega)) ?_) ⟨.mk 6 .zero [] [] 1 (-1) [(.mk op' (.mk o2 nm ag vl lb fd kd2) lab reg lo hi kd)], adv st', H, ?_, ?_, hs_self, by exact hpp, by first | omega | (simp only [set_next, new_next]; omega), rfl⟩
      · omega
      · exact envv
      · exact wkk
      · exact At.setl (by omega) atss
      · exact wf_set (by first | omega | (simp only [set_next, new_next]; omega)) (by repeat first | assumption | (refine wf_set (by first | omega | (simp only [set_next, new_next]; omega)) ?_) | (refine wf_new (by first | omega | (simp only [set_next, new_next]; omega)) ?_))
    refine s_call rfl rfl rfl ca39 ?_
    refine (c39_f (σ := st') hL [43] hx hpp).mono ?_
    rintro _ _ ⟨rfl, rfl⟩
    refine back trivial ?_
    refine g1 ?_
    rcases Bool.eq_false_or_eq_true (is 111 [123] st') with hx | hx <;> simp only [hx, sbb] at H
    · refine s_call rfl rfl rfl ca39 ?_
      refine (c39_t (σ := st') hL [123] hx hpp).mono ?_
      rintro _ _ ⟨rfl, rfl⟩
      refine back trivial ?_
      refine g1 ?_
      refine s_call rfl rfl rfl ca204 ?_
      refine call_q (c204 (σ := adv st') hL 16 (now st').pos (by omega) hpp) fun lo' s2 hr => back trivial ?_
      simp only [hr, pb_mk] at H
      refine g1 ?_
      rcases Bool.eq_false_or_eq_true (is 111 [44] s2) with hx | hx <;> simp only [hx, sbb] at H
      · rcases kind_cases 100 100 rfl ((adv s2)) with ⟨hk, hk1, hk2⟩ | ⟨hk, hk1⟩ | ⟨hk, hk1, hk2⟩ <;> simp only [hk, sbb] at H
        · refine s_call rfl rfl rfl ca39 ?_
          refine (c39_t (σ := s2) hL [44] hx hpp).mono ?_
          rintro _ _ ⟨rfl, rfl⟩
          refine back trivial ?_
          refine g1 ?_
          refine s_call rfl rfl rfl ca47 ?_
          refine (c47 (σ := adv s2) hL hpp).mono ?_
          rintro _ _ ⟨rfl, rfl⟩
          refine back trivial ?_
          refine g1 ?_
          refine s_call rfl rfl rfl ca204 ?_
          refine call_q (c204 (σ := adv s2) hL 16 (now st').pos (by omega) hpp) fun hi' s3 hr => back trivial ?_
          simp only [hr, pb_mk] at H
          refine g2 ?_ ?_ <;> (repeat intro hb hc)
          · rw [if_pos hc] at H
            refine s_call rfl rfl rfl ca105 ?_
            refine (c105 8 (now st').pos (σ := s3) hpp).mono ?_
            rintro _ _ ⟨rfl, rfl⟩
            refine back trivial ?_
            refine g1 ?_
            refine s_call rfl rfl rfl ca44 ?_
            refine call_q (c44 (σ := err 8 (now st').pos s3) hL 111 (by omega) [125] hpp) fun u s4 hr => back trivial ?_
            simp only [hr, pb_mk] at H
            refine g1 ?_
            refine l_ns _ _ _ ?_ ?_ (Sub.set (cs' := encP (.mk 6 .zero [] [] lo' hi' [(.mk op' (.mk o2 nm ag vl lb fd kd2) lab reg lo hi kd)])) (.refl (by repeat first | assumption | (refine wf_set (by first | omega | (simp only [set_next, new_next]; omega)) ?_) | (refine wf_new (by first | omega | (simp only [set_next, new_next]; omega)) ?_))) (by first | omega | (simp only [set_next, new_next]; omega)) ?_) ⟨.mk 6 .zero [] [] lo' hi' [(.mk op' (.mk o2 nm ag vl lb fd kd2) lab reg lo hi kd)], s4, H, ?_, ?_, hs_self, by exact hpp, by first | omega | (simp only [set_next, new_next]; omega), rfl⟩
            · omega
            · exact envv
            · exact wkk
            · exact At.setl (by omega) atss
            · exact wf_set (by first | omega | (simp only [set_next, new_next]; omega)) (by repeat first | assumption | (refine wf_set (by first | omega | (simp only [set_next, new_next]; omega)) ?_) | (refine wf_new (by first | omega | (simp only [set_next, new_next]; omega)) ?_))
          · rw [if_neg hc] at H
            refine s_call rfl rfl rfl ca44 ?_
            refine call_q (c44 (σ := s3) hL 111 (by omega) [125] hpp) fun u s4 hr => back trivial ?_
            simp only [hr, pb_mk] at H
            refine g1 ?_
            refine l_ns _ _ _ ?_ ?_ (Sub.set (cs' := encP (.mk 6 .zero [] [] lo' hi' [(.mk op' (.mk o2 nm ag vl lb fd kd2) lab reg lo hi kd)])) (.refl (by repeat first | assumption | (refine wf_set (by first | omega | (simp only [set_next, new_next]; omega)) ?_) | (refine wf_new (by first | omega | (simp only [set_next, new_next]; omega)) ?_))) (by first | omega | (simp only [set_next, new_next]; omega)) ?_) ⟨.mk 6 .zero [] [] lo' hi' [(.mk op' (.mk o2 nm ag vl lb fd kd2) lab reg lo hi kd)], s4, H, ?_, ?_, hs_self, by exact hpp, by first | omega | (simp only [set_next, new_next]; omega), rfl⟩
            · omega
            · exact envv
            · exact wkk
            · exact At.setl (by omega) atss
            · exact wf_set (by first | omega | (simp only [set_next, new_next]; omega)) (by repeat first | assumption | (refine wf_set (by first | omega | (simp only [set_next, new_next]; omega)) ?_) | (refine wf_new (by first | omega | (simp only [set_next, new_next]; omega)) ?_))
        · refine s_call rfl rfl rfl ca39 ?_
          refine (c39_t (σ := s2) hL [44] hx hpp).mono ?_
          rintro _ _ ⟨rfl, rfl⟩
          refine back trivial ?_
          refine g1 ?_
          refine s_call rfl rfl rfl ca44 ?_
          refine call_q (c44 (σ := adv s2) hL 111 (by omega) [125] hpp) fun u s3 hr => back trivial ?_
          simp only [hr, pb_mk] at H
          refine g1 ?_
          refine l_ns _ _ _ ?_ ?_ (Sub.set (cs' := encP (.mk 6 .zero [] [] lo' (-1) [(.mk op' (.mk o2 nm ag vl lb fd kd2) lab reg lo hi kd)])) (.refl (by repeat first | assumption | (refine wf_set (by first | omega | (simp only [set_next, new_next]; omega)) ?_) | (refine wf_new (by first | omega | (simp only [set_next, new_next]; omega)) ?_))) (by first | omega | (simp only [set_next, new_next]; omega)) ?_) ⟨.mk 6 .zero [] [] lo' (-1) [(.mk op' (.mk o2 nm ag vl lb fd kd2) lab reg lo hi kd)], s3, H, ?_, ?_, hs_self, by exact hpp, by first | omega | (simp only [set_next, new_next]; omega), rfl⟩
          · omega
          · exact envv
          · exact wkk
          · exact At.setl (by omega) atss
          · exact wf_set (by first | omega | (simp only [set_next, new_next]; omega)) (by repeat first | assumption | (refine wf_set (by first | omega | (simp only [set_next, new_next]; omega)) ?_) | (refine wf_new (by first | omega | (simp only [set_next, new_next]; omega)) ?_))
        · refine s_call rfl rfl rfl ca39 ?_
          refine (c39_t (σ := s2) hL [44] hx hpp).mono ?_
          rintro _ _ ⟨rfl, rfl⟩
          refine back trivial ?_
          refine g1 ?_
          refine s_call rfl rfl rfl ca47 ?_
          refine (c47 (σ := adv s2) hL hpp).mono ?_
          rintro _ _ ⟨rfl, rfl⟩
          refine back trivial ?_
          refine g1 ?_
          refine s_call rfl rfl rfl ca44 ?_
          refine call_q (c44 (σ := adv s2) hL 111 (by omega) [125] hpp) fun u s3 hr => back trivial ?_
          simp only [hr, pb_mk] at H
          refine g1 ?_
          refine l_ns _ _ _ ?_ ?_ (Sub.set (cs' := encP (.mk 6 .zero [] [] lo' (-1) [(.mk op' (.mk o2 nm ag vl lb fd kd2) lab reg lo hi kd)])) (.refl (by repeat first | assumption | (refine wf_set (by first | omega | (simp only [set_next, new_next]; omega)) ?_) | (refine wf_new (by first | omega | (simp only [set_next, new_next]; omega)) ?_))) (by first | omega | (simp only [set_next, new_next]; omega)) ?_) ⟨.mk 6 .zero [] [] lo' (-1) [(.mk op' (.mk o2 nm ag vl lb fd kd2) lab reg lo hi kd)], s3, H, ?_, ?_, hs_self, by exact hpp, by first | omega | (simp only [set_next, new_next]; omega), rfl⟩
          · omega
          · exact envv
          · exact wkk
          · exact At.setl (by omega) atss
          · exact wf_set (by first | omega | (simp only [set_next, new_next]; omega)) (by repeat first | assumption | (refine wf_set (by first | omega | (simp only [set_next, new_next]; omega)) ?_) | (refine wf_new (by first | omega | (simp only [set_next, new_next]; omega)) ?_))
      · refine s_call rfl rfl rfl ca39 ?_
        refine (c39_f (σ := s2) hL [44] hx hpp).mono ?_
        rintro _ _ ⟨rfl, rfl⟩
        refine back trivial ?_
        refine g1 ?_
        refine s_call rfl rfl rfl ca44 ?_
        refine call_q (c44 (σ := s2) hL 111 (by omega) [125] hpp) fun u s3 hr => back trivial ?_
        simp only [hr, pb_mk] at H
        refine g1 ?_
        refine l_ns _ _ _ ?_ ?_ (Sub.set (cs' := encP (.mk 6 .zero [] [] lo' lo' [(.mk op' (.mk o2 nm ag vl lb fd kd2) lab reg lo hi kd)])) (.refl (by repeat first | assumption | (refine wf_set (by first | omega | (simp only [set_next, new_next]; omega)) ?_) | (refine wf_new (by first | omega | (simp only [set_next, new_next]; omega)) ?_))) (by first | omega | (simp only [set_next, new_next]; omega)) ?_) ⟨.mk 6 .zero [] [] lo' lo' [(.mk op' (.mk o2 nm ag vl lb fd kd2) lab reg lo hi kd)], s3, H, ?_, ?_, hs_self, by exact hpp, by first | omega | (simp only [set_next, new_next]; omega), rfl⟩
        · omega
        · exact envv
        · exact wkk
        · exact At.setl (by omega) atss
        · exact wf_set (by first | omega | (simp only [set_next, new_next]; omega)) (by repeat first | assumption | (refine wf_set (by first | omega | (simp only [set_next, new_next]; omega)) ?_) | (refine wf_new (by first | omega | (simp only [set_next, new_next]; omega)) ?_))
    · refine s_call rfl rfl rfl ca39 ?_
      refine (c39_f (σ := st') hL [123] hx hpp).mono ?_
      rintro _ _ ⟨rfl, rfl⟩
      refine back trivial ?_
      refine g1 ?_
      simp only [Option.some.injEq] at H
      subst H
      refine fin_q atss wkk
end
end Go.Proofs

/- Patterns read by the reference: sequences, alternatives; complete. No conditions. -/
namespace Go.Proofs
open Go.Abs Go.Q
attribute [local irreducible] awp aops Run BodyQ ACalls Back
section
variable {G : Nat → Option Obj} {h : AHeap} {L : List Tok} {σ : PS L} {g : Nat} {d : Int}

set_option maxHeartbeats 2000000 in
set_option maxRecDepth 10000 in
theorem ralt_step (hL : LOk L) (n : Nat) (hn : n ≤ 100000) (h1 : ∀ m, m ≤ n → RSeqOK G L m) : RAltOK G L (n + 1) := by
  intro h σ g d r hg hd H
  refine ACalls.fin (en38 (by simp) fun hw => ?_)
  have hgl := hw g _ hg
  simp only [rAlt] at H
  refine g1 ?_
  refine s_alloc (tt rfl) fun b1 hb1 => ⟨trivial, ?_⟩
  try simp only [set_next, new_next] at hb1
  refine g1 ?_
  refine s_call rfl rfl rfl ca103 ?_
  refine call_p (pbO_ne H) (fun r1 hr => h1 n (Nat.le_refl n) _ σ _ d _ hpp (by omega) hr) fun a s1 hr => back trivial ?_
  rw [hr] at H; simp only [pbO_some, pb_mk, sbb] at H
  obtain ⟨op', ⟨o2, nm, ag, vl, lb, fd, kd2⟩, lab, reg, lo, hi, kd⟩ := a
  refine g1 ?_
  refine w_loop (fun e h' k => ∃ (acc : List Pat) (σ' : PS L) (tg : Tag), rAltL k d acc σ' = some r ∧ acc.length + k ≤ n + 1 ∧ k ≤ n ∧ At h g (par d σ') h' ∧ Room (h.new b1 (.box 32 zP)) h' 32 (acc.length * 13) tg ∧ h'.get b1 = some (.box 32 zP) ∧ b1 + 1 ≤ h'.next ∧
      e = [(0, true, .ptr g 0), (2, true, .ptr b1 0), (3, true, .sl 13 (encPs acc) tg)])
    _ _ (.cons rfl (.cons rfl (.cons rfl (.nil _)))) ⟨[.mk op' (.mk o2 nm ag vl lb fd kd2) lab reg lo hi kd], s1, .full, H, by simp; omega, Nat.le_refl _, by exact atss, trivial, by exact hpp, by simp [set_next, new_next], rfl⟩ ?_
  rintro _ h' k ⟨acc, st', tg, H, hak, hkn, hat, hroom, hbx, hnx, rfl⟩
  cases k with
  | zero => cases H
  | succ k =>
    simp only [rAltL] at H
    have hgx := hat.get
    have hlen := encPs_length acc
    refine g1 ?_
    rcases Bool.eq_false_or_eq_true (is 111 [124] st') with hx | hx <;> simp only [hx, sbb] at H
    · refine s_call rfl rfl rfl ca39 ?_
      refine (c39_t (σ := st') hL [124] hx hpp).mono ?_
      rintro _ _ ⟨rfl, rfl⟩
      refine back trivial ?_
      refine g1 ?_
      refine s_call rfl rfl rfl ca103 ?_
      refine call_p (pbO_ne H) (fun r1 hr => h1 k (by omega) _ (adv st') _ d _ hpp (by omega) hr) fun a s2 hr => back trivial ?_
      rw [hr] at H; simp only [pbO_some, pb_mk, sbb] at H
      obtain ⟨op', ⟨o2, nm, ag, vl, lb, fd, kd2⟩, lab, reg, lo, hi, kd⟩ := a
      refine g1 ?_
      have hgb : g < (h.new b1 (.box 32 zP)).next := by simp only [new_next]; omega
      refine s_append (h.new b1 (.box 32 zP)) rfl rfl (tt rfl) (tt rfl) rfl (.inl rfl) hnx (append_room (Room.set (Room.set hroom hgb) hgb) (by rw [encPs_length])) (by simp only [encPs_length, List.length_cons, List.length_nil]; omega) fun tg' h2 hr2 hx2 => ⟨trivial, ?_⟩
      refine g1 ?_
      refine l_n _ _ ?_ ?_ ⟨acc ++ [.mk op' (.mk o2 nm ag vl lb fd kd2) lab reg lo hi kd], s2, tg', H, by simp; omega, by omega, ?_, ?_, ?_, Nat.le_trans hnx hx2.next, rfl⟩
      · omega
      · refine .cons rfl (.cons rfl (.cons ?_ (.nil _)))
        rw [encPs_append]
        rfl
      · refine At.ext ?_ (Ext.le (h1 := h) (by simp only [new_next]; omega) hx2)
        exact atss
      · exact append_room hr2 (by simp [encPs_length])
      · rw [hx2.get b1 (by simp only [new_next]; omega)]
        exact hpp
    · simp only [Option.some.injEq] at H
      subst H
      refine s_call rfl rfl rfl ca39 ?_
      refine (c39_f (σ := st') hL [124] hx hpp).mono ?_
      rintro _ _ ⟨rfl, rfl⟩
      refine back trivial ?_
      refine g2 ?_ ?_ <;> (repeat intro hb hc)
      · obtain ⟨c, rfl⟩ : ∃ c, acc = [c] := List.length_eq_one_iff.1 (by omega)
        obtain ⟨op', ⟨o2, nm, ag, vl, lb, fd, kd2⟩, lab, reg, lo, hi, kd⟩ := c
        refine s_ia rfl (tt rfl) (tt rfl) rfl rfl rfl (fun _ => rfl) (by omega) rfl ?_
        refine g1 ?_
        refine fin_q atss wkk
      · have : manyP 5 acc = .mk 5 .zero [] [] 0 0 acc := by
          rcases acc with _ | ⟨c, _ | ⟨d, r⟩⟩
          · rfl
          · exact absurd rfl hc
          · rfl
        rw [this]
        refine fin_q atss wkk

set_option maxHeartbeats 2000000 in
set_option maxRecDepth 10000 in
theorem rseq_step (hL : LOk L) (n : Nat) (hn : n ≤ 100000) (h1 : ∀ m, m ≤ n → RRepOK G L m) : RSeqOK G L (n + 1) := by
  intro h σ g d r hg hd H
  refine ACalls.fin (en103 (by simp) fun hw => ?_)
  have hgl := hw g _ hg
  simp only [rSeq] at H
  refine g1 ?_
  refine s_alloc (tt rfl) fun b1 hb1 => ⟨trivial, ?_⟩
  try simp only [set_next, new_next] at hb1
  refine g1 ?_
  refine s_call rfl rfl rfl ca163 ?_
  refine call_p (pbO_ne H) (fun r1 hr => h1 n (Nat.le_refl n) _ σ _ d _ hpp (by omega) hr) fun a s1 hr => back trivial ?_
  rw [hr] at H; simp only [pbO_some, pb_mk, sbb] at H
  obtain ⟨op', ⟨o2, nm, ag, vl, lb, fd, kd2⟩, lab, reg, lo, hi, kd⟩ := a
  refine g1 ?_
  refine w_loop (fun e h' k => ∃ (acc : List Pat) (σ' : PS L) (tg : Tag), rSeqL k d acc σ' = some r ∧ acc.length + k ≤ n + 1 ∧ k ≤ n ∧ At h g (par d σ') h' ∧ Room (h.new b1 (.box 32 zP)) h' 32 (acc.length * 13) tg ∧ h'.get b1 = some (.box 32 zP) ∧ b1 + 1 ≤ h'.next ∧
      e = [(0, true, .ptr g 0), (2, true, .ptr b1 0), (3, true, .sl 13 (encPs acc) tg)])
    _ _ (.cons rfl (.cons rfl (.cons rfl (.nil _)))) ⟨[.mk op' (.mk o2 nm ag vl lb fd kd2) lab reg lo hi kd], s1, .full, H, by simp; omega, Nat.le_refl _, by exact atss, trivial, by exact hpp, by simp [set_next, new_next], rfl⟩ ?_
  rintro _ h' k ⟨acc, st', tg, H, hak, hkn, hat, hroom, hbx, hnx, rfl⟩
  cases k with
  | zero => cases H
  | succ k =>
    simp only [rSeqL] at H
    have hgx := hat.get
    have hlen := encPs_length acc
    refine g1 ?_
    refine s_call rfl rfl rfl ca164 ?_
    refine (c164 (σ := st') hL hpp).mono ?_
    rintro _ _ ⟨rfl, rfl⟩
    refine back trivial ?_
    rcases Bool.eq_false_or_eq_true (rBegins d st') with hx | hx <;> simp only [hx, sbb] at H ⊢
    · refine g1 ?_
      refine s_call rfl rfl rfl ca163 ?_
      refine call_p (pbO_ne H) (fun r1 hr => h1 k (by omega) _ (st') _ d _ hpp (by omega) hr) fun a s2 hr => back trivial ?_
      rw [hr] at H; simp only [pbO_some, pb_mk, sbb] at H
      obtain ⟨op', ⟨o2, nm, ag, vl, lb, fd, kd2⟩, lab, reg, lo, hi, kd⟩ := a
      refine g1 ?_
      have hgb : g < (h.new b1 (.box 32 zP)).next := by simp only [new_next]; omega
      refine s_append (h.new b1 (.box 32 zP)) rfl rfl (tt rfl) (tt rfl) rfl (.inl rfl) hnx (append_room (Room.set hroom hgb) (by rw [encPs_length])) (by simp only [encPs_length, List.length_cons, List.length_nil]; omega) fun tg' h2 hr2 hx2 => ⟨trivial, ?_⟩
      refine g1 ?_
      refine l_n _ _ ?_ ?_ ⟨acc ++ [.mk op' (.mk o2 nm ag vl lb fd kd2) lab reg lo hi kd], s2, tg', H, by simp; omega, by omega, ?_, ?_, ?_, Nat.le_trans hnx hx2.next, rfl⟩
      · omega
      · refine .cons rfl (.cons rfl (.cons ?_ (.nil _)))
        rw [encPs_append]
        rfl
      · refine At.ext ?_ (Ext.le (h1 := h) (by simp only [new_next]; omega) hx2)
        exact atss
      · exact append_room hr2 (by simp [encPs_length])
      · rw [hx2.get b1 (by simp only [new_next]; omega)]
        exact hpp
    · simp only [Option.some.injEq] at H
      subst H
      refine g2 ?_ ?_ <;> (repeat intro hb hc)
      · obtain ⟨c, rfl⟩ : ∃ c, acc = [c] := List.length_eq_one_iff.1 (by omega)
        obtain ⟨op', ⟨o2, nm, ag, vl, lb, fd, kd2⟩, lab, reg, lo, hi, kd⟩ := c
        refine s_ia rfl (tt rfl) (tt rfl) rfl rfl rfl (fun _ => rfl) (by omega) rfl ?_
        refine g1 ?_
        refine fin_q atss wkk
      · have : manyP 4 acc = .mk 4 .zero [] [] 0 0 acc := by
          rcases acc with _ | ⟨c, _ | ⟨d, r⟩⟩
          · rfl
          · exact absurd rfl hc
          · rfl
        rw [this]
        refine fin_q atss wkk


theorem rpats_ok (hL : LOk L) : ∀ n, n ≤ 100000 → RAltOK G L n ∧ RSeqOK G L n ∧ RRepOK G L n ∧ RItemOK G L n := by
  intro n
  induction n using Nat.strongRecOn with
  | _ n ih =>
    intro hn
    cases n with
    | zero => exact ⟨fun h σ g d r _ _ H => by simp [rAlt] at H, fun h σ g d r _ _ H => by simp [rSeq] at H, fun h σ g d r _ _ H => by simp [rRep] at H, fun h σ g d r _ _ H => by simp [rItem] at H⟩
    | succ n =>
      have k := fun m (hm : m ≤ n) => ih m (by omega) (by omega)
      exact ⟨ralt_step hL n (by omega) fun m hm => (k m hm).2.1, rseq_step hL n (by omega) fun m hm => (k m hm).2.2.1, rrep_step hL n (k n (Nat.le_refl n)).2.2.2, ritem_step hL n (by omega) (k n (Nat.le_refl n)).1⟩
end
end Go.Proofs

/- The codes of some functions, tied to the loaded program. No conditions. -/
namespace Go.Proofs
open Go.Abs Go.Abs.I
def r115_0 : L := [o 0 (a (.const (.slice none 0 0)))]
def r115_1 : L := [o 1 (.buildSlice 23 11 #[(0, (s #[])), (1, (s #[98, 111, 117, 110, 100])), (2, (s #[])), (3, (s #[])), (4, (s #[100, 105, 115, 116, 97, 110, 99, 101])), (5, (s #[115, 97, 109, 101])), (6, (s #[104, 101, 97, 100])), (7, (s #[97, 110, 99, 101, 115, 116, 111, 114])), (8, (s #[112, 97, 116, 104])), (9, (s #[110, 111, 100, 101])), (10, (s #[100, 101, 112, 116, 104]))]),
  o 0 (a (t 1))]
def ir115 : ACode := .seq (.ops r115_0) (.seq (.ops r115_1) (.ret))
theorem en115 : En ir115 2 [.tmp 0] 115 := acalls_enter_b mixed Tryz.func115 Tryz.ntmps115 (by kernel_rfl) (by kernel_rfl)
theorem ca115 : Ca 115 := cal Tryz.func115
def r207_0 : L := [o 4 (.alloc 35)]
def r207_1 : L := [o 6 (m (t 1)),
  o 7 (m (t 0)),
  o 8 (.call ⟨.value (f 44), #[(t 7), (.const (.int .u8 110)), (s #[])], #[79, 5, 9]⟩),
  o 9 (.build 35 #[(0, (t 6)), (1, (t 8))]),
  o 5 (.alloc 35),
  q (.store 35 (t 5) (t 9))]
def r207_2 : L := [o 10 (m (t 1)),
  o 11 (.binOp .neq 3 (t 10) (k 1) 3),
  o 12 (m (t 11)),
  y 13 (m (t 1)) 12 true,
  y 14 (.binOp .neq 3 (t 13) (k 10) 3) 12 true,
  o 15 (.pick (t 12) (t 14) (b false))]
def r207_3 : L := [o 16 (m (t 0)),
  o 17 (.call ⟨.value (f 44), #[(t 16), (.const (.int .u8 111)), (s #[44])], #[79, 5, 9]⟩)]
def r207_4 : L := [o 18 (m (t 0)),
  o 19 (.call ⟨.value (f 44), #[(t 18), (.const (.int .u8 110)), (s #[])], #[79, 5, 9]⟩),
  o 20 (fa 35 (t 5) 2),
  q (.store 9 (t 20) (t 19))]
def r207_5 : L := [o 21 (m (t 1))]
def r207_6 : L := [o 23 (.binOp .eql 3 (t 21) (k 4) 3),
  o 22 (a (t 23))]
def r207_7 : L := [o 24 (m (t 0)),
  o 25 (.call ⟨.value (f 44), #[(t 24), (.const (.int .u8 111)), (s #[44])], #[79, 5, 9]⟩)]
def r207_8 : L := [o 26 (m (t 0)),
  o 27 (.call ⟨.value (f 238), #[(t 26)], #[79]⟩),
  o 28 (fa 35 (t 5) 7),
  q (.store 3 (t 28) (t 27))]
def r207_9 : L := [o 29 (m (t 0)),
  o 30 (.call ⟨.value (f 44), #[(t 29), (.const (.int .u8 111)), (s #[44])], #[79, 5, 9]⟩)]
def r207_10 : L := [o 31 (m (t 0)),
  o 32 (.call ⟨.value (f 238), #[(t 31)], #[79]⟩),
  o 33 (fa 35 (t 5) 8),
  q (.store 3 (t 33) (t 32))]
def r207_11 : L := [o 35 (.binOp .eql 3 (t 21) (k 10) 3),
  o 34 (a (t 35))]
def r207_12 : L := [o 36 (m (t 0)),
  o 37 (.call ⟨.value (f 44), #[(t 36), (.const (.int .u8 111)), (s #[44])], #[79, 5, 9]⟩)]
def r207_13 : L := [o 38 (m (t 0)),
  o 39 (m (t 0)),
  o 40 (.call ⟨.value (f 47), #[(t 39)], #[79]⟩),
  o 41 (.field 92 (t 40) 2),
  o 42 (.call ⟨.value (f 204), #[(t 38), (k 100000), (t 41)], #[79, 3, 3]⟩),
  o 43 (fa 35 (t 5) 7),
  q (.store 3 (t 43) (t 42))]
def r207_14 : L := [o 44 (m (t 0)),
  o 45 (.call ⟨.value (f 44), #[(t 44), (.const (.int .u8 111)), (s #[44])], #[79, 5, 9]⟩)]
def r207_15 : L := [o 46 (m (t 0)),
  o 47 (m (t 0)),
  o 48 (.call ⟨.value (f 47), #[(t 47)], #[79]⟩),
  o 49 (.field 92 (t 48) 2),
  o 50 (.call ⟨.value (f 204), #[(t 46), (k 100000), (t 49)], #[79, 3, 3]⟩),
  o 51 (fa 35 (t 5) 8),
  q (.store 3 (t 51) (t 50))]
def r207_16 : L := [o 53 (.binOp .eql 3 (t 21) (k 5) 3),
  o 52 (a (t 53))]
def r207_17 : L := [o 54 (.binOp .eql 3 (t 21) (k 9) 3),
  o 52 (a (t 54))]
def r207_18 : L := [o 55 (m (t 0)),
  o 56 (.call ⟨.value (f 44), #[(t 55), (.const (.int .u8 111)), (s #[44])], #[79, 5, 9]⟩)]
def r207_19 : L := [o 57 (m (t 0)),
  o 58 (.call ⟨.value (f 44), #[(t 57), (.const (.int .u8 110)), (s #[])], #[79, 5, 9]⟩),
  o 59 (fa 35 (t 5) 3),
  q (.store 9 (t 59) (t 58))]
def r207_20 : L := [o 61 (.binOp .eql 3 (t 21) (k 8) 3),
  o 60 (a (t 61))]
def r207_21 : L := [o 62 (m (t 0)),
  o 63 (.call ⟨.value (f 39), #[(t 62), (s #[44])], #[79, 9]⟩)]
def r207_22 : L := [o 64 (fa 35 (t 5) 9),
  o 65 (l 23 (t 64)),
  o 66 (m (t 0)),
  oc 67 (.call ⟨.value (f 44), #[(t 66), (.const (.int .u8 115)), (s #[])], #[79, 5, 9]⟩) [c 65 (l 23 (t 64))],
  o 68 (.buildSlice 23 1 #[(0, (t 67))]),
  o 69 (.call ⟨.builtin .append, #[(t 65), (t 68)], #[23, 23]⟩),
  o 70 (fa 35 (t 5) 9),
  q (.store 23 (t 70) (t 69))]
def r207_23 : L := [o 71 (m (t 0)),
  o 72 (.call ⟨.value (f 44), #[(t 71), (.const (.int .u8 111)), (s #[41])], #[79, 5, 9]⟩)]
def r207_24 : L := [o 73 (l 35 (t 5)),
  q (.store 35 (t 4) (t 73))]
def ir207 : ACode := .seq (.ops r207_0) (.seq (.ops r207_1) (.seq (.seq (.ops r207_2) (.cond (t 15) (.seq (.ops r207_3) (.ops r207_4)) (.skip))) (.seq (.seq (.ops r207_5) (.block 0 (.seq (.ops r207_6) (.cond (t 22) (.seq (.ops r207_7) (.seq (.ops r207_8) (.seq (.ops r207_9) (.ops r207_10)))) (.seq (.ops r207_11) (.cond (t 34) (.seq (.ops r207_12) (.seq (.ops r207_13) (.seq (.ops r207_14) (.ops r207_15)))) (.seq (.seq (.ops r207_16) (.cond (t 52) (.skip) (.ops r207_17))) (.cond (t 52) (.seq (.ops r207_18) (.ops r207_19)) (.seq (.ops r207_20) (.cond (t 60) (.block 1 (.loop (.seq (.seq (.ops r207_21) (.cond (t 63) (.skip) (.exit 1))) (.block 2 (.ops r207_22))))) (.skip))))))))))) (.seq (.ops r207_23) (.seq (.ops r207_24) (.ret))))))
theorem en207 : En ir207 74 [.cell 4 35] 207 := acalls_enter_b mixed Tryz.func207 Tryz.ntmps207 (by kernel_rfl) (by kernel_rfl)
theorem ca207 : Ca 207 := cal Tryz.func207
def r165_0 : L := [o 2 (.alloc 35)]
def r165_1 : L := [o 10 (m (t 0)),
  o 11 (.call ⟨.value (f 39), #[(t 10), (s #[33])], #[79, 9]⟩),
  o 9 (a (t 11))]
def r165_2 : L := [o 12 (m (t 0)),
  o 13 (.call ⟨.value (f 165), #[(t 12)], #[79]⟩),
  o 14 (.buildSlice 33 1 #[(0, (t 13))]),
  o 15 (.build 35 #[(0, (k 11)), (10, (t 14))]),
  q (.store 35 (t 2) (t 15))]
def r165_3 : L := [o 17 (m (t 0)),
  o 18 (.call ⟨.value (f 39), #[(t 17), (s #[40])], #[79, 9]⟩),
  o 16 (a (t 18))]
def r165_4 : L := [o 19 (m (t 0)),
  o 20 (.call ⟨.value (f 40), #[(t 19)], #[79]⟩),
  o 3 (.alloc 35),
  q (.store 35 (t 3) (t 20))]
def r165_5 : L := [o 21 (m (t 0)),
  o 22 (.call ⟨.value (f 44), #[(t 21), (.const (.int .u8 111)), (s #[41])], #[79, 5, 9]⟩)]
def r165_6 : L := [o 23 (l 35 (t 3)),
  q (.store 35 (t 2) (t 23))]
def r165_7 : L := [o 24 (m (t 0)),
  o 25 (.call ⟨.value (f 44), #[(t 24), (.const (.int .u8 110)), (s #[])], #[79, 5, 9]⟩),
  o 4 (a (t 25))]
def r165_8 : L := [o 5 (a (k 0))]
def r165_9 : L := [o 26 (.call ⟨.value (f 115), #[], #[]⟩),
  o 27 (ln (t 26) 23),
  o 28 (m (k 0))]
def r165_10 : L := [o 29 (.binOp .lss 3 (t 28) (t 27) 3)]
def r165_11 : L := [o 30 (m (t 28)),
  o 31 (.indexAddr 23 (t 26) (t 28)),
  o 32 (l 9 (t 31)),
  o 6 (a (t 30)),
  o 7 (a (t 32))]
def r165_12 : L := [o 33 (m (t 7)),
  o 34 (.binOp .neq 9 (t 33) (s #[]) 9),
  o 35 (m (t 34)),
  y 36 (m (t 7)) 35 true,
  y 37 (m (t 4)) 35 true,
  y 38 (.binOp .eql 9 (t 36) (t 37) 9) 35 true,
  o 39 (.pick (t 35) (t 38) (b false))]
def r165_13 : L := [o 40 (m (t 6)),
  o 5 (a (t 40))]
def r165_14 : L := [o 41 (.binOp .add 3 (t 28) (k 1) 3),
  o 28 (m (t 41))]
def r165_15 : L := [o 42 (m (t 5)),
  o 43 (.binOp .gtr 3 (t 42) (k 0) 3),
  o 44 (m (t 43)),
  y 45 (m (t 0)) 44 true,
  y 46 (.call ⟨.value (f 39), #[(t 45), (s #[40])], #[79, 9]⟩) 44 true,
  o 47 (.pick (t 44) (t 46) (b false))]
def r165_16 : L := [o 48 (m (t 0)),
  o 49 (m (t 5)),
  o 50 (.call ⟨.value (f 207), #[(t 48), (t 49)], #[79, 3]⟩),
  q (.store 35 (t 2) (t 50))]
def r165_17 : L := [o 51 (m (t 4)),
  o 52 (.build 35 #[(0, (k 2)), (1, (t 51))]),
  o 8 (.alloc 35),
  q (.store 35 (t 8) (t 52))]
def r165_18 : L := [o 53 (m (t 0)),
  o 54 (.call ⟨.value (f 44), #[(t 53), (.const (.int .u8 111)), (s #[46])], #[79, 5, 9]⟩)]
def r165_19 : L := [o 55 (m (t 0)),
  o 56 (.call ⟨.value (f 44), #[(t 55), (.const (.int .u8 110)), (s #[])], #[79, 5, 9]⟩),
  o 57 (fa 35 (t 8) 3),
  q (.store 9 (t 57) (t 56))]
def r165_20 : L := [o 58 (m (t 0)),
  o 59 (.call ⟨.value (f 44), #[(t 58), (.const (.int .u8 111)), (s #[61])], #[79, 5, 9]⟩)]
def r165_21 : L := [o 60 (m (t 0)),
  o 61 (.nilCheck (t 60)),
  o 62 (fa 83 (t 61) 3),
  o 63 (l 39 (t 62)),
  o 64 (.binOp .eql 39 (t 63) (k 0) 39),
  o 65 (m (t 64)),
  y 66 (m (t 0)) 65 true,
  y 67 (.call ⟨.value (f 47), #[(t 66)], #[79]⟩) 65 true,
  y 68 (.field 92 (t 67) 0) 65 true,
  y 69 (.binOp .eql 5 (t 68) (.const (.int .u8 110)) 5) 65 true,
  o 70 (.pick (t 65) (t 69) (b false))]
def r165_22 : L := [o 71 (m (t 0)),
  o 72 (.call ⟨.value (f 44), #[(t 71), (.const (.int .u8 110)), (s #[])], #[79, 5, 9]⟩),
  o 73 (fa 35 (t 8) 0),
  q (.store 3 (t 73) (k 3)),
  o 74 (fa 35 (t 8) 2),
  q (.store 9 (t 74) (t 72))]
def r165_23 : L := [o 75 (m (t 0)),
  o 76 (.call ⟨.value (f 44), #[(t 75), (.const (.int .u8 111)), (s #[46])], #[79, 5, 9]⟩)]
def r165_24 : L := [o 77 (m (t 0)),
  o 78 (.call ⟨.value (f 44), #[(t 77), (.const (.int .u8 110)), (s #[])], #[79, 5, 9]⟩),
  o 79 (fa 35 (t 8) 4),
  q (.store 9 (t 79) (t 78))]
def r165_25 : L := [o 80 (l 35 (t 8)),
  q (.store 35 (t 2) (t 80))]
def r165_26 : L := [o 81 (m (t 0)),
  o 82 (.call ⟨.value (f 44), #[(t 81), (.const (.int .u8 115)), (s #[])], #[79, 5, 9]⟩),
  o 83 (fa 35 (t 8) 5),
  q (.store 9 (t 83) (t 82))]
def r165_27 : L := [o 84 (m (t 0)),
  o 85 (.call ⟨.value (f 208), #[(t 84)], #[79]⟩),
  o 86 (fa 35 (t 8) 6),
  q (.store 4 (t 86) (t 85))]
def r165_28 : L := [o 87 (l 35 (t 8)),
  q (.store 35 (t 2) (t 87))]
def ir165 : ACode := .seq (.ops r165_0) (.seq (.block 0 (.seq (.ops r165_1) (.cond (t 9) (.seq (.ops r165_2) (.ret)) (.seq (.ops r165_3) (.cond (t 16) (.seq (.ops r165_4) (.seq (.ops r165_5) (.seq (.ops r165_6) (.ret)))) (.skip)))))) (.seq (.ops r165_7) (.seq (.ops r165_8) (.seq (.seq (.ops r165_9) (.block 1 (.loop (.seq (.ops r165_10) (.seq (.cond (t 29) (.skip) (.exit 1)) (.seq (.block 2 (.seq (.ops r165_11) (.seq (.ops r165_12) (.cond (t 39) (.ops r165_13) (.skip))))) (.ops r165_14))))))) (.seq (.seq (.ops r165_15) (.cond (t 47) (.seq (.ops r165_16) (.ret)) (.skip))) (.seq (.ops r165_17) (.seq (.ops r165_18) (.seq (.ops r165_19) (.seq (.ops r165_20) (.seq (.seq (.ops r165_21) (.cond (t 70) (.seq (.ops r165_22) (.seq (.ops r165_23) (.seq (.ops r165_24) (.seq (.ops r165_25) (.ret))))) (.skip))) (.seq (.ops r165_26) (.seq (.ops r165_27) (.seq (.ops r165_28) (.ret))))))))))))))
theorem en165 : En ir165 88 [.cell 2 35] 165 := acalls_enter_b mixed Tryz.func165 Tryz.ntmps165 (by kernel_rfl) (by kernel_rfl)
theorem ca165 : Ca 165 := cal Tryz.func165
def r104_0 : L := [o 2 (.alloc 35)]
def r104_1 : L := [o 4 (m (t 0)),
  o 5 (.call ⟨.value (f 165), #[(t 4)], #[79]⟩),
  o 6 (.buildSlice 33 1 #[(0, (t 5))]),
  o 3 (a (t 6))]
def r104_2 : L := [o 7 (m (t 0)),
  o 8 (.call ⟨.value (f 39), #[(t 7), (s #[38])], #[79, 9]⟩)]
def r104_3 : L := [o 9 (m (t 3)),
  o 10 (m (t 0)),
  o 11 (.call ⟨.value (f 165), #[(t 10)], #[79]⟩),
  o 12 (.buildSlice 33 1 #[(0, (t 11))]),
  o 13 (.call ⟨.builtin .append, #[(t 9), (t 12)], #[33, 33]⟩),
  o 3 (a (t 13))]
def r104_4 : L := [o 14 (m (t 3)),
  o 15 (ln (t 14) 33),
  o 16 (.binOp .eql 3 (t 15) (k 1) 3)]
def r104_5 : L := [o 17 (m (t 3)),
  o 18 (.indexAddr 33 (t 17) (k 0)),
  o 19 (l 35 (t 18)),
  q (.store 35 (t 2) (t 19))]
def r104_6 : L := [o 20 (m (t 3)),
  o 21 (.build 35 #[(0, (k 12)), (10, (t 20))]),
  q (.store 35 (t 2) (t 21))]
def ir104 : ACode := .seq (.ops r104_0) (.seq (.ops r104_1) (.seq (.block 0 (.loop (.seq (.seq (.ops r104_2) (.cond (t 8) (.skip) (.exit 0))) (.block 1 (.ops r104_3))))) (.seq (.seq (.ops r104_4) (.cond (t 16) (.seq (.ops r104_5) (.ret)) (.skip))) (.seq (.ops r104_6) (.ret)))))
theorem en104 : En ir104 22 [.cell 2 35] 104 := acalls_enter_b mixed Tryz.func104 Tryz.ntmps104 (by kernel_rfl) (by kernel_rfl)
theorem ca104 : Ca 104 := cal Tryz.func104
def r40_0 : L := [o 2 (.alloc 35)]
def r40_1 : L := [o 4 (m (t 0)),
  o 5 (.call ⟨.value (f 104), #[(t 4)], #[79]⟩),
  o 6 (.buildSlice 33 1 #[(0, (t 5))]),
  o 3 (a (t 6))]
def r40_2 : L := [o 7 (m (t 0)),
  o 8 (.call ⟨.value (f 39), #[(t 7), (s #[124])], #[79, 9]⟩)]
def r40_3 : L := [o 9 (m (t 3)),
  o 10 (m (t 0)),
  o 11 (.call ⟨.value (f 104), #[(t 10)], #[79]⟩),
  o 12 (.buildSlice 33 1 #[(0, (t 11))]),
  o 13 (.call ⟨.builtin .append, #[(t 9), (t 12)], #[33, 33]⟩),
  o 3 (a (t 13))]
def r40_4 : L := [o 14 (m (t 3)),
  o 15 (ln (t 14) 33),
  o 16 (.binOp .eql 3 (t 15) (k 1) 3)]
def r40_5 : L := [o 17 (m (t 3)),
  o 18 (.indexAddr 33 (t 17) (k 0)),
  o 19 (l 35 (t 18)),
  q (.store 35 (t 2) (t 19))]
def r40_6 : L := [o 20 (m (t 3)),
  o 21 (.build 35 #[(0, (k 13)), (10, (t 20))]),
  q (.store 35 (t 2) (t 21))]
def ir40 : ACode := .seq (.ops r40_0) (.seq (.ops r40_1) (.seq (.block 0 (.loop (.seq (.seq (.ops r40_2) (.cond (t 8) (.skip) (.exit 0))) (.block 1 (.ops r40_3))))) (.seq (.seq (.ops r40_4) (.cond (t 16) (.seq (.ops r40_5) (.ret)) (.skip))) (.seq (.ops r40_6) (.ret)))))
theorem en40 : En ir40 22 [.cell 2 35] 40 := acalls_enter_b mixed Tryz.func40 Tryz.ntmps40 (by kernel_rfl) (by kernel_rfl)
theorem ca40 : Ca 40 := cal Tryz.func40
end Go.Proofs

/- Constraints read by the reference: functions. No conditions. -/
namespace Go.Proofs
open Go.Abs Go.Q
attribute [local irreducible] awp aops Run BodyQ ACalls Back
section
variable {G : Nat → Option Obj} {h : AHeap} {L : List Tok} {σ : PS L} {g : Nat} {d : Int}



set_option maxHeartbeats 4000000 in
set_option maxRecDepth 10000 in
theorem c207 (hL : LOk L) (n : Nat) (hn : n ≤ 100000) (op : Int) (r : Con × PS L) (hg : h.get g = some (par d σ)) (H : rCall n op σ = some r) : ACalls Tryz.prog G 207 [.ptr g 0, .int .i64 op] h (PP g d h encGa r) := by
  refine ACalls.fin (en207 (by simp) fun hw => ?_)
  have hgl := hw g _ hg
  unfold rCall at H
  refine g1 ?_
  refine s_alloc (tt rfl) fun b1 hb1 => ⟨trivial, ?_⟩
  try simp only [set_next, new_next] at hb1
  refine g1 ?_
  refine s_call rfl rfl rfl ca44 ?_
  refine call_q (c44 (σ := σ) hL 110 (by omega) [] hpp) fun a s1 hr => back trivial ?_
  simp only [hr, pb_mk] at H
  refine g1 ?_
  refine s_alloc (tt rfl) fun b2 hb2 => ⟨trivial, ?_⟩
  try simp only [set_next, new_next] at hb2
  unfold rSecond rCall3 at H
  by_cases o1 : op = 1
  · subst o1
    rw [if_neg (by omega), pb_mk, if_neg (by omega), if_neg (by omega), if_neg (by omega), if_neg (by omega)] at H
    refine g1 ?_
    refine s_call rfl rfl rfl ca44 ?_
    refine call_q (c44 (σ := s1) hL 111 (by omega) [41] hpp) fun uz sz hr => back trivial ?_
    simp only [hr, pb_mk] at H
    simp only [Option.some.injEq] at H
    subst H
    refine g1 ?_
    refine fin_q atss wkk
  by_cases o10 : op = 10
  · subst o10
    rw [if_neg (by omega), pb_mk, if_neg (by omega), if_pos rfl] at H
    refine g1 ?_
    refine s_call rfl rfl rfl ca44 ?_
    refine call_q (c44 (σ := s1) hL 111 (by omega) [44] hpp) fun u2 s2 hr => back trivial ?_
    simp only [hr, pb_mk] at H
    refine g1 ?_
    refine s_call rfl rfl rfl ca47 ?_
    refine (c47 (σ := s2) hL hpp).mono ?_
    rintro _ _ ⟨rfl, rfl⟩
    refine back trivial ?_
    refine g1 ?_
    refine s_call rfl rfl rfl ca204 ?_
    refine call_q (c204 (σ := s2) hL 100000 (now s2).pos (by omega) hpp) fun lo s3 hr => back trivial ?_
    simp only [hr, pb_mk] at H
    refine g1 ?_
    refine s_call rfl rfl rfl ca44 ?_
    refine call_q (c44 (σ := s3) hL 111 (by omega) [44] hpp) fun u4 s4 hr => back trivial ?_
    simp only [hr, pb_mk] at H
    refine g1 ?_
    refine s_call rfl rfl rfl ca47 ?_
    refine (c47 (σ := s4) hL hpp).mono ?_
    rintro _ _ ⟨rfl, rfl⟩
    refine back trivial ?_
    refine g1 ?_
    refine s_call rfl rfl rfl ca204 ?_
    refine call_q (c204 (σ := s4) hL 100000 (now s4).pos (by omega) hpp) fun hi s5 hr => back trivial ?_
    simp only [hr, pb_mk] at H
    refine g1 ?_
    refine s_call rfl rfl rfl ca44 ?_
    refine call_q (c44 (σ := s5) hL 111 (by omega) [41] hpp) fun uz sz hr => back trivial ?_
    simp only [hr, pb_mk] at H
    simp only [Option.some.injEq] at H
    subst H
    refine g1 ?_
    refine fin_q atss wkk
  have e1 : (op != 1) = true := by simp [o1]
  have e10 : (op != 10) = true := by simp [o10]
  have f10 : (op == 10) = false := by simp [o10]
  by_cases o4 : op = 4
  · subst o4
    refine g1 ?_
    rw [if_pos (by omega)] at H
    refine s_call rfl rfl rfl ca44 ?_
    refine call_q (c44 (σ := s1) hL 111 (by omega) [44] hpp) fun u2 s2 hr => back trivial ?_
    simp only [hr, pb_mk] at H
    refine g1 ?_
    refine s_call rfl rfl rfl ca44 ?_
    refine call_q (c44 (σ := s2) hL 110 (by omega) [] hpp) fun b s3 hr => back trivial ?_
    simp only [hr, pb_mk] at H
    refine g1 ?_
    simp only [Int.reduceEq, or_true, true_or, or_self, if_true, if_false] at H
    refine s_call rfl rfl rfl ca44 ?_
    refine call_q (c44 (σ := s3) hL 111 (by omega) [44] hpp) fun u4 s4 hr => back trivial ?_
    simp only [hr, pb_mk] at H
    refine g1 ?_
    refine s_call rfl rfl rfl ca238 ?_
    refine call_q (c238 (σ := s4) hL hpp) fun lo s5 hr => back trivial ?_
    simp only [hr, pb_mk] at H
    refine g1 ?_
    refine s_call rfl rfl rfl ca44 ?_
    refine call_q (c44 (σ := s5) hL 111 (by omega) [44] hpp) fun u6 s6 hr => back trivial ?_
    simp only [hr, pb_mk] at H
    refine g1 ?_
    refine s_call rfl rfl rfl ca238 ?_
    refine call_q (c238 (σ := s6) hL hpp) fun hi s7 hr => back trivial ?_
    simp only [hr, pb_mk] at H
    refine g1 ?_
    refine s_call rfl rfl rfl ca44 ?_
    refine call_q (c44 (σ := s7) hL 111 (by omega) [41] hpp) fun uz sz hr => back trivial ?_
    simp only [hr, pb_mk] at H
    simp only [Option.some.injEq] at H
    subst H
    refine g1 ?_
    refine fin_q atss wkk
  have f4 : (op == 4) = false := by simp [o4]
  by_cases o5 : op = 5
  · subst o5
    refine g1 ?_
    rw [if_pos (by omega)] at H
    refine s_call rfl rfl rfl ca44 ?_
    refine call_q (c44 (σ := s1) hL 111 (by omega) [44] hpp) fun u2 s2 hr => back trivial ?_
    simp only [hr, pb_mk] at H
    refine g1 ?_
    refine s_call rfl rfl rfl ca44 ?_
    refine call_q (c44 (σ := s2) hL 110 (by omega) [] hpp) fun b s3 hr => back trivial ?_
    simp only [hr, pb_mk] at H
    refine g1 ?_
    simp only [Int.reduceEq, or_true, true_or, or_self, if_true, if_false] at H
    refine s_call rfl rfl rfl ca44 ?_
    refine call_q (c44 (σ := s3) hL 111 (by omega) [44] hpp) fun u4 s4 hr => back trivial ?_
    simp only [hr, pb_mk] at H
    refine g1 ?_
    refine s_call rfl rfl rfl ca44 ?_
    refine call_q (c44 (σ := s4) hL 110 (by omega) [] hpp) fun nm s5 hr => back trivial ?_
    simp only [hr, pb_mk] at H
    refine g1 ?_
    refine s_call rfl rfl rfl ca44 ?_
    refine call_q (c44 (σ := s5) hL 111 (by omega) [41] hpp) fun uz sz hr => back trivial ?_
    simp only [hr, pb_mk] at H
    simp only [Option.some.injEq] at H
    subst H
    refine g1 ?_
    refine fin_q atss wkk
  have f5 : (op == 5) = false := by simp [o5]
  by_cases o9 : op = 9
  · subst o9
    refine g1 ?_
    rw [if_pos (by omega)] at H
    refine s_call rfl rfl rfl ca44 ?_
    refine call_q (c44 (σ := s1) hL 111 (by omega) [44] hpp) fun u2 s2 hr => back trivial ?_
    simp only [hr, pb_mk] at H
    refine g1 ?_
    refine s_call rfl rfl rfl ca44 ?_
    refine call_q (c44 (σ := s2) hL 110 (by omega) [] hpp) fun b s3 hr => back trivial ?_
    simp only [hr, pb_mk] at H
    refine g1 ?_
    simp only [Int.reduceEq, or_true, true_or, or_self, if_true, if_false] at H
    refine s_call rfl rfl rfl ca44 ?_
    refine call_q (c44 (σ := s3) hL 111 (by omega) [44] hpp) fun u4 s4 hr => back trivial ?_
    simp only [hr, pb_mk] at H
    refine g1 ?_
    refine s_call rfl rfl rfl ca44 ?_
    refine call_q (c44 (σ := s4) hL 110 (by omega) [] hpp) fun nm s5 hr => back trivial ?_
    simp only [hr, pb_mk] at H
    refine g1 ?_
    refine s_call rfl rfl rfl ca44 ?_
    refine call_q (c44 (σ := s5) hL 111 (by omega) [41] hpp) fun uz sz hr => back trivial ?_
    simp only [hr, pb_mk] at H
    simp only [Option.some.injEq] at H
    subst H
    refine g1 ?_
    refine fin_q atss wkk
  have f9 : (op == 9) = false := by simp [o9]
  by_cases o8 : op = 8
  · subst o8
    refine g1 ?_
    rw [if_pos (by omega)] at H
    refine s_call rfl rfl rfl ca44 ?_
    refine call_q (c44 (σ := s1) hL 111 (by omega) [44] hpp) fun u2 s2 hr => back trivial ?_
    simp only [hr, pb_mk] at H
    refine g1 ?_
    refine s_call rfl rfl rfl ca44 ?_
    refine call_q (c44 (σ := s2) hL 110 (by omega) [] hpp) fun b s3 hr => back trivial ?_
    simp only [hr, pb_mk] at H
    refine g1 ?_
    simp only [Int.reduceEq, or_true, true_or, or_self, if_true, if_false] at H
    refine w_loop (fun e h' k => ∃ (acc : List Str) (st' : PS L) (tg : Tag) (sz : Nat), pbO (rArgs k acc st') (fun l σ => pb (want 111 [41] σ) fun _ σ => some (Con.mk 8 a b [] [] [] false 0 0 l [], σ)) = some r ∧ (sz = 1 ∨ (acc = [] ∧ tg = .nl)) ∧ acc.length + k ≤ n ∧ At h g (par d st') h' ∧ Room (nx (b2 + 1)) h' 9 acc.length tg ∧
        h'.get b1 = some (.box 35 zG) ∧ h'.get b2 = some (.box 35 [.int .i64 8, .str a, .str b, .str [], .str [], .str [], .bool false, .int .i64 0, .int .i64 0, .sl sz (encSs acc) tg, .sl 0 [] .nl]) ∧ b2 + 1 ≤ h'.next ∧
        e = [(0, true, .ptr g 0), (4, true, .ptr b1 0), (5, true, .ptr b2 0)])
      _ _ (.cons rfl (.cons rfl (.cons rfl (.nil _)))) ⟨[], s3, .nl, 0, H, .inr ⟨rfl, rfl⟩, by simp, by exact atss, trivial, by exact hpp, by exact hpp, by simp [set_next, new_next], rfl⟩ ?_
    rintro _ h' k ⟨acc, st', tg, sz, H, hsz, hak, hat, hroom, hbx, hbz, hnx, rfl⟩
    cases k with
    | zero => simp only [rArgs, pbO] at H; cases H
    | succ k =>
      simp only [rArgs] at H
      have hgx := hat.get
      have hlen : (encSs acc).length = acc.length := List.length_map ..
      refine g1 ?_
      rcases Bool.eq_false_or_eq_true (is 111 [44] st') with hx | hx <;> simp only [hx, sbb] at H
      · refine s_call rfl rfl rfl ca39 ?_
        refine (c39_t (σ := st') hL [44] hx hpp).mono ?_
        rintro _ _ ⟨rfl, rfl⟩
        refine back trivial ?_
        refine g1 ?_
        refine s_call rfl rfl rfl ca44 ?_
        refine call_q (c44 (σ := adv st') hL 115 (by omega) [] hpp) fun x s4 hr => back ⟨rk_load (tt rfl) rfl rfl hpp rfl rfl rfl, trivial⟩ ?_
        simp only [hr, pb_mk] at H
        refine g1 ?_
        refine s_append (nx (b2 + 1)) rfl rfl (tt rfl) (tt rfl) rfl (hsz.imp id (·.2)) hnx (append_room (Room.set (Room.set hroom (show g < b2 + 1 by omega)) (show g < b2 + 1 by omega)) (by omega)) (by simp only [hlen, List.length_cons, List.length_nil]; omega) fun tg' h2 hr2 hx2 => ⟨trivial, ?_⟩
        have k1 : h2.get b2 = some (.box 35 [.int .i64 8, .str a, .str b, .str [], .str [], .str [], .bool false, .int .i64 0, .int .i64 0, .sl sz (encSs acc) tg, .sl 0 [] .nl]) := by
          rw [hx2.get b2 (show b2 < b2 + 1 by omega)]; exact hpp
        have k2 : h2.get b1 = some (.box 35 zG) := by
          rw [hx2.get b1 (show b1 < b2 + 1 by omega)]; exact hpp
        have k3 : At h g (par d s4) h2 := by
          refine At.ext ?_ (Ext.le (h1 := h) (show h.next ≤ b2 + 1 by omega) hx2)
          exact atss
        have k4 := Nat.le_trans hnx hx2.next
        refine g1 ?_
        refine l_n _ _ ?_ ?_ ⟨acc ++ [x], s4, tg', 1, H, .inl rfl, by simp; omega, .setl (by omega) k3, ?_, ?_, ?_, k4, rfl⟩
        · omega
        · exact envv
        · exact append_room (Room.set hr2 (show b2 < b2 + 1 by omega)) (by simp [hlen])
        · exact hpp
        · rw [hs_self]
          simp [setCells, encSs, AVal.cells]
      · refine s_call rfl rfl rfl ca39 ?_
        refine (c39_f (σ := st') hL [44] hx hpp).mono ?_
        rintro _ _ ⟨rfl, rfl⟩
        refine back trivial ?_
        refine g1 ?_
        simp only [pbO_some] at H
        refine s_call rfl rfl rfl ca44 ?_
        refine call_q (c44 (σ := st') hL 111 (by omega) [41] hpp) fun uz sz' hr => back trivial ?_
        simp only [hr, pb_mk] at H
        simp only [Option.some.injEq] at H
        subst H
        rcases hsz with rfl | ⟨rfl, rfl⟩
        · refine g1 ?_
          refine fin_q atss wkk
        · refine g1 ?_
          refine fin_q atss wkk
  have f8 : (op == 8) = false := by simp [o8]
  refine g1 ?_
  rw [if_pos (by omega)] at H
  refine s_call rfl rfl rfl ca44 ?_
  refine call_q (c44 (σ := s1) hL 111 (by omega) [44] hpp) fun u2 s2 hr => back trivial ?_
  simp only [hr, pb_mk] at H
  refine g1 ?_
  refine s_call rfl rfl rfl ca44 ?_
  refine call_q (c44 (σ := s2) hL 110 (by omega) [] hpp) fun b s3 hr => back trivial ?_
  simp only [hr, pb_mk] at H
  refine g1 ?_
  rw [if_neg (by omega), if_neg (by omega), if_neg (by omega), if_neg (by omega)] at H
  refine s_call rfl rfl rfl ca44 ?_
  refine call_q (c44 (σ := s3) hL 111 (by omega) [41] hpp) fun uz sz hr => back trivial ?_
  simp only [hr, pb_mk] at H
  simp only [Option.some.injEq] at H
  subst H
  refine g1 ?_
  refine fin_q atss wkk
end
end Go.Proofs
