/- Repetitions read by the reader; patterns complete. No conditions but that of peek. -/
import Derived.Test.YtjnkbjloabnopaaGreatDoorP17
namespace Go.Proofs
open Go.Abs Go.Q
attribute [local irreducible] awp aops Run BodyQ ACalls Back
section
variable {G : Nat → Option Obj} {h : AHeap} {s : Str} {st : S} {g : Nat}

theorem wf_set {b : Nat} {o : AObj} (hb : b < h.next) (hw : h.Wf) : (h.set b o).Wf := fun x p hx => by
  by_cases hxb : x = b
  · subst hxb; exact hb
  · simp only [AHeap.set, if_neg hxb] at hx; exact hw x p hx
theorem wf_new {b : Nat} {o : AObj} (hb : h.next ≤ b) (hw : h.Wf) : (h.new b o).Wf := fun x p hx => by
  by_cases hxb : x = b
  · subst hxb; exact Nat.lt_succ_self _
  · simp only [AHeap.new, if_neg hxb] at hx; have := hw x p hx; simp only [AHeap.new]; omega

set_option maxHeartbeats 4000000 in
set_option maxRecDepth 10000 in
theorem rep_step (hs : s.length ≤ 1000) (n : Nat) (h1 : ItemOK G s n) : RepOK G s (n + 1) := by
  intro h st g r hg hst H
  refine ACalls.fin (en200 (by simp) fun hw => ?_)
  have hgl := hw g _ hg
  simp only [repP] at H
  refine g1 ?_
  refine s_alloc (tt rfl) fun b1 hb1 => ⟨trivial, ?_⟩
  try simp only [set_next, new_next] at hb1
  refine g1 ?_
  refine s_call rfl rfl rfl ca232 ?_
  refine call_o (bindO_ne H) (fun r1 hr => h1 _ st _ _ hpp vvv hr) (fun a s1 hr hl => back trivial ?_) (fun p x st1 hr => ?_)
  rotate_left
  · apply z_p
    rw [hr] at H; simp only [sbb1, Option.some.injEq] at H; subst H
    exact fin_bad atss
  rw [hr] at H; simp only [sbb] at H
  obtain ⟨op', ⟨o2, nm, ag, vl, lb, fd, kd2⟩, lab, reg, lo, hi, kd⟩ := a
  refine g1 ?_
  refine s_alloc (tt rfl) fun b2 hb2 => ⟨trivial, ?_⟩
  try simp only [set_next, new_next] at hb2
  refine g1 ?_
  refine w_loop (fun e h' k => ∃ (p : Pat) (st' : S), V s st' ∧ repL s k p st' = some r ∧ At h g (rdr s st') h' ∧ h'.Wf ∧ h'.get b2 = some (.box 32 (encP p)) ∧ h'.get b1 = some (.box 32 zP) ∧ b2 + 1 ≤ h'.next ∧ e = [(0, true, .ptr g 0), (2, true, .ptr b1 0), (3, true, .ptr b2 0)])
    _ _ (.cons rfl (.cons rfl (.cons rfl (.nil _)))) ⟨.mk op' (.mk o2 nm ag vl lb fd kd2) lab reg lo hi kd, s1, by exact vvv, H, by exact atss, ?_, by exact hpp, by exact hpp, by simp [set_next, new_next], rfl⟩ ?_
  · exact by repeat first | assumption | (refine wf_set (by first | omega | (simp only [set_next, new_next]; omega)) ?_) | (refine wf_new (by first | omega | (simp only [set_next, new_next]; omega)) ?_)
  rintro _ h' k ⟨p, st', hv, H, hat, hwf, hb2x, hb1x, hnx, rfl⟩
  cases k with
  | zero => simp [repL] at H
  | succ k =>
    simp only [repL] at H
    have hgx := hat.get
    have hgn : g < h'.next := hwf g _ hgx
    obtain ⟨op', ⟨o2, nm, ag, vl, lb, fd, kd2⟩, lab, reg, lo, hi, kd⟩ := p
    unfold suffixP at H
    refine g1 ?_
    rcases Bool.eq_false_or_eq_true (isSign [63] st') with hx | hx <;> simp only [hx, sbb] at H
    · refine s_call rfl rfl rfl ca93 ?_
      refine (c93_t [63] (st := st') hpp vvv hs hx).mono ?_
      rintro _ _ ⟨rfl, rfl⟩
      refine back trivial ?_
      refine g1 ?_
      refine l_ns _ _ _ ?_ ?_ (Sub.set (cs' := encP (.mk 6 .zero [] [] 0 1 [(.mk op' (.mk o2 nm ag vl lb fd kd2) lab reg lo hi kd)])) (.refl (by repeat first | assumption | (refine wf_set (by first | omega | (simp only [set_next, new_next]; omega)) ?_) | (refine wf_new (by first | omega | (simp only [set_next, new_next]; omega)) ?_))) (by first | omega | (simp only [set_next, new_next]; omega)) ?_) ⟨.mk 6 .zero [] [] 0 1 [(.mk op' (.mk o2 nm ag vl lb fd kd2) lab reg lo hi kd)], nxt s st', by exact vvv, H, ?_, ?_, hs_self, by exact hpp, by first | omega | (simp only [set_next, new_next]; omega), rfl⟩
      · omega
      · exact envv
      · exact wkk
      · exact At.setl (by omega) atss
      · exact wf_set (by first | omega | (simp only [set_next, new_next]; omega)) (by repeat first | assumption | (refine wf_set (by first | omega | (simp only [set_next, new_next]; omega)) ?_) | (refine wf_new (by first | omega | (simp only [set_next, new_next]; omega)) ?_))
    refine s_call rfl rfl rfl ca93 ?_
    refine (c93_f [63] (st := st') hpp vvv hs hx).mono ?_
    rintro _ _ ⟨rfl, rfl⟩
    refine back trivial ?_
    refine g1 ?_
    rcases Bool.eq_false_or_eq_true (isSign [42] st') with hx | hx <;> simp only [hx, sbb] at H
    · refine s_call rfl rfl rfl ca93 ?_
      refine (c93_t [42] (st := st') hpp vvv hs hx).mono ?_
      rintro _ _ ⟨rfl, rfl⟩
      refine back trivial ?_
      refine g1 ?_
      refine l_ns _ _ _ ?_ ?_ (Sub.set (cs' := encP (.mk 6 .zero [] [] 0 (-1) [(.mk op' (.mk o2 nm ag vl lb fd kd2) lab reg lo hi kd)])) (.refl (by repeat first | assumption | (refine wf_set (by first | omega | (simp only [set_next, new_next]; omega)) ?_) | (refine wf_new (by first | omega | (simp only [set_next, new_next]; omega)) ?_))) (by first | omega | (simp only [set_next, new_next]; omega)) ?_) ⟨.mk 6 .zero [] [] 0 (-1) [(.mk op' (.mk o2 nm ag vl lb fd kd2) lab reg lo hi kd)], nxt s st', by exact vvv, H, ?_, ?_, hs_self, by exact hpp, by first | omega | (simp only [set_next, new_next]; omega), rfl⟩
      · omega
      · exact envv
      · exact wkk
      · exact At.setl (by omega) atss
      · exact wf_set (by first | omega | (simp only [set_next, new_next]; omega)) (by repeat first | assumption | (refine wf_set (by first | omega | (simp only [set_next, new_next]; omega)) ?_) | (refine wf_new (by first | omega | (simp only [set_next, new_next]; omega)) ?_))
    refine s_call rfl rfl rfl ca93 ?_
    refine (c93_f [42] (st := st') hpp vvv hs hx).mono ?_
    rintro _ _ ⟨rfl, rfl⟩
    refine back trivial ?_
    refine g1 ?_
    rcases Bool.eq_false_or_eq_true (isSign [43] st') with hx | hx <;> simp only [hx, sbb] at H
    · refine s_call rfl rfl rfl ca93 ?_
      refine (c93_t [43] (st := st') hpp vvv hs hx).mono ?_
      rintro _ _ ⟨rfl, rfl⟩
      refine back trivial ?_
      refine g1 ?_
      refine l_ns _ _ _ ?_ ?_ (Sub.set (cs' := encP (.mk 6 .zero [] [] 1 (-1) [(.mk op' (.mk o2 nm ag vl lb fd kd2) lab reg lo hi kd)])) (.refl (by repeat first | assumption | (refine wf_set (by first | omega | (simp only [set_next, new_next]; omega)) ?_) | (refine wf_new (by first | omega | (simp only [set_next, new_next]; omega)) ?_))) (by first | omega | (simp only [set_next, new_next]; omega)) ?_) ⟨.mk 6 .zero [] [] 1 (-1) [(.mk op' (.mk o2 nm ag vl lb fd kd2) lab reg lo hi kd)], nxt s st', by exact vvv, H, ?_, ?_, hs_self, by exact hpp, by first | omega | (simp only [set_next, new_next]; omega), rfl⟩
      · omega
      · exact envv
      · exact wkk
      · exact At.setl (by omega) atss
      · exact wf_set (by first | omega | (simp only [set_next, new_next]; omega)) (by repeat first | assumption | (refine wf_set (by first | omega | (simp only [set_next, new_next]; omega)) ?_) | (refine wf_new (by first | omega | (simp only [set_next, new_next]; omega)) ?_))
    refine s_call rfl rfl rfl ca93 ?_
    refine (c93_f [43] (st := st') hpp vvv hs hx).mono ?_
    rintro _ _ ⟨rfl, rfl⟩
    refine back trivial ?_
    refine g1 ?_
    rcases Bool.eq_false_or_eq_true (isSign [123] st') with hx | hx <;> simp only [hx, sbb] at H
    · refine s_call rfl rfl rfl ca93 ?_
      refine (c93_t [123] (st := st') hpp vvv hs hx).mono ?_
      rintro _ _ ⟨rfl, rfl⟩
      refine back trivial ?_
      refine g1 ?_
      have hpl := hv.pos
      have hle := hv.le
      refine s_call rfl rfl rfl ca233 ?_
      refine call_r (c233 16 st'.1.pos (by omega) (by omega) (st := nxt s st') hpp vvv hs) (fun lo' s2 hr hl => back trivial ?_) (fun p x st1 hr => ?_)
      rotate_left
      · apply z_p
        rw [hr] at H; simp only [sbb1, Option.some.injEq] at H; subst H
        exact fin_bad atss
      rw [hr] at H; simp only [sbb] at H
      have hlo := numberP_le hr
      refine g1 ?_
      rcases Bool.eq_false_or_eq_true (isSign [44] s2) with hx | hx <;> simp only [hx, sbb] at H
      · refine s_call rfl rfl rfl ca93 ?_
        refine (c93_t [44] (st := s2) hpp vvv hs hx).mono ?_
        rintro _ _ ⟨rfl, rfl⟩
        refine back trivial ?_
        refine g1 ?_
        rcases Bool.eq_false_or_eq_true (isSign [125] (nxt s s2)) with hy | hy <;> simp only [hy, sbb] at H
        · refine s_call rfl rfl rfl ca95 ?_
          refine (c95 [125] (st := nxt s s2) hpp).mono ?_
          rintro _ _ ⟨rfl, rfl⟩
          refine back trivial ?_
          rw [hy]
          refine g1 ?_
          refine s_call rfl rfl rfl ca234 ?_
          refine call_r ((c234 [125] (st := nxt s s2) hpp vvv hs).args (must_args g [125])) (fun u s3 hr hl => back trivial ?_) (fun p x st1 hr => ?_)
          rotate_left
          · apply z_p
            rw [hr] at H; simp only [sbb1, Option.some.injEq] at H; subst H
            exact fin_bad atss
          rw [hr] at H; simp only [sbb] at H
          refine g1 ?_
          refine l_ns _ _ _ ?_ ?_ (Sub.set (cs' := encP (.mk 6 .zero [] [] lo' (-1) [(.mk op' (.mk o2 nm ag vl lb fd kd2) lab reg lo hi kd)])) (.refl (by repeat first | assumption | (refine wf_set (by first | omega | (simp only [set_next, new_next]; omega)) ?_) | (refine wf_new (by first | omega | (simp only [set_next, new_next]; omega)) ?_))) (by first | omega | (simp only [set_next, new_next]; omega)) ?_) ⟨.mk 6 .zero [] [] lo' (-1) [(.mk op' (.mk o2 nm ag vl lb fd kd2) lab reg lo hi kd)], s3, by exact vvv, H, ?_, ?_, hs_self, by exact hpp, by first | omega | (simp only [set_next, new_next]; omega), rfl⟩
          · omega
          · exact envv
          · exact wkk
          · exact At.setl (by omega) atss
          · exact wf_set (by first | omega | (simp only [set_next, new_next]; omega)) (by repeat first | assumption | (refine wf_set (by first | omega | (simp only [set_next, new_next]; omega)) ?_) | (refine wf_new (by first | omega | (simp only [set_next, new_next]; omega)) ?_))
        · refine s_call rfl rfl rfl ca95 ?_
          refine (c95 [125] (st := nxt s s2) hpp).mono ?_
          rintro _ _ ⟨rfl, rfl⟩
          refine back trivial ?_
          rw [hy]
          refine g1 ?_
          refine s_call rfl rfl rfl ca233 ?_
          refine call_r (c233 16 st'.1.pos (by omega) (by omega) (st := nxt s s2) hpp vvv hs) (fun hi' s3 hr hl => back trivial ?_) (fun p x st1 hr => ?_)
          rotate_left
          · apply z_p
            rw [hr] at H; simp only [sbb1, Option.some.injEq] at H; subst H
            exact fin_bad atss
          rw [hr] at H; simp only [sbb] at H
          have hhi := numberP_le hr
          refine g2 ?_ ?_ <;> (repeat intro hb hc)
          · rw [if_pos hc] at H
            simp only [Option.some.injEq] at H
            subst H
            refine s_panic rfl ?_
            refine g1 ?_
            exact fin_bad atss
          · rw [if_neg hc] at H
            refine s_call rfl rfl rfl ca234 ?_
            refine call_r ((c234 [125] (st := s3) hpp vvv hs).args (must_args g [125])) (fun u s4 hr hl => back trivial ?_) (fun p x st1 hr => ?_)
            rotate_left
            · apply z_p
              rw [hr] at H; simp only [sbb1, Option.some.injEq] at H; subst H
              exact fin_bad atss
            rw [hr] at H; simp only [sbb] at H
            refine g1 ?_
            refine l_ns _ _ _ ?_ ?_ (Sub.set (cs' := encP (.mk 6 .zero [] [] lo' hi' [(.mk op' (.mk o2 nm ag vl lb fd kd2) lab reg lo hi kd)])) (.refl (by repeat first | assumption | (refine wf_set (by first | omega | (simp only [set_next, new_next]; omega)) ?_) | (refine wf_new (by first | omega | (simp only [set_next, new_next]; omega)) ?_))) (by first | omega | (simp only [set_next, new_next]; omega)) ?_) ⟨.mk 6 .zero [] [] lo' hi' [(.mk op' (.mk o2 nm ag vl lb fd kd2) lab reg lo hi kd)], s4, by exact vvv, H, ?_, ?_, hs_self, by exact hpp, by first | omega | (simp only [set_next, new_next]; omega), rfl⟩
            · omega
            · exact envv
            · exact wkk
            · exact At.setl (by omega) atss
            · exact wf_set (by first | omega | (simp only [set_next, new_next]; omega)) (by repeat first | assumption | (refine wf_set (by first | omega | (simp only [set_next, new_next]; omega)) ?_) | (refine wf_new (by first | omega | (simp only [set_next, new_next]; omega)) ?_))
      · refine s_call rfl rfl rfl ca93 ?_
        refine (c93_f [44] (st := s2) hpp vvv hs hx).mono ?_
        rintro _ _ ⟨rfl, rfl⟩
        refine back trivial ?_
        refine g1 ?_
        refine s_call rfl rfl rfl ca234 ?_
        refine call_r ((c234 [125] (st := s2) hpp vvv hs).args (must_args g [125])) (fun u s3 hr hl => back trivial ?_) (fun p x st1 hr => ?_)
        rotate_left
        · apply z_p
          rw [hr] at H; simp only [sbb1, Option.some.injEq] at H; subst H
          exact fin_bad atss
        rw [hr] at H; simp only [sbb] at H
        refine g1 ?_
        refine l_ns _ _ _ ?_ ?_ (Sub.set (cs' := encP (.mk 6 .zero [] [] lo' lo' [(.mk op' (.mk o2 nm ag vl lb fd kd2) lab reg lo hi kd)])) (.refl (by repeat first | assumption | (refine wf_set (by first | omega | (simp only [set_next, new_next]; omega)) ?_) | (refine wf_new (by first | omega | (simp only [set_next, new_next]; omega)) ?_))) (by first | omega | (simp only [set_next, new_next]; omega)) ?_) ⟨.mk 6 .zero [] [] lo' lo' [(.mk op' (.mk o2 nm ag vl lb fd kd2) lab reg lo hi kd)], s3, by exact vvv, H, ?_, ?_, hs_self, by exact hpp, by first | omega | (simp only [set_next, new_next]; omega), rfl⟩
        · omega
        · exact envv
        · exact wkk
        · exact At.setl (by omega) atss
        · exact wf_set (by first | omega | (simp only [set_next, new_next]; omega)) (by repeat first | assumption | (refine wf_set (by first | omega | (simp only [set_next, new_next]; omega)) ?_) | (refine wf_new (by first | omega | (simp only [set_next, new_next]; omega)) ?_))
    · refine s_call rfl rfl rfl ca93 ?_
      refine (c93_f [123] (st := st') hpp vvv hs hx).mono ?_
      rintro _ _ ⟨rfl, rfl⟩
      refine back trivial ?_
      refine g1 ?_
      simp only [Option.some.injEq] at H
      subst H
      refine fin_ok atss vvv wkk

theorem pats_ok (hs : s.length ≤ 1000) (hp : PeekOK G s) : ∀ n, n ≤ 100000 → AltOK G s n ∧ SeqOK G s n ∧ RepOK G s n ∧ ItemOK G s n := by
  intro n
  induction n using Nat.strongRecOn with
  | _ n ih =>
    intro hn
    cases n with
    | zero => exact ⟨fun h i st g r _ _ H => by simp [altP] at H, fun h i st g r _ _ H => by simp [seqP] at H, fun h st g r _ _ H => by simp [repP] at H, fun h st g r _ _ H => by simp [itemP] at H⟩
    | succ n =>
      have k := fun m (hm : m ≤ n) => ih m (by omega) (by omega)
      exact ⟨alt_step hs n (by omega) fun m hm => (k m hm).2.1, seq_step hs hp n (by omega) fun m hm => (k m hm).2.2.1, rep_step hs n (k n (Nat.le_refl n)).2.2.2, item_step hs n (by omega) (k n (Nat.le_refl n)).1⟩
end
end Go.Proofs

/- The codes of some functions, tied to the loaded program. No conditions. -/
namespace Go.Proofs
open Go.Abs Go.Abs.I
def r235_0 : L := [o 2 (.alloc 75)]
def r235_1 : L := [o 6 (m (t 0)),
  o 7 (.nilCheck (t 6)),
  o 8 (fa 77 (t 7) 0),
  o 9 (l 9 (t 8)),
  o 10 (m (t 0)),
  o 11 (.nilCheck (t 10)),
  o 12 (fa 77 (t 11) 1),
  o 13 (l 3 (t 12)),
  o 14 (.call ⟨.value (f 157), #[(t 9), (t 13)], #[9, 3]⟩),
  o 5 (m (t 14)),
  o 15 (.extract (t 5) 0),
  o 16 (.extract (t 5) 1),
  o 3 (.alloc 75),
  q (.store 75 (t 3) (t 15)),
  o 4 (a (t 16))]
def r235_2 : L := [o 6 (m (t 0)),
  o 7 (.nilCheck (t 6)),
  o 8 (fa 77 (t 7) 0),
  o 9 (l 9 (t 8)),
  o 10 (m (t 0)),
  o 11 (.nilCheck (t 10)),
  o 12 (fa 77 (t 11) 1),
  o 13 (l 3 (t 12)),
  oc 3 (.alloc 75) [c 13 (l 3 (t 12)), c 9 (l 9 (t 8))],
  o 14 (.call ⟨.value (f 157), #[(t 9), (t 13)], #[9, 3]⟩),
  o 5 (m (t 14)),
  o 15 (.extract (t 5) 0),
  o 16 (.extract (t 5) 1),
  q (.store 75 (t 3) (t 15)),
  o 4 (a (t 16))]
def r235_3 : L := [o 17 (l 75 (t 3)),
  q (.store 75 (t 2) (t 17))]
def ir235 : ACode := .seq (.ops r235_0) (.seq (.two r235_1 r235_2) (.seq (.ops r235_3) (.ret)))
theorem en235 : En ir235 18 [.cell 2 75] 235 := acalls_enter_b mixed Tryz.func235 Tryz.ntmps235 (by kernel_rfl) (by kernel_rfl)
def r70_0 : L := [o 0 (a (.const (.slice none 0 0)))]
def r70_1 : L := [o 1 (.buildSlice 23 4 #[(0, (s #[])), (1, (s #[119, 105, 116, 104, 105, 110])), (2, (s #[99, 111, 110, 116, 97, 105, 110, 105, 110, 103])), (3, (s #[111, 118, 101, 114, 108, 97, 112, 112, 105, 110, 103]))]),
  o 0 (a (t 1))]
def ir70 : ACode := .seq (.ops r70_0) (.seq (.ops r70_1) (.ret))
theorem en70 : En ir70 2 [.tmp 0] 70 := acalls_enter_b mixed Tryz.func70 Tryz.ntmps70 (by kernel_rfl) (by kernel_rfl)
theorem ca70 : Ca 70 := cal Tryz.func70
def r71_0 : L := [o 0 (a (.const (.slice none 0 0)))]
def r71_1 : L := [o 1 (.buildSlice 23 4 #[(0, (s #[101, 97, 99, 104])), (1, (s #[115, 104, 111, 114, 116, 101, 115, 116])), (2, (s #[108, 111, 110, 103, 101, 115, 116])), (3, (s #[116, 114, 97, 100, 105, 116, 105, 111, 110, 97, 108]))]),
  o 0 (a (t 1))]
def ir71 : ACode := .seq (.ops r71_0) (.seq (.ops r71_1) (.ret))
theorem en71 : En ir71 2 [.tmp 0] 71 := acalls_enter_b mixed Tryz.func71 Tryz.ntmps71 (by kernel_rfl) (by kernel_rfl)
theorem ca71 : Ca 71 := cal Tryz.func71
def r36_0 : L := [o 2 (.alloc 38)]
def r36_1 : L := [o 5 (m (t 0)),
  o 6 (.call ⟨.value (f 91), #[(t 5)], #[73]⟩)]
def r36_2 : L := [o 7 (m (t 0)),
  o 8 (.call ⟨.value (f 92), #[(t 7), (b false)], #[73, 4]⟩),
  o 9 (.build 38 #[(0, (t 8))]),
  o 3 (.alloc 38),
  q (.store 38 (t 3) (t 9))]
def r36_3 : L := [o 10 (m (t 0)),
  o 11 (.call ⟨.value (f 93), #[(t 10), (s #[58, 58])], #[73, 9]⟩)]
def r36_4 : L := [o 12 (m (t 0)),
  o 13 (.call ⟨.value (f 94), #[(t 12)], #[73]⟩),
  o 14 (fa 38 (t 3) 1),
  q (.store 35 (t 14) (t 13))]
def r36_5 : L := [o 15 (m (t 0)),
  o 16 (.call ⟨.value (f 95), #[(t 15), (s #[33])], #[73, 9]⟩),
  o 17 (m (t 16)),
  y 18 (m (t 0)) 17 false,
  y 19 (.call ⟨.value (f 70), #[], #[]⟩) 17 false,
  y 20 (.call ⟨.value (f 96), #[(t 18), (t 19)], #[73, 23]⟩) 17 false,
  o 21 (.pick (t 17) (b true) (t 20))]
def r36_6 : L := [o 22 (m (t 0)),
  o 23 (.call ⟨.value (f 93), #[(t 22), (s #[33])], #[73, 9]⟩),
  o 24 (.build 62 #[(1, (t 23))]),
  o 4 (.alloc 62),
  q (.store 62 (t 4) (t 24))]
def r36_7 : L := [o 26 (m (t 0)),
  o 27 (.nilCheck (t 26)),
  o 28 (fa 77 (t 27) 2),
  o 29 (fa 75 (t 28) 1),
  o 30 (l 9 (t 29)),
  oc 25 (.call ⟨.value (f 70), #[], #[]⟩) [c 30 (l 9 (t 29))],
  o 31 (.call ⟨.value (f 97), #[(t 25), (t 30)], #[23, 9]⟩),
  o 32 (fa 62 (t 4) 0),
  q (.store 3 (t 32) (t 31))]
def r36_8 : L := [o 33 (m (t 0)),
  o 34 (.nilCheck (t 33)),
  o 35 (fa 77 (t 34) 2),
  o 36 (fa 75 (t 35) 0),
  o 37 (l 3 (t 36)),
  o 38 (.binOp .neq 3 (t 37) (k 2) 3),
  o 39 (m (t 38)),
  y 40 (fa 62 (t 4) 0) 39 false,
  y 41 (l 3 (t 40)) 39 false,
  y 42 (.binOp .lss 3 (t 41) (k 1) 3) 39 false,
  o 43 (.pick (t 39) (b true) (t 42))]
def r36_9 : L := [o 44 (m (t 0)),
  o 45 (.call ⟨.value (f 98), #[(t 44)], #[73]⟩)]
def r36_10 : L := [o 46 (m (t 0)),
  o 47 (.call ⟨.value (f 91), #[(t 46)], #[73]⟩)]
def r36_11 : L := [o 48 (m (t 0)),
  o 49 (.call ⟨.value (f 99), #[(t 48)], #[73]⟩),
  o 50 (fa 62 (t 4) 2),
  q (.store 9 (t 50) (t 49))]
def r36_12 : L := [o 51 (fa 38 (t 3) 2),
  o 52 (l 36 (t 51)),
  o 53 (l 62 (t 4)),
  o 54 (.buildSlice 36 1 #[(0, (t 53))]),
  o 55 (.call ⟨.builtin .append, #[(t 52), (t 54)], #[36, 36]⟩),
  o 56 (fa 38 (t 3) 2),
  q (.store 36 (t 56) (t 55))]
def r36_13 : L := [o 57 (m (t 0)),
  o 58 (.buildSlice 23 1 #[(0, (s #[115, 116, 114, 97, 116, 101, 103, 121]))]),
  o 59 (.call ⟨.value (f 96), #[(t 57), (t 58)], #[73, 23]⟩)]
def r36_14 : L := [o 60 (m (t 0)),
  o 61 (.call ⟨.value (f 91), #[(t 60)], #[73]⟩)]
def r36_15 : L := [o 62 (m (t 0)),
  o 63 (.call ⟨.value (f 71), #[], #[]⟩),
  o 64 (.call ⟨.value (f 96), #[(t 62), (t 63)], #[73, 23]⟩),
  o 65 (.unOp .not 4 (t 64))]
def r36_16 : L := [o 66 (m (t 0)),
  o 67 (.call ⟨.value (f 98), #[(t 66)], #[73]⟩)]
def r36_17 : L := [o 68 (.call ⟨.value (f 71), #[], #[]⟩),
  o 69 (m (t 0)),
  o 70 (.call ⟨.value (f 99), #[(t 69)], #[73]⟩),
  o 71 (.call ⟨.value (f 97), #[(t 68), (t 70)], #[23, 9]⟩),
  o 72 (fa 38 (t 3) 3),
  q (.store 3 (t 72) (t 71))]
def r36_18 : L := [o 73 (m (t 0)),
  o 74 (.nilCheck (t 73)),
  o 75 (fa 77 (t 74) 2),
  o 76 (fa 75 (t 75) 0),
  o 77 (l 3 (t 76)),
  o 78 (.binOp .neq 3 (t 77) (k 0) 3)]
def r36_19 : L := [o 79 (m (t 0)),
  o 80 (.call ⟨.value (f 98), #[(t 79)], #[73]⟩)]
def r36_20 : L := [o 81 (l 38 (t 3)),
  q (.store 38 (t 2) (t 81))]
def ir36 : ACode := .seq (.ops r36_0) (.seq (.ops r36_1) (.seq (.ops r36_2) (.seq (.seq (.ops r36_3) (.cond (t 11) (.ops r36_4) (.skip))) (.seq (.block 0 (.loop (.seq (.seq (.ops r36_5) (.cond (t 21) (.skip) (.exit 0))) (.block 1 (.seq (.ops r36_6) (.seq (.seq (.ops r36_7) (.seq (.ops r36_8) (.cond (t 43) (.ops r36_9) (.skip)))) (.seq (.ops r36_10) (.seq (.ops r36_11) (.ops r36_12))))))))) (.seq (.seq (.ops r36_13) (.cond (t 59) (.seq (.ops r36_14) (.seq (.seq (.ops r36_15) (.cond (t 65) (.ops r36_16) (.skip))) (.ops r36_17))) (.skip))) (.seq (.seq (.ops r36_18) (.cond (t 78) (.ops r36_19) (.skip))) (.seq (.ops r36_20) (.ret))))))))
theorem en36 : En ir36 82 [.cell 2 38] 36 := acalls_enter_b mixed Tryz.func36 Tryz.ntmps36 (by kernel_rfl) (by kernel_rfl)
theorem ca36 : Ca 36 := cal Tryz.func36
end Go.Proofs

/- The token behind this one; the words. No conditions. -/
namespace Go.Proofs
open Go.Abs Go.Q
attribute [local irreducible] awp aops Run BodyQ ACalls Back
section
variable {G : Nat → Option Obj} {h : AHeap} {s : Str} {st : S} {g : Nat}

set_option maxHeartbeats 1000000 in
theorem peek_ok (hs : s.length ≤ 1000) : PeekOK G s := by
  intro h st g hg hst
  refine ACalls.fin (en235 (by simp) fun hw => ?_)
  have hgl := hw g _ hg
  refine g1 ?_
  refine s_alloc (tt rfl) fun b1 hb1 => ⟨trivial, ?_⟩
  try simp only [set_next, new_next] at hb1
  refine g1 ?_
  refine w_two ?_ ?_
  · refine g1 ?_
    refine s_call rfl rfl rfl ca157 ?_
    refine (c157 s st.2 hst.le hs).mono ?_
    rintro _ _ ⟨rfl, rfl⟩
    refine back trivial ?_
    refine g1 ?_
    refine s_alloc (tt rfl) fun b2 hb2 => ⟨trivial, ?_⟩
    try simp only [set_next, new_next] at hb2
    refine g1 ?_
    exact fin_sub (.setl (.setl (.new (.new (.refl hw) hb1 _) (by first | omega | (simp only [new_next]; omega)) _) (by first | omega | (simp only [new_next]; omega)) _) hb1 _) (.ret _ _ (.refl _)) ⟨rfl, rfl⟩
  · refine g1 ?_
    have hgx : ∀ b2, (h.new b1 (.box 75 [.int .i64 0, .str [], .int .i64 0])).next ≤ b2 → ((h.new b1 (.box 75 [.int .i64 0, .str [], .int .i64 0])).new b2 (.box 75 [.int .i64 0, .str [], .int .i64 0])).get g = some (.box 77 [.str s, .int .i64 st.2, .int .i64 st.1.kind, .str st.1.text, .int .i64 st.1.pos]) := fun b2 hb2 => by
      simp only [new_next] at hb2
      exact hpp
    refine s_alloc (tt rfl) fun b2 hb2 => ⟨⟨rk_load (tt rfl) rfl rfl (hgx b2 hb2) rfl rfl rfl, rk_load (tt rfl) rfl rfl (hgx b2 hb2) rfl rfl rfl, trivial⟩, ?_⟩
    simp only [new_next] at hb2
    refine s_call rfl rfl rfl ca157 ?_
    refine (c157 s st.2 hst.le hs).mono ?_
    rintro _ _ ⟨rfl, rfl⟩
    refine back trivial ?_
    refine g1 ?_
    exact fin_sub (.setl (.setl (.new (.new (.refl hw) hb1 _) (by first | omega | (simp only [new_next]; omega)) _) (by first | omega | (simp only [new_next]; omega)) _) hb1 _) (.ret _ _ (.refl _)) ⟨rfl, rfl⟩

theorem c70 : ACalls Tryz.prog G 70 [] h (Gives (.sl 1 (encSs filterWords) .frz) h) := by
  refine ACalls.fin (en70 (by simp) fun hw => ?_)
  refine g1 ?_
  exact fin_sub (.refl hw) (.ret _ _ weak_frz) ⟨rfl, rfl⟩
theorem c71 : ACalls Tryz.prog G 71 [] h (Gives (.sl 1 (encSs strategyWords) .frz) h) := by
  refine ACalls.fin (en71 (by simp) fun hw => ?_)
  refine g1 ?_
  exact fin_sub (.refl hw) (.ret _ _ weak_frz) ⟨rfl, rfl⟩
end
end Go.Proofs
