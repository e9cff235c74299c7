/- The token behind this one; the words. No conditions. -/
import Derived.Test.YtjnkbjloabnopaaGreatDoorZ18
namespace Go.Proofs
open Go.Abs Go.Q
attribute [local irreducible] awp aops Run BodyQ ACalls Back
section
variable {G : Nat → Option Obj} {h : AHeap} {s : Str} {st : S} {g : Nat}

set_option maxHeartbeats 1000000 in
theorem peek_ok (hs : s.length ≤ 1000) : PeekOK G s := by
  intro h st g hg hst
  refine ACalls.fin (en235 (by simp) fun hw => ?_)
  have hgl := hw g _ hg
  refine g1 ?_
  refine s_alloc (tt rfl) fun b1 hb1 => ⟨trivial, ?_⟩
  try simp only [set_next, new_next] at hb1
  refine g1 ?_
  refine w_two ?_ ?_
  · refine g1 ?_
    refine s_call rfl rfl rfl ca157 ?_
    refine (c157 s st.2 hst.le hs).mono ?_
    rintro _ _ ⟨rfl, rfl⟩
    refine back trivial ?_
    refine g1 ?_
    refine s_alloc (tt rfl) fun b2 hb2 => ⟨trivial, ?_⟩
    try simp only [set_next, new_next] at hb2
    refine g1 ?_
    exact fin_sub (.setl (.setl (.new (.new (.refl hw) hb1 _) (by first | omega | (simp only [new_next]; omega)) _) (by first | omega | (simp only [new_next]; omega)) _) hb1 _) (.ret _ _ (.refl _)) ⟨rfl, rfl⟩
  · refine g1 ?_
    have hgx : ∀ b2, (h.new b1 (.box 75 [.int .i64 0, .str [], .int .i64 0])).next ≤ b2 → ((h.new b1 (.box 75 [.int .i64 0, .str [], .int .i64 0])).new b2 (.box 75 [.int .i64 0, .str [], .int .i64 0])).get g = some (.box 77 [.str s, .int .i64 st.2, .int .i64 st.1.kind, .str st.1.text, .int .i64 st.1.pos]) := fun b2 hb2 => by
      simp only [new_next] at hb2
      exact hpp
    refine s_alloc (tt rfl) fun b2 hb2 => ⟨⟨rk_load (tt rfl) rfl rfl (hgx b2 hb2) rfl rfl rfl, rk_load (tt rfl) rfl rfl (hgx b2 hb2) rfl rfl rfl, trivial⟩, ?_⟩
    simp only [new_next] at hb2
    refine s_call rfl rfl rfl ca157 ?_
    refine (c157 s st.2 hst.le hs).mono ?_
    rintro _ _ ⟨rfl, rfl⟩
    refine back trivial ?_
    refine g1 ?_
    exact fin_sub (.setl (.setl (.new (.new (.refl hw) hb1 _) (by first | omega | (simp only [new_next]; omega)) _) (by first | omega | (simp only [new_next]; omega)) _) hb1 _) (.ret _ _ (.refl _)) ⟨rfl, rfl⟩

theorem c70 : ACalls Tryz.prog G 70 [] h (Gives (.sl 1 (encSs filterWords) .frz) h) := by
  refine ACalls.fin (en70 (by simp) fun hw => ?_)
  refine g1 ?_
  exact fin_sub (.refl hw) (.ret _ _ weak_frz) ⟨rfl, rfl⟩
theorem c71 : ACalls Tryz.prog G 71 [] h (Gives (.sl 1 (encSs strategyWords) .frz) h) := by
  refine ACalls.fin (en71 (by simp) fun hw => ?_)
  refine g1 ?_
  exact fin_sub (.refl hw) (.ret _ _ weak_frz) ⟨rfl, rfl⟩
end
end Go.Proofs

/- The whole query, read by the reader. No conditions. -/
namespace Go.Proofs
open Go.Abs Go.Q
attribute [local irreducible] awp aops Run BodyQ ACalls Back
section
variable {G : Nat → Option Obj} {h : AHeap} {s : Str} {st : S} {g : Nat}

theorem c91z (hg : h.get g = some (rdr s st)) (hst : st.2 ≤ s.length) (hs : s.length ≤ 1000) : ACalls Tryz.prog G 91 [.ptr g 0] h (fun out h' => out = .ret (.tuple []) ∧ h' = h.set g (rdr s (nxt s st))) := by
  refine en91 (by simp) fun hw => ?_
  repeat first | (apply s_gen @tt; exact rfl; exact rfl; first | exact trivial | omega | (simp <;> omega)) | apply w_seq | apply w_ops | apply s_nil | apply x_n | apply w_skip | apply w_ret | apply w_block | (apply w_exit; exact rfl) | apply b_n | apply x_p | apply x_0 | (apply s_loadp (gd := none); exact rfl; exact tt rfl; exact rfl; exact hpp; exact rfl; exact rfl; exact fun _ => rfl) | (refine s_store (tt rfl) rfl rfl hpp rfl rfl rfl rfl ⟨trivial, ?_⟩) | (apply g_t; exact rfl; (first | assumption | with_reducible rfl | decide)) | (apply g_f; exact rfl; (first | assumption | with_reducible rfl | decide); exact trivial) | (apply g_u; exact rfl; exact trivial) | (apply s_pick_t (gd := none); exact rfl; exact rfl; (first | assumption | with_reducible rfl | decide); exact rfl; exact rfl) | (apply s_pick_f (gd := none); exact rfl; exact rfl; (first | assumption | with_reducible rfl | decide); exact rfl; exact rfl) | (apply w_cond_t; exact rfl; (first | assumption | with_reducible rfl | decide)) | (apply w_cond_f; exact rfl; (first | assumption | with_reducible rfl | decide)) | (apply z_1; exact rfl) | (apply z_2; exact rfl; exact rfl) | (apply z_3; exact rfl; exact rfl; exact rfl) | (apply z_ct; exact rfl; exact tt rfl; exact hpp; exact rfl; exact rfl; exact rfl) | (apply z_c; exact rfl; exact tt rfl; exact hpp; exact rfl; exact rfl) | apply z_0r | apply z_0n | apply z_p | (apply s_sub8; exact rfl; exact rfl; exact rfl; omega; exact fun _ => rfl) | (apply s_conv64; exact rfl; exact tt rfl; exact tt rfl; exact rfl; omega; exact fun _ => rfl) | (apply s_bin; exact rfl; exact rfl; exact rfl; exact rfl; exact fun _ => rfl; exact fun _ => trivial) | (apply s_conv_int; exact rfl; exact tt rfl; exact tt rfl; exact rfl; exact fun _ => rfl)
  refine s_call rfl rfl rfl ca157 ?_
  refine (c157 s st.2 hst hs).mono ?_
  rintro _ _ ⟨rfl, rfl⟩
  refine back trivial ?_
  repeat first | (apply s_gen @tt; exact rfl; exact rfl; first | exact trivial | omega | (simp <;> omega)) | apply w_seq | apply w_ops | apply s_nil | apply x_n | apply w_skip | apply w_ret | apply w_block | (apply w_exit; exact rfl) | apply b_n | apply x_p | apply x_0 | (apply s_loadp (gd := none); exact rfl; exact tt rfl; exact rfl; exact hpp; exact rfl; exact rfl; exact fun _ => rfl) | (refine s_store (tt rfl) rfl rfl hpp rfl rfl rfl rfl ⟨trivial, ?_⟩) | (apply g_t; exact rfl; (first | assumption | with_reducible rfl | decide)) | (apply g_f; exact rfl; (first | assumption | with_reducible rfl | decide); exact trivial) | (apply g_u; exact rfl; exact trivial) | (apply s_pick_t (gd := none); exact rfl; exact rfl; (first | assumption | with_reducible rfl | decide); exact rfl; exact rfl) | (apply s_pick_f (gd := none); exact rfl; exact rfl; (first | assumption | with_reducible rfl | decide); exact rfl; exact rfl) | (apply w_cond_t; exact rfl; (first | assumption | with_reducible rfl | decide)) | (apply w_cond_f; exact rfl; (first | assumption | with_reducible rfl | decide)) | (apply z_1; exact rfl) | (apply z_2; exact rfl; exact rfl) | (apply z_3; exact rfl; exact rfl; exact rfl) | (apply z_ct; exact rfl; exact tt rfl; exact hpp; exact rfl; exact rfl; exact rfl) | (apply z_c; exact rfl; exact tt rfl; exact hpp; exact rfl; exact rfl) | apply z_0r | apply z_0n | apply z_p | (apply s_sub8; exact rfl; exact rfl; exact rfl; omega; exact fun _ => rfl) | (apply s_conv64; exact rfl; exact tt rfl; exact tt rfl; exact rfl; omega; exact fun _ => rfl) | (apply s_bin; exact rfl; exact rfl; exact rfl; exact rfl; exact fun _ => rfl; exact fun _ => trivial) | (apply s_conv_int; exact rfl; exact tt rfl; exact tt rfl; exact rfl; exact fun _ => rfl)
  exact ⟨rfl, by rw [set_set]; rfl⟩

abbrev encQa (q : Qry) : AVal := .agg (encQ q)
abbrev zQ : List AVal := zP ++ (zG ++ [.sl 0 [] .nl, .int .i64 0])






set_option maxHeartbeats 4000000 in
set_option maxRecDepth 10000 in
theorem c36 (hs : s.length ≤ 1000) (n : Nat) (hn : n ≤ 100000) (r : R Qry) (hg : h.get g = some (rdr s (⟨0, [], 0⟩, 0))) (H : queryP s n = some r) : ACalls Tryz.prog G 36 [.ptr g 0] h (RP s g h encQa r) := by
  refine ACalls.fin (en36 (by simp) fun hw => ?_)
  have hgl := hw g _ hg
  have hst0 : V s (lexAt s 0) := ⟨0, Nat.zero_le _, rfl⟩
  unfold queryP at H
  refine g1 ?_
  refine s_alloc (tt rfl) fun b1 hb1 => ⟨trivial, ?_⟩
  try simp only [set_next, new_next] at hb1
  refine g1 ?_
  refine s_call rfl rfl rfl ca91 ?_
  refine (c91z (st := (⟨0, [], 0⟩, 0)) hpp (Nat.zero_le _) hs).mono ?_
  rintro _ _ ⟨rfl, rfl⟩
  refine back trivial ?_
  refine g1 ?_
  refine s_call rfl rfl rfl ca92 ?_
  refine call_o (bindO_ne H) (fun r1 hr => (pats_ok hs (peek_ok hs) n hn).1 _ false (lexAt s 0) _ _ hpp hst0 hr) (fun p s1 hr hl => back trivial ?_) (fun p x st1 hr => ?_)
  rotate_left
  · apply z_p
    rw [hr] at H; simp only [sbb1, Option.some.injEq] at H; subst H
    exact fin_bad atss
  rw [hr] at H; simp only [sbb] at H
  obtain ⟨op', ⟨o2, nm', ag, vl, lb, fd, kd2⟩, lab, reg, lo, hi, kd⟩ := p
  refine g1 ?_
  refine s_alloc (tt rfl) fun b2 hb2 => ⟨trivial, ?_⟩
  try simp only [set_next, new_next] at hb2
  refine g1 ?_
  rcases Bool.eq_false_or_eq_true (isSign [58, 58] s1) with hx | hx <;> simp only [hx, sbb] at H
  · refine s_call rfl rfl rfl ca93 ?_
    refine (c93_t [58, 58] (st := s1) hpp vvv hs hx).mono ?_
    rintro _ _ ⟨rfl, rfl⟩
    refine back trivial ?_
    refine g1 ?_
    refine s_call rfl rfl rfl ca94 ?_
    refine call_o (bindO_ne H) (fun r1 hr => c94 (st := nxt s s1) hs hn hpp vvv hr) (fun gl s2 hr hl => back trivial ?_) (fun p x st1 hr => ?_)
    rotate_left
    · apply z_p
      rw [hr] at H; simp only [sbb1, Option.some.injEq] at H; subst H
      exact fin_bad atss
    rw [hr] at H; simp only [sbb] at H
    obtain ⟨gop, ga, gb, gn, garg, gv, gf, glo, ghi, gargs, gkd⟩ := gl
    refine g1 ?_
    refine w_loop (fun e h' k => ∃ (acc : List Flt) (st' : S) (tg : Tag) (sz : Nat), V s st' ∧ bindO (filtersL s k acc st') (fun fs st => bindO (some (strategyP s st)) fun k st => if st.1.kind = 0 then some (.ok ⟨.mk op' (.mk o2 nm' ag vl lb fd kd2) lab reg lo hi kd, .mk gop ga gb gn garg gv gf glo ghi gargs gkd, fs, k⟩ st) else some (.bad st.1.pos 3)) = some r ∧ (sz = 3 ∨ (acc = [] ∧ tg = .nl)) ∧ acc.length + k ≤ n ∧ At h g (rdr s st') h' ∧ Room (nx (b2 + 1)) h' 62 (acc.length * 3) tg ∧
        h'.get b2 = some (.box 38 (encP (.mk op' (.mk o2 nm' ag vl lb fd kd2) lab reg lo hi kd) ++ (encG (.mk gop ga gb gn garg gv gf glo ghi gargs gkd) ++ [.sl sz (encFs acc) tg, .int .i64 0]))) ∧ h'.get b1 = some (.box 38 zQ) ∧ b2 + 1 ≤ h'.next ∧
        e = [(0, true, .ptr g 0), (2, true, .ptr b1 0), (3, true, .ptr b2 0)])
      _ _ (.cons rfl (.cons rfl (.cons rfl (.nil _)))) ⟨[], s2, .nl, 0, by exact vvv, H, .inr ⟨rfl, rfl⟩, by simp, by exact atss, trivial, by exact hpp, by exact hpp, by simp [set_next, new_next], rfl⟩ ?_
    rintro _ h' k ⟨acc, st', tg, sz, hv, H, hsz, hak, hat, hroom, hbx, hbz, hnx, rfl⟩
    cases k with
    | zero => simp only [filtersL, bindO] at H; cases H
    | succ k =>
      simp only [filtersL] at H
      have hgx := hat.get
      have hlen : (encFs acc).length = acc.length := List.length_map ..
      refine g1 ?_
      rcases Bool.eq_false_or_eq_true (isSign [33] st') with hx | hx <;> simp only [hx, sbb1, Bool.true_or, Bool.false_or] at H
      · refine s_call rfl rfl rfl ca95 ?_
        refine (c95 [33] (st := st') hpp).mono ?_
        rintro _ _ ⟨rfl, rfl⟩
        refine back trivial ?_
        rw [hx]
        refine g1 ?_
        refine s_call rfl rfl rfl ca93 ?_
        refine (c93_t [33] (st := st') hpp vvv hs hx).mono ?_
        rintro _ _ ⟨rfl, rfl⟩
        refine back trivial ?_
        refine g1 ?_
        obtain ⟨st2, hst2⟩ : ∃ x, x = nxt s st' := ⟨_, rfl⟩
        have hv2 : V s st2 := by rw [hst2]; exact hv.next
        rw [← hst2] at H ⊢
        refine s_alloc (tt rfl) fun b3 hb3 => ⟨trivial, ?_⟩
        try simp only [set_next, new_next] at hb3
        refine g1 ?_
        refine s_call rfl rfl rfl ca70 ?_
        refine c70.mono ?_
        rintro _ _ ⟨rfl, rfl⟩
        refine back ⟨rk_load (T' := 77) (cs := [.str s, .int .i64 st2.2, .int .i64 st2.1.kind, .str st2.1.text, .int .i64 st2.1.pos]) (tt rfl) rfl rfl (show _ = some (rdr s st2) by exact hpp) rfl rfl rfl, trivial⟩ ?_
        refine s_call rfl rfl rfl ca97 ?_
        refine (c97 filterWords st2.1.text (by decide)).mono ?_
        rintro _ _ ⟨rfl, rfl⟩
        refine back trivial ?_
        refine g3 ?_ ?_ ?_ <;> intros
        · rw [if_pos (by omega)] at H
          simp only [sbb1, Option.some.injEq] at H
          subst H
          refine s_call rfl rfl rfl ca98 ?_
          refine (c98 (st := st2) hpp).mono ?_
          rintro _ _ ⟨rfl, rfl⟩
          refine back_p ?_
          refine g1 ?_
          exact fin_bad atss
        · rw [if_neg (by omega), bindO_assoc] at H
          refine s_call rfl rfl rfl ca91 ?_
          refine (c91 (st := st2) hpp hv2 hs).mono ?_
          rintro _ _ ⟨rfl, rfl⟩
          refine back trivial ?_
          refine g1 ?_
          refine s_call rfl rfl rfl ca99 ?_
          refine call_o (bindO_ne H) (fun r1 hr => (Option.some.inj hr) ▸ c99 (st := nxt s st2) hpp vvv hs) (fun nm s3 hr hl => back trivial ?_) (fun p x st1 hr => ?_)
          rotate_left
          · apply z_p
            rw [hr] at H; simp only [sbb1, Option.some.injEq] at H; subst H
            exact fin_bad atss
          rw [hr] at H; simp only [sbb] at H
          refine g1 ?_
          have hgb : g < (nx (b2 + 1)).next := by show g < b2 + 1; omega
          have hne : b3 ≠ g := by omega
          refine s_append (nx (b2 + 1)) rfl rfl (tt rfl) (tt rfl) rfl (hsz.imp id (·.2)) (by simp only [set_next, new_next]; omega) (append_room (by first | exact Room.setb (Room.set (Room.set (Room.setb (Room.setb (Room.new (Room.set hroom hgb) hb3) hn_self) hs_self) hgb) hgb) (hs_ne hne (hs_ne hne hs_self)) | exact Room.setb (Room.set (Room.set (Room.setb (Room.setb (Room.new hroom hb3) hn_self) hs_self) hgb) hgb) (hs_ne hne (hs_ne hne hs_self))) (by rw [hlen])) (by simp only [hlen, List.length_cons, List.length_nil]; omega) fun tg' h2 hr2 hx2 => ⟨trivial, ?_⟩
          have k1 : h2.get b2 = some (.box 38 (encP (.mk op' (.mk o2 nm' ag vl lb fd kd2) lab reg lo hi kd) ++ (encG (.mk gop ga gb gn garg gv gf glo ghi gargs gkd) ++ [.sl sz (encFs acc) tg, .int .i64 0]))) := by
            rw [hx2.get b2 (show b2 < b2 + 1 by omega)]; exact hpp
          have k2 : h2.get b1 = some (.box 38 zQ) := by
            rw [hx2.get b1 (show b1 < b2 + 1 by omega)]; exact hpp
          have k3 : At h g (rdr s s3) h2 := by
            refine At.ext ?_ (Ext.le (h1 := h) (show h.next ≤ b2 + 1 by omega) hx2)
            exact atss
          have k4 := hx2.next
          simp only [set_next, new_next] at k4
          refine g1 ?_
          refine l_n _ _ ?_ ?_ ⟨acc ++ [⟨wordNo filterWords st2.1.text, _, nm⟩], s3, tg', 3, by exact vvv, H, .inl rfl, by simp; omega, .setl (by omega) k3, ?_, ?_, ?_, by simp only [set_next]; omega, rfl⟩
          · omega
          · exact envv
          · exact append_room (Room.set hr2 (show b2 < b2 + 1 by omega)) (by simp [hlen])
          · rw [hs_self]
            simp [setCells, encFs, encF, AVal.cells, encP, encG, encC]
          · exact hpp
        · rw [if_pos (by omega)] at H
          simp only [sbb1, Option.some.injEq] at H
          subst H
          refine s_call rfl rfl rfl ca98 ?_
          refine (c98 (st := st2) hpp).mono ?_
          rintro _ _ ⟨rfl, rfl⟩
          refine back_p ?_
          refine g1 ?_
          exact fin_bad atss
      · refine s_call rfl rfl rfl ca95 ?_
        refine (c95 [33] (st := st') hpp).mono ?_
        rintro _ _ ⟨rfl, rfl⟩
        refine back trivial ?_
        rw [hx]
        refine g1 ?_
        refine s_call rfl rfl rfl ca70 ?_
        refine (c70).mono ?_
        rintro _ _ ⟨rfl, rfl⟩
        refine back trivial ?_
        refine g1 ?_
        refine s_call rfl rfl rfl ca96 ?_
        refine (c96 (st := st') filterWords (by decide) hpp).mono ?_
        rintro _ _ ⟨rfl, rfl⟩
        refine back trivial ?_
        rcases Bool.eq_false_or_eq_true (isWord filterWords st') with hy | hy <;> simp only [hy, sbb] at H
        · rw [hy]
          refine g1 ?_
          refine s_call rfl rfl rfl ca93 ?_
          refine (c93_f [33] (st := st') hpp vvv hs hx).mono ?_
          rintro _ _ ⟨rfl, rfl⟩
          refine back trivial ?_
          refine g1 ?_
          obtain ⟨st2, hst2⟩ : ∃ x, x = st' := ⟨_, rfl⟩
          have hv2 : V s st2 := by rw [hst2]; exact hv
          rw [← hst2] at H
          rw [← hst2] at hgx hat
          refine s_alloc (tt rfl) fun b3 hb3 => ⟨trivial, ?_⟩
          try simp only [set_next, new_next] at hb3
          refine g1 ?_
          refine s_call rfl rfl rfl ca70 ?_
          refine c70.mono ?_
          rintro _ _ ⟨rfl, rfl⟩
          refine back ⟨rk_load (T' := 77) (cs := [.str s, .int .i64 st2.2, .int .i64 st2.1.kind, .str st2.1.text, .int .i64 st2.1.pos]) (tt rfl) rfl rfl (show _ = some (rdr s st2) by exact hpp) rfl rfl rfl, trivial⟩ ?_
          refine s_call rfl rfl rfl ca97 ?_
          refine (c97 filterWords st2.1.text (by decide)).mono ?_
          rintro _ _ ⟨rfl, rfl⟩
          refine back trivial ?_
          refine g3 ?_ ?_ ?_ <;> intros
          · rw [if_pos (by omega)] at H
            simp only [sbb1, Option.some.injEq] at H
            subst H
            refine s_call rfl rfl rfl ca98 ?_
            refine (c98 (st := st2) hpp).mono ?_
            rintro _ _ ⟨rfl, rfl⟩
            refine back_p ?_
            refine g1 ?_
            exact fin_bad atss
          · rw [if_neg (by omega), bindO_assoc] at H
            refine s_call rfl rfl rfl ca91 ?_
            refine (c91 (st := st2) hpp hv2 hs).mono ?_
            rintro _ _ ⟨rfl, rfl⟩
            refine back trivial ?_
            refine g1 ?_
            refine s_call rfl rfl rfl ca99 ?_
            refine call_o (bindO_ne H) (fun r1 hr => (Option.some.inj hr) ▸ c99 (st := nxt s st2) hpp vvv hs) (fun nm s3 hr hl => back trivial ?_) (fun p x st1 hr => ?_)
            rotate_left
            · apply z_p
              rw [hr] at H; simp only [sbb1, Option.some.injEq] at H; subst H
              exact fin_bad atss
            rw [hr] at H; simp only [sbb] at H
            refine g1 ?_
            have hgb : g < (nx (b2 + 1)).next := by show g < b2 + 1; omega
            have hne : b3 ≠ g := by omega
            refine s_append (nx (b2 + 1)) rfl rfl (tt rfl) (tt rfl) rfl (hsz.imp id (·.2)) (by simp only [set_next, new_next]; omega) (append_room (by first | exact Room.setb (Room.set (Room.set (Room.setb (Room.setb (Room.new (Room.set hroom hgb) hb3) hn_self) hs_self) hgb) hgb) (hs_ne hne (hs_ne hne hs_self)) | exact Room.setb (Room.set (Room.set (Room.setb (Room.setb (Room.new hroom hb3) hn_self) hs_self) hgb) hgb) (hs_ne hne (hs_ne hne hs_self))) (by rw [hlen])) (by simp only [hlen, List.length_cons, List.length_nil]; omega) fun tg' h2 hr2 hx2 => ⟨trivial, ?_⟩
            have k1 : h2.get b2 = some (.box 38 (encP (.mk op' (.mk o2 nm' ag vl lb fd kd2) lab reg lo hi kd) ++ (encG (.mk gop ga gb gn garg gv gf glo ghi gargs gkd) ++ [.sl sz (encFs acc) tg, .int .i64 0]))) := by
              rw [hx2.get b2 (show b2 < b2 + 1 by omega)]; exact hpp
            have k2 : h2.get b1 = some (.box 38 zQ) := by
              rw [hx2.get b1 (show b1 < b2 + 1 by omega)]; exact hpp
            have k3 : At h g (rdr s s3) h2 := by
              refine At.ext ?_ (Ext.le (h1 := h) (show h.next ≤ b2 + 1 by omega) hx2)
              exact atss
            have k4 := hx2.next
            simp only [set_next, new_next] at k4
            refine g1 ?_
            refine l_n _ _ ?_ ?_ ⟨acc ++ [⟨wordNo filterWords st2.1.text, _, nm⟩], s3, tg', 3, by exact vvv, H, .inl rfl, by simp; omega, .setl (by omega) k3, ?_, ?_, ?_, by simp only [set_next]; omega, rfl⟩
            · omega
            · exact envv
            · exact append_room (Room.set hr2 (show b2 < b2 + 1 by omega)) (by simp [hlen])
            · rw [hs_self]
              simp [setCells, encFs, encF, AVal.cells, encP, encG, encC]
            · exact hpp
          · rw [if_pos (by omega)] at H
            simp only [sbb1, Option.some.injEq] at H
            subst H
            refine s_call rfl rfl rfl ca98 ?_
            refine (c98 (st := st2) hpp).mono ?_
            rintro _ _ ⟨rfl, rfl⟩
            refine back_p ?_
            refine g1 ?_
            exact fin_bad atss
        · rw [hy]
          refine g1 ?_
          refine s_call rfl rfl rfl ca96 ?_
          refine ((c96 (st := st') [[115, 116, 114, 97, 116, 101, 103, 121]] (by decide) hpp).args (.cons (.refl _) (.cons weak_frz .nil))).mono ?_
          rintro _ _ ⟨rfl, rfl⟩
          refine back trivial ?_
          unfold strategyP at H
          rcases Bool.eq_false_or_eq_true (isWord [[115, 116, 114, 97, 116, 101, 103, 121]] st') with hz | hz <;> simp only [hz, sbb] at H
          · rw [hz]
            refine g1 ?_
            refine s_call rfl rfl rfl ca91 ?_
            refine (c91 (st := st') hpp hv hs).mono ?_
            rintro _ _ ⟨rfl, rfl⟩
            refine back trivial ?_
            refine g1 ?_
            refine s_call rfl rfl rfl ca71 ?_
            refine (c71).mono ?_
            rintro _ _ ⟨rfl, rfl⟩
            refine back trivial ?_
            refine g1 ?_
            refine s_call rfl rfl rfl ca96 ?_
            refine (c96 (st := nxt s st') strategyWords (by decide) hpp).mono ?_
            rintro _ _ ⟨rfl, rfl⟩
            refine back trivial ?_
            rcases Bool.eq_false_or_eq_true (isWord strategyWords (nxt s st')) with hu | hu <;> simp only [hu, sbb] at H
            · rw [hu]
              refine g1 ?_
              refine s_call rfl rfl rfl ca71 ?_
              refine (c71).mono ?_
              rintro _ _ ⟨rfl, rfl⟩
              refine back trivial ?_
              refine g1 ?_
              have hkk : (nxt s st').1.kind = 2 := by simp only [isWord, Bool.and_eq_true, beq_iff_eq] at hu; omega
              have hvn : V s (nxt s st') := hv.next
              have htx : textP s 2 (nxt s st') = .ok (nxt s st').1.text (nxt s (nxt s st')) := by unfold textP; rw [if_pos hkk]
              refine s_call rfl rfl rfl ca99 ?_
              refine call_r (c99 (st := nxt s st') hpp hvn hs) (fun a st1 hr hl => back trivial ?_) (fun p x st1 hr => ?_)
              rotate_left
              · rw [htx] at hr; cases hr
              obtain ⟨st3, hst3⟩ : ∃ x, x = nxt s (nxt s st') := ⟨_, rfl⟩
              rw [htx, ← hst3] at hr
              injection hr with hr1 hr2
              subst hr1 hr2
              rw [← hst3] at H
              refine s_call rfl rfl rfl ca97 ?_
              refine (c97 strategyWords (nxt s st').1.text (by decide)).mono ?_
              rintro _ _ ⟨rfl, rfl⟩
              refine back trivial ?_
              refine g2 ?_ ?_ <;> intros
              · rw [if_neg (by omega)] at H
                injection H with H
                subst H
                refine s_call rfl rfl rfl ca98 ?_
                refine (c98 (st := st3) hpp).mono ?_
                rintro _ _ ⟨rfl, rfl⟩
                refine back_p ?_
                refine g1 ?_
                exact fin_bad atss
              · rw [if_pos (by omega)] at H
                injection H with H
                subst H
                rcases hsz with rfl | ⟨rfl, rfl⟩
                · refine fin_ok atss vvv wkk
                · refine fin_ok atss vvv wkk
            · rw [hu]
              refine g1 ?_
              injection H with H
              subst H
              refine s_call rfl rfl rfl ca98 ?_
              refine (c98 (st := nxt s st') hpp).mono ?_
              rintro _ _ ⟨rfl, rfl⟩
              refine back_p ?_
              refine g1 ?_
              exact fin_bad atss
          · rw [hz]
            refine g2 ?_ ?_ <;> intros
            · rw [if_neg (by omega)] at H
              injection H with H
              subst H
              refine s_call rfl rfl rfl ca98 ?_
              refine (c98 (st := st') hpp).mono ?_
              rintro _ _ ⟨rfl, rfl⟩
              refine back_p ?_
              refine g1 ?_
              exact fin_bad atss
            · rw [if_pos (by omega)] at H
              injection H with H
              subst H
              rcases hsz with rfl | ⟨rfl, rfl⟩
              · refine fin_ok atss vvv wkk
              · refine fin_ok atss vvv wkk
  · refine s_call rfl rfl rfl ca93 ?_
    refine (c93_f [58, 58] (st := s1) hpp vvv hs hx).mono ?_
    rintro _ _ ⟨rfl, rfl⟩
    refine back trivial ?_
    refine g1 ?_
    simp only [Con.zero] at H
    refine w_loop (fun e h' k => ∃ (acc : List Flt) (st' : S) (tg : Tag) (sz : Nat), V s st' ∧ bindO (filtersL s k acc st') (fun fs st => bindO (some (strategyP s st)) fun k st => if st.1.kind = 0 then some (.ok ⟨.mk op' (.mk o2 nm' ag vl lb fd kd2) lab reg lo hi kd, .mk 0 [] [] [] [] [] false 0 0 [] [], fs, k⟩ st) else some (.bad st.1.pos 3)) = some r ∧ (sz = 3 ∨ (acc = [] ∧ tg = .nl)) ∧ acc.length + k ≤ n ∧ At h g (rdr s st') h' ∧ Room (nx (b2 + 1)) h' 62 (acc.length * 3) tg ∧
        h'.get b2 = some (.box 38 (encP (.mk op' (.mk o2 nm' ag vl lb fd kd2) lab reg lo hi kd) ++ (zG ++ [.sl sz (encFs acc) tg, .int .i64 0]))) ∧ h'.get b1 = some (.box 38 zQ) ∧ b2 + 1 ≤ h'.next ∧
        e = [(0, true, .ptr g 0), (2, true, .ptr b1 0), (3, true, .ptr b2 0)])
      _ _ (.cons rfl (.cons rfl (.cons rfl (.nil _)))) ⟨[], s1, .nl, 0, by exact vvv, H, .inr ⟨rfl, rfl⟩, by simp, by exact atss, trivial, by exact hpp, by exact hpp, by simp [set_next, new_next], rfl⟩ ?_
    rintro _ h' k ⟨acc, st', tg, sz, hv, H, hsz, hak, hat, hroom, hbx, hbz, hnx, rfl⟩
    cases k with
    | zero => simp only [filtersL, bindO] at H; cases H
    | succ k =>
      simp only [filtersL] at H
      have hgx := hat.get
      have hlen : (encFs acc).length = acc.length := List.length_map ..
      refine g1 ?_
      rcases Bool.eq_false_or_eq_true (isSign [33] st') with hx | hx <;> simp only [hx, sbb1, Bool.true_or, Bool.false_or] at H
      · refine s_call rfl rfl rfl ca95 ?_
        refine (c95 [33] (st := st') hpp).mono ?_
        rintro _ _ ⟨rfl, rfl⟩
        refine back trivial ?_
        rw [hx]
        refine g1 ?_
        refine s_call rfl rfl rfl ca93 ?_
        refine (c93_t [33] (st := st') hpp vvv hs hx).mono ?_
        rintro _ _ ⟨rfl, rfl⟩
        refine back trivial ?_
        refine g1 ?_
        obtain ⟨st2, hst2⟩ : ∃ x, x = nxt s st' := ⟨_, rfl⟩
        have hv2 : V s st2 := by rw [hst2]; exact hv.next
        rw [← hst2] at H ⊢
        refine s_alloc (tt rfl) fun b3 hb3 => ⟨trivial, ?_⟩
        try simp only [set_next, new_next] at hb3
        refine g1 ?_
        refine s_call rfl rfl rfl ca70 ?_
        refine c70.mono ?_
        rintro _ _ ⟨rfl, rfl⟩
        refine back ⟨rk_load (T' := 77) (cs := [.str s, .int .i64 st2.2, .int .i64 st2.1.kind, .str st2.1.text, .int .i64 st2.1.pos]) (tt rfl) rfl rfl (show _ = some (rdr s st2) by exact hpp) rfl rfl rfl, trivial⟩ ?_
        refine s_call rfl rfl rfl ca97 ?_
        refine (c97 filterWords st2.1.text (by decide)).mono ?_
        rintro _ _ ⟨rfl, rfl⟩
        refine back trivial ?_
        refine g3 ?_ ?_ ?_ <;> intros
        · rw [if_pos (by omega)] at H
          simp only [sbb1, Option.some.injEq] at H
          subst H
          refine s_call rfl rfl rfl ca98 ?_
          refine (c98 (st := st2) hpp).mono ?_
          rintro _ _ ⟨rfl, rfl⟩
          refine back_p ?_
          refine g1 ?_
          exact fin_bad atss
        · rw [if_neg (by omega), bindO_assoc] at H
          refine s_call rfl rfl rfl ca91 ?_
          refine (c91 (st := st2) hpp hv2 hs).mono ?_
          rintro _ _ ⟨rfl, rfl⟩
          refine back trivial ?_
          refine g1 ?_
          refine s_call rfl rfl rfl ca99 ?_
          refine call_o (bindO_ne H) (fun r1 hr => (Option.some.inj hr) ▸ c99 (st := nxt s st2) hpp vvv hs) (fun nm s3 hr hl => back trivial ?_) (fun p x st1 hr => ?_)
          rotate_left
          · apply z_p
            rw [hr] at H; simp only [sbb1, Option.some.injEq] at H; subst H
            exact fin_bad atss
          rw [hr] at H; simp only [sbb] at H
          refine g1 ?_
          have hgb : g < (nx (b2 + 1)).next := by show g < b2 + 1; omega
          have hne : b3 ≠ g := by omega
          refine s_append (nx (b2 + 1)) rfl rfl (tt rfl) (tt rfl) rfl (hsz.imp id (·.2)) (by simp only [set_next, new_next]; omega) (append_room (by first | exact Room.setb (Room.set (Room.set (Room.setb (Room.setb (Room.new (Room.set hroom hgb) hb3) hn_self) hs_self) hgb) hgb) (hs_ne hne (hs_ne hne hs_self)) | exact Room.setb (Room.set (Room.set (Room.setb (Room.setb (Room.new hroom hb3) hn_self) hs_self) hgb) hgb) (hs_ne hne (hs_ne hne hs_self))) (by rw [hlen])) (by simp only [hlen, List.length_cons, List.length_nil]; omega) fun tg' h2 hr2 hx2 => ⟨trivial, ?_⟩
          have k1 : h2.get b2 = some (.box 38 (encP (.mk op' (.mk o2 nm' ag vl lb fd kd2) lab reg lo hi kd) ++ (zG ++ [.sl sz (encFs acc) tg, .int .i64 0]))) := by
            rw [hx2.get b2 (show b2 < b2 + 1 by omega)]; exact hpp
          have k2 : h2.get b1 = some (.box 38 zQ) := by
            rw [hx2.get b1 (show b1 < b2 + 1 by omega)]; exact hpp
          have k3 : At h g (rdr s s3) h2 := by
            refine At.ext ?_ (Ext.le (h1 := h) (show h.next ≤ b2 + 1 by omega) hx2)
            exact atss
          have k4 := hx2.next
          simp only [set_next, new_next] at k4
          refine g1 ?_
          refine l_n _ _ ?_ ?_ ⟨acc ++ [⟨wordNo filterWords st2.1.text, _, nm⟩], s3, tg', 3, by exact vvv, H, .inl rfl, by simp; omega, .setl (by omega) k3, ?_, ?_, ?_, by simp only [set_next]; omega, rfl⟩
          · omega
          · exact envv
          · exact append_room (Room.set hr2 (show b2 < b2 + 1 by omega)) (by simp [hlen])
          · rw [hs_self]
            simp [setCells, encFs, encF, AVal.cells, encP, encG, encC]
          · exact hpp
        · rw [if_pos (by omega)] at H
          simp only [sbb1, Option.some.injEq] at H
          subst H
          refine s_call rfl rfl rfl ca98 ?_
          refine (c98 (st := st2) hpp).mono ?_
          rintro _ _ ⟨rfl, rfl⟩
          refine back_p ?_
          refine g1 ?_
          exact fin_bad atss
      · refine s_call rfl rfl rfl ca95 ?_
        refine (c95 [33] (st := st') hpp).mono ?_
        rintro _ _ ⟨rfl, rfl⟩
        refine back trivial ?_
        rw [hx]
        refine g1 ?_
        refine s_call rfl rfl rfl ca70 ?_
        refine (c70).mono ?_
        rintro _ _ ⟨rfl, rfl⟩
        refine back trivial ?_
        refine g1 ?_
        refine s_call rfl rfl rfl ca96 ?_
        refine (c96 (st := st') filterWords (by decide) hpp).mono ?_
        rintro _ _ ⟨rfl, rfl⟩
        refine back trivial ?_
        rcases Bool.eq_false_or_eq_true (isWord filterWords st') with hy | hy <;> simp only [hy, sbb] at H
        · rw [hy]
          refine g1 ?_
          refine s_call rfl rfl rfl ca93 ?_
          refine (c93_f [33] (st := st') hpp vvv hs hx).mono ?_
          rintro _ _ ⟨rfl, rfl⟩
          refine back trivial ?_
          refine g1 ?_
          obtain ⟨st2, hst2⟩ : ∃ x, x = st' := ⟨_, rfl⟩
          have hv2 : V s st2 := by rw [hst2]; exact hv
          rw [← hst2] at H
          rw [← hst2] at hgx hat
          refine s_alloc (tt rfl) fun b3 hb3 => ⟨trivial, ?_⟩
          try simp only [set_next, new_next] at hb3
          refine g1 ?_
          refine s_call rfl rfl rfl ca70 ?_
          refine c70.mono ?_
          rintro _ _ ⟨rfl, rfl⟩
          refine back ⟨rk_load (T' := 77) (cs := [.str s, .int .i64 st2.2, .int .i64 st2.1.kind, .str st2.1.text, .int .i64 st2.1.pos]) (tt rfl) rfl rfl (show _ = some (rdr s st2) by exact hpp) rfl rfl rfl, trivial⟩ ?_
          refine s_call rfl rfl rfl ca97 ?_
          refine (c97 filterWords st2.1.text (by decide)).mono ?_
          rintro _ _ ⟨rfl, rfl⟩
          refine back trivial ?_
          refine g3 ?_ ?_ ?_ <;> intros
          · rw [if_pos (by omega)] at H
            simp only [sbb1, Option.some.injEq] at H
            subst H
            refine s_call rfl rfl rfl ca98 ?_
            refine (c98 (st := st2) hpp).mono ?_
            rintro _ _ ⟨rfl, rfl⟩
            refine back_p ?_
            refine g1 ?_
            exact fin_bad atss
          · rw [if_neg (by omega), bindO_assoc] at H
            refine s_call rfl rfl rfl ca91 ?_
            refine (c91 (st := st2) hpp hv2 hs).mono ?_
            rintro _ _ ⟨rfl, rfl⟩
            refine back trivial ?_
            refine g1 ?_
            refine s_call rfl rfl rfl ca99 ?_
            refine call_o (bindO_ne H) (fun r1 hr => (Option.some.inj hr) ▸ c99 (st := nxt s st2) hpp vvv hs) (fun nm s3 hr hl => back trivial ?_) (fun p x st1 hr => ?_)
            rotate_left
            · apply z_p
              rw [hr] at H; simp only [sbb1, Option.some.injEq] at H; subst H
              exact fin_bad atss
            rw [hr] at H; simp only [sbb] at H
            refine g1 ?_
            have hgb : g < (nx (b2 + 1)).next := by show g < b2 + 1; omega
            have hne : b3 ≠ g := by omega
            refine s_append (nx (b2 + 1)) rfl rfl (tt rfl) (tt rfl) rfl (hsz.imp id (·.2)) (by simp only [set_next, new_next]; omega) (append_room (by first | exact Room.setb (Room.set (Room.set (Room.setb (Room.setb (Room.new (Room.set hroom hgb) hb3) hn_self) hs_self) hgb) hgb) (hs_ne hne (hs_ne hne hs_self)) | exact Room.setb (Room.set (Room.set (Room.setb (Room.setb (Room.new hroom hb3) hn_self) hs_self) hgb) hgb) (hs_ne hne (hs_ne hne hs_self))) (by rw [hlen])) (by simp only [hlen, List.length_cons, List.length_nil]; omega) fun tg' h2 hr2 hx2 => ⟨trivial, ?_⟩
            have k1 : h2.get b2 = some (.box 38 (encP (.mk op' (.mk o2 nm' ag vl lb fd kd2) lab reg lo hi kd) ++ (zG ++ [.sl sz (encFs acc) tg, .int .i64 0]))) := by
              rw [hx2.get b2 (show b2 < b2 + 1 by omega)]; exact hpp
            have k2 : h2.get b1 = some (.box 38 zQ) := by
              rw [hx2.get b1 (show b1 < b2 + 1 by omega)]; exact hpp
            have k3 : At h g (rdr s s3) h2 := by
              refine At.ext ?_ (Ext.le (h1 := h) (show h.next ≤ b2 + 1 by omega) hx2)
              exact atss
            have k4 := hx2.next
            simp only [set_next, new_next] at k4
            refine g1 ?_
            refine l_n _ _ ?_ ?_ ⟨acc ++ [⟨wordNo filterWords st2.1.text, _, nm⟩], s3, tg', 3, by exact vvv, H, .inl rfl, by simp; omega, .setl (by omega) k3, ?_, ?_, ?_, by simp only [set_next]; omega, rfl⟩
            · omega
            · exact envv
            · exact append_room (Room.set hr2 (show b2 < b2 + 1 by omega)) (by simp [hlen])
            · rw [hs_self]
              simp [setCells, encFs, encF, AVal.cells, encP, encG, encC]
            · exact hpp
          · rw [if_pos (by omega)] at H
            simp only [sbb1, Option.some.injEq] at H
            subst H
            refine s_call rfl rfl rfl ca98 ?_
            refine (c98 (st := st2) hpp).mono ?_
            rintro _ _ ⟨rfl, rfl⟩
            refine back_p ?_
            refine g1 ?_
            exact fin_bad atss
        · rw [hy]
          refine g1 ?_
          refine s_call rfl rfl rfl ca96 ?_
          refine ((c96 (st := st') [[115, 116, 114, 97, 116, 101, 103, 121]] (by decide) hpp).args (.cons (.refl _) (.cons weak_frz .nil))).mono ?_
          rintro _ _ ⟨rfl, rfl⟩
          refine back trivial ?_
          unfold strategyP at H
          rcases Bool.eq_false_or_eq_true (isWord [[115, 116, 114, 97, 116, 101, 103, 121]] st') with hz | hz <;> simp only [hz, sbb] at H
          · rw [hz]
            refine g1 ?_
            refine s_call rfl rfl rfl ca91 ?_
            refine (c91 (st := st') hpp hv hs).mono ?_
            rintro _ _ ⟨rfl, rfl⟩
            refine back trivial ?_
            refine g1 ?_
            refine s_call rfl rfl rfl ca71 ?_
            refine (c71).mono ?_
            rintro _ _ ⟨rfl, rfl⟩
            refine back trivial ?_
            refine g1 ?_
            refine s_call rfl rfl rfl ca96 ?_
            refine (c96 (st := nxt s st') strategyWords (by decide) hpp).mono ?_
            rintro _ _ ⟨rfl, rfl⟩
            refine back trivial ?_
            rcases Bool.eq_false_or_eq_true (isWord strategyWords (nxt s st')) with hu | hu <;> simp only [hu, sbb] at H
            · rw [hu]
              refine g1 ?_
              refine s_call rfl rfl rfl ca71 ?_
              refine (c71).mono ?_
              rintro _ _ ⟨rfl, rfl⟩
              refine back trivial ?_
              refine g1 ?_
              have hkk : (nxt s st').1.kind = 2 := by simp only [isWord, Bool.and_eq_true, beq_iff_eq] at hu; omega
              have hvn : V s (nxt s st') := hv.next
              have htx : textP s 2 (nxt s st') = .ok (nxt s st').1.text (nxt s (nxt s st')) := by unfold textP; rw [if_pos hkk]
              refine s_call rfl rfl rfl ca99 ?_
              refine call_r (c99 (st := nxt s st') hpp hvn hs) (fun a st1 hr hl => back trivial ?_) (fun p x st1 hr => ?_)
              rotate_left
              · rw [htx] at hr; cases hr
              obtain ⟨st3, hst3⟩ : ∃ x, x = nxt s (nxt s st') := ⟨_, rfl⟩
              rw [htx, ← hst3] at hr
              injection hr with hr1 hr2
              subst hr1 hr2
              rw [← hst3] at H
              refine s_call rfl rfl rfl ca97 ?_
              refine (c97 strategyWords (nxt s st').1.text (by decide)).mono ?_
              rintro _ _ ⟨rfl, rfl⟩
              refine back trivial ?_
              refine g2 ?_ ?_ <;> intros
              · rw [if_neg (by omega)] at H
                injection H with H
                subst H
                refine s_call rfl rfl rfl ca98 ?_
                refine (c98 (st := st3) hpp).mono ?_
                rintro _ _ ⟨rfl, rfl⟩
                refine back_p ?_
                refine g1 ?_
                exact fin_bad atss
              · rw [if_pos (by omega)] at H
                injection H with H
                subst H
                rcases hsz with rfl | ⟨rfl, rfl⟩
                · refine fin_ok atss vvv wkk
                · refine fin_ok atss vvv wkk
            · rw [hu]
              refine g1 ?_
              injection H with H
              subst H
              refine s_call rfl rfl rfl ca98 ?_
              refine (c98 (st := nxt s st') hpp).mono ?_
              rintro _ _ ⟨rfl, rfl⟩
              refine back_p ?_
              refine g1 ?_
              exact fin_bad atss
          · rw [hz]
            refine g2 ?_ ?_ <;> intros
            · rw [if_neg (by omega)] at H
              injection H with H
              subst H
              refine s_call rfl rfl rfl ca98 ?_
              refine (c98 (st := st') hpp).mono ?_
              rintro _ _ ⟨rfl, rfl⟩
              refine back_p ?_
              refine g1 ?_
              exact fin_bad atss
            · rw [if_pos (by omega)] at H
              injection H with H
              subst H
              rcases hsz with rfl | ⟨rfl, rfl⟩
              · refine fin_ok atss vvv wkk
              · refine fin_ok atss vvv wkk
end
end Go.Proofs

/- Comparing two equal values: texts, conditions, patterns, constraints, queries. No conditions. -/
namespace Go.Proofs
open Go.Abs Go.Q
attribute [local irreducible] awp aops Run BodyQ ACalls Back
section
variable {G : Nat → Option Obj} {h : AHeap}

theorem encSs_len (l : List Str) : (encSs l).length = l.length := List.length_map ..
theorem encCs_row {l : List Cond} {k : Nat} {c : Cond} (h : l[k]? = some c) : (encCs l)[(k : Int).toNat]? = some (encC c) := by
  rw [n0, encCs_map, List.getElem?_map, h]; rfl

set_option maxHeartbeats 1000000 in
theorem c24 (l : List Str) (hl : l.length ≤ 1000000) : ACalls Tryz.prog G 24 [.sl 1 (encSs l) .frz, .sl 1 (encSs l) .frz] h (Gives (.bool true) h) := by
  refine en24 (by simp) fun hw => ?_
  have hlen := encSs_len l
  refine ge1 ?_
  refine w_loop (fun e h' n => ∃ k : Nat, k ≤ l.length ∧ n = l.length - k ∧ h' = h ∧ e = [(0, true, .sl 1 (encSs l) .frz), (1, true, .sl 1 (encSs l) .frz), (12, true, .int .i64 (encSs l).length), (13, true, .int .i64 k)])
    _ _ (.cons rfl (.cons rfl (.cons rfl (.cons rfl (.nil _))))) ⟨0, by omega, rfl, rfl, rfl⟩ ?_
  rintro _ _ _ ⟨k, hk, rfl, rfl, rfl⟩
  refine ge2 ?_ ?_ <;> (repeat intro hb hc)
  · obtain ⟨y, hy⟩ : ∃ y, l[k]? = some y := ⟨_, List.getElem?_eq_getElem (by omega)⟩
    have hrow : (encSs l)[(k : Int).toNat]? = some [.str y] := by rw [n0]; show (l.map _)[k]? = _; rw [List.getElem?_map, hy]; rfl
    refine s_ia rfl (tt rfl) (tt rfl) rfl rfl rfl (fun _ => rfl) (by omega) hrow ?_
    refine ge1 ?_
    refine s_ia rfl (tt rfl) (tt rfl) rfl rfl rfl (fun _ => rfl) (by omega) hrow ?_
    refine ge1 ?_
    exact l_n _ _ (by omega) envv ⟨k + 1, by omega, rfl, rfl, rfl⟩
  · exact ⟨rfl, rfl⟩

theorem encPs_row {l : List Pat} {k : Nat} {c : Pat} (h : l[k]? = some c) : (encPs l)[(k : Int).toNat]? = some (encP c) := by
  rw [n0, encPs_map, List.getElem?_map, h]; rfl
theorem encGs_row {l : List Con} {k : Nat} {c : Con} (h : l[k]? = some c) : (encGs l)[(k : Int).toNat]? = some (encG c) := by
  rw [n0, encGs_map, List.getElem?_map, h]; rfl
theorem encFs_row {l : List Flt} {k : Nat} {c : Flt} (h : l[k]? = some c) : (encFs l)[(k : Int).toNat]? = some (encF c) := by
  rw [n0]; show (l.map _)[k]? = _; rw [List.getElem?_map, h]; rfl
theorem encFs_length (l : List Flt) : (encFs l).length = l.length := List.length_map ..


set_option maxHeartbeats 1000000 in
theorem c75 {M : Nat} (hM : M ≤ 1000000) {c : Cond} (hc : CondOK M c) : ∀ h, ACalls Tryz.prog G 75 [encCa c, encCa c] h (Gives (.bool true) h) := by
  induction hc with
  | mk op name arg value label fold kids hl hk ih =>
    intro h
    refine ACalls.fin (en75 (by simp) fun hw => ?_)
    have hlen := encCs_length kids
    refine ge1 ?_
    refine s_box rfl rfl fun b1 hb1 => ⟨trivial, ?_⟩
    try simp only [set_next, new_next] at hb1
    refine ge1 ?_
    refine s_box rfl rfl fun b2 hb2 => ⟨trivial, ?_⟩
    try simp only [set_next, new_next] at hb2
    refine ge1 ?_
    obtain ⟨hh, hhd⟩ : ∃ hh, hh = ((h.new b1 (.box 29 (encCa (Cond.mk op name arg value label fold kids)).cells)).new b2 (.box 29 (encCa (Cond.mk op name arg value label fold kids)).cells)) := ⟨_, rfl⟩
    have hb1' : hh.get b1 = some (.box 29 (encCa (Cond.mk op name arg value label fold kids)).cells) := by subst hhd; exact hpp
    have hb2' : hh.get b2 = some (.box 29 (encCa (Cond.mk op name arg value label fold kids)).cells) := by subst hhd; exact hpp
    have hsub : Sub h hh := by subst hhd; exact .new (.new (.refl hw) hb1 _) (by simp only [new_next]; exact hb2) _
    rw [← hhd]
    clear hhd
    refine w_loop (fun e h' n => ∃ k : Nat, k ≤ kids.length ∧ n = kids.length - k ∧ h' = hh ∧ e = [(2, true, .ptr b1 0), (3, true, .ptr b2 0), (57, true, .int .i64 (encCs kids).length), (58, true, .int .i64 k)])
      _ _ (.cons rfl (.cons rfl (.cons rfl (.cons rfl (.nil _))))) ⟨0, by omega, rfl, rfl, rfl⟩ ?_
    rintro _ _ _ ⟨k, hk', rfl, rfl, rfl⟩
    refine ge2 ?_ ?_ <;> (repeat intro hb hc)
    rotate_left
    · exact fin_sub hsub (.ret _ _ (.refl _)) ⟨rfl, rfl⟩
    obtain ⟨y, hy⟩ : ∃ y, kids[k]? = some y := ⟨_, List.getElem?_eq_getElem (by omega)⟩
    have hrow := encCs_row hy
    have hmem := List.mem_of_getElem? hy
    obtain ⟨a1, a2, a3, a4, a5, a6, a7⟩ := y
    refine s_ia rfl (tt rfl) (tt rfl) rfl rfl rfl (fun _ => rfl) (by omega) hrow ?_
    refine ge1 ?_
    refine s_ia rfl (tt rfl) (tt rfl) rfl rfl rfl (fun _ => rfl) (by omega) hrow ?_
    refine ge1 ?_
    refine s_call rfl rfl rfl ca75 ?_
    refine (ih _ hmem _).mono ?_
    rintro _ _ ⟨rfl, rfl⟩
    refine back trivial ?_
    refine ge1 ?_
    exact l_n _ _ (by omega) envv ⟨k + 1, by omega, rfl, rfl, rfl⟩

set_option maxHeartbeats 2000000 in
theorem c23 {M : Nat} (hM : M ≤ 1000000) {c : Pat} (hc : PatOK M c) : ∀ h, ACalls Tryz.prog G 23 [encPa c, encPa c] h (Gives (.bool true) h) := by
  induction hc with
  | mk op cond label region lo hi kids hcond hl hk ih =>
    intro h
    refine ACalls.fin (en23 (by simp) fun hw => ?_)
    have hlen := encPs_length kids
    obtain ⟨op', nm, ag, vl, lb, fd, kd⟩ := cond
    refine ge1 ?_
    refine s_box rfl rfl fun b1 hb1 => ⟨trivial, ?_⟩
    try simp only [set_next, new_next] at hb1
    refine ge1 ?_
    refine s_box rfl rfl fun b2 hb2 => ⟨trivial, ?_⟩
    try simp only [set_next, new_next] at hb2
    refine ge1 ?_
    refine s_call rfl rfl rfl ca75 ?_
    refine (c75 hM hcond _).mono ?_
    rintro _ _ ⟨rfl, rfl⟩
    refine back trivial ?_
    refine ge1 ?_
    obtain ⟨hh, hhd⟩ : ∃ hh, hh = ((h.new b1 (.box 32 (encPa (Pat.mk op (.mk op' nm ag vl lb fd kd) label region lo hi kids)).cells)).new b2 (.box 32 (encPa (Pat.mk op (.mk op' nm ag vl lb fd kd) label region lo hi kids)).cells)) := ⟨_, rfl⟩
    have hb1' : hh.get b1 = some (.box 32 (encPa (Pat.mk op (.mk op' nm ag vl lb fd kd) label region lo hi kids)).cells) := by subst hhd; exact hpp
    have hb2' : hh.get b2 = some (.box 32 (encPa (Pat.mk op (.mk op' nm ag vl lb fd kd) label region lo hi kids)).cells) := by subst hhd; exact hpp
    have hsub : Sub h hh := by subst hhd; exact .new (.new (.refl hw) hb1 _) (by simp only [new_next]; exact hb2) _
    rw [← hhd]
    clear hhd
    refine w_loop (fun e h' n => ∃ k : Nat, k ≤ kids.length ∧ n = kids.length - k ∧ h' = hh ∧ e = [(2, true, .ptr b1 0), (3, true, .ptr b2 0), (58, true, .int .i64 (encPs kids).length), (59, true, .int .i64 k)])
      _ _ (.cons rfl (.cons rfl (.cons rfl (.cons rfl (.nil _))))) ⟨0, by omega, rfl, rfl, rfl⟩ ?_
    rintro _ _ _ ⟨k, hk', rfl, rfl, rfl⟩
    refine ge2 ?_ ?_ <;> (repeat intro hb hc)
    rotate_left
    · exact fin_sub hsub (.ret _ _ (.refl _)) ⟨rfl, rfl⟩
    obtain ⟨y, hy⟩ : ∃ y, kids[k]? = some y := ⟨_, List.getElem?_eq_getElem (by omega)⟩
    have hrow := encPs_row hy
    have hmem := List.mem_of_getElem? hy
    obtain ⟨a1, ⟨c1, c2, c3, c4, c5, c6, c7⟩, a2, a3, a4, a5, a6⟩ := y
    refine s_ia rfl (tt rfl) (tt rfl) rfl rfl rfl (fun _ => rfl) (by omega) hrow ?_
    refine ge1 ?_
    refine s_ia rfl (tt rfl) (tt rfl) rfl rfl rfl (fun _ => rfl) (by omega) hrow ?_
    refine ge1 ?_
    refine s_call rfl rfl rfl ca23 ?_
    refine (ih _ hmem _).mono ?_
    rintro _ _ ⟨rfl, rfl⟩
    refine back trivial ?_
    refine ge1 ?_
    exact l_n _ _ (by omega) envv ⟨k + 1, by omega, rfl, rfl, rfl⟩
end
end Go.Proofs

/- Comparing two equal values: constraints, queries. No conditions. -/
namespace Go.Proofs
open Go.Abs Go.Q
attribute [local irreducible] awp aops Run BodyQ ACalls Back
section
variable {G : Nat → Option Obj} {h : AHeap}



set_option maxHeartbeats 2000000 in
theorem c48 {M : Nat} (hM : M ≤ 1000000) {c : Con} (hc : ConOK M c) : ∀ h, ACalls Tryz.prog G 48 [encGa c, encGa c] h (Gives (.bool true) h) := by
  induction hc with
  | mk op a b name arg value fold lo hi args kids hla hl hk ih =>
    intro h
    refine ACalls.fin (en48 (by simp) fun hw => ?_)
    have hlen := encGs_length kids
    refine gs1 ?_
    refine s_box rfl rfl fun b1 hb1 => ⟨trivial, ?_⟩
    try simp only [set_next, new_next] at hb1
    refine gs1 ?_
    refine s_box rfl rfl fun b2 hb2 => ⟨trivial, ?_⟩
    try simp only [set_next, new_next] at hb2
    refine gs1 ?_
    refine s_call rfl rfl rfl ca24 ?_
    refine (c24 args (by omega)).mono ?_
    rintro _ _ ⟨rfl, rfl⟩
    refine back trivial ?_
    refine gs1 ?_
    obtain ⟨hh, hhd⟩ : ∃ hh, hh = ((h.new b1 (.box 35 (encGa (Con.mk op a b name arg value fold lo hi args kids)).cells)).new b2 (.box 35 (encGa (Con.mk op a b name arg value fold lo hi args kids)).cells)) := ⟨_, rfl⟩
    have hb1' : hh.get b1 = some (.box 35 (encGa (Con.mk op a b name arg value fold lo hi args kids)).cells) := by subst hhd; exact hpp
    have hb2' : hh.get b2 = some (.box 35 (encGa (Con.mk op a b name arg value fold lo hi args kids)).cells) := by subst hhd; exact hpp
    have hsub : Sub h hh := by subst hhd; exact .new (.new (.refl hw) hb1 _) (by simp only [new_next]; exact hb2) _
    rw [← hhd]
    clear hhd
    refine w_loop (fun e h' n => ∃ k : Nat, k ≤ kids.length ∧ n = kids.length - k ∧ h' = hh ∧ e = [(2, true, .ptr b1 0), (3, true, .ptr b2 0), (86, true, .int .i64 (encGs kids).length), (87, true, .int .i64 k)])
      _ _ (.cons rfl (.cons rfl (.cons rfl (.cons rfl (.nil _))))) ⟨0, by omega, rfl, rfl, rfl⟩ ?_
    rintro _ _ _ ⟨k, hk', rfl, rfl, rfl⟩
    refine gs2 ?_ ?_ <;> (repeat intro hb hc)
    rotate_left
    · exact fin_sub hsub (.ret _ _ (.refl _)) ⟨rfl, rfl⟩
    obtain ⟨y, hy⟩ : ∃ y, kids[k]? = some y := ⟨_, List.getElem?_eq_getElem (by omega)⟩
    have hrow := encGs_row hy
    have hmem := List.mem_of_getElem? hy
    obtain ⟨a1, a2, a3, a4, a5, a6, a7, a8, a9, a10, a11⟩ := y
    refine s_ia rfl (tt rfl) (tt rfl) rfl rfl rfl (fun _ => rfl) (by omega) hrow ?_
    refine gs1 ?_
    refine s_ia rfl (tt rfl) (tt rfl) rfl rfl rfl (fun _ => rfl) (by omega) hrow ?_
    refine gs1 ?_
    refine s_call rfl rfl rfl ca48 ?_
    refine (ih _ hmem _).mono ?_
    rintro _ _ ⟨rfl, rfl⟩
    refine back trivial ?_
    refine gs1 ?_
    exact l_n _ _ (by omega) envv ⟨k + 1, by omega, rfl, rfl, rfl⟩

theorem eq62 : eqTy Tryz.prog 62 [.int .i64, .bool, .str] = true := by kernel_rfl
theorem abin62 (a b : Int) (c d : Bool) (x y : Str) : abin Tryz.prog .neq 62 (.agg [.int .i64 a, .bool c, .str x]) (.agg [.int .i64 b, .bool d, .str y]) = some (True, .bool !((a == b) && ((c == d) && ((x == y) && true)))) := by
  simp only [abin, aeqs, ↓reduceIte, eq62, cond_true]
theorem s_ne62 {Q : AExit → Env → AHeap → Prop} {r : List (AOp × List AOp)} {e : Env} {d : Nat} {gd : Option (Nat × Bool)} {g : Bool} {x y : Operand} {a : Int} {c1 c3 c4 : Bool} {u : Str} {T' : Nat} (hg : gcond e gd = some g) (hx : Abs.look e x = some (c3, AVal.agg [.int .i64 a, .bool c1, .str u])) (hy : Abs.look e y = some (c4, AVal.agg [.int .i64 a, .bool c1, .str u])) (hc : g = true → (c3 && c4) = true)
    (hn : aops Tryz.prog G Q r ((d, g, .bool false) :: e) h) : aops Tryz.prog G Q ((⟨some d, .binOp .neq 62 x y T', gd⟩, []) :: r) e h :=
  s_bin hg hx hy (by rw [abin62]; simp) hc (fun _ => trivial) hn

set_option maxHeartbeats 2000000 in
theorem c15 {M : Nat} (hM : M ≤ 1000000) {q : Qry} (hq : QryOK M q) : ACalls Tryz.prog G 15 [encQa q, encQa q] h (Gives (.bool true) h) := by
  obtain ⟨p, g, kids, ks⟩ := q
  obtain ⟨hp, hg, hl⟩ := hq
  obtain ⟨op, ⟨op', nm, ag, vl, lb, fd, kd⟩, label, region, lo, hi, pk⟩ := p
  obtain ⟨gop, ga, gb, gname, garg, gvalue, gfold, glo, ghi, gargs, gkids⟩ := g
  refine ACalls.fin (en15 (by simp) fun hw => ?_)
  have hlen := encFs_length kids
  refine gs1 ?_
  refine s_box rfl rfl fun b1 hb1 => ⟨trivial, ?_⟩
  try simp only [set_next, new_next] at hb1
  refine gs1 ?_
  refine s_box rfl rfl fun b2 hb2 => ⟨trivial, ?_⟩
  try simp only [set_next, new_next] at hb2
  refine gs1 ?_
  refine s_call rfl rfl rfl ca23 ?_
  refine (c23 hM hp _).mono ?_
  rintro _ _ ⟨rfl, rfl⟩
  refine back trivial ?_
  refine gs1 ?_
  refine s_call rfl rfl rfl ca48 ?_
  refine (c48 hM hg _).mono ?_
  rintro _ _ ⟨rfl, rfl⟩
  refine back trivial ?_
  refine gs1 ?_
  simp only at hl
  obtain ⟨hh, hhd⟩ : ∃ hh, hh = ((h.new b1 (.box 38 (encQa ⟨.mk op (.mk op' nm ag vl lb fd kd) label region lo hi pk, .mk gop ga gb gname garg gvalue gfold glo ghi gargs gkids, kids, ks⟩).cells)).new b2 (.box 38 (encQa ⟨.mk op (.mk op' nm ag vl lb fd kd) label region lo hi pk, .mk gop ga gb gname garg gvalue gfold glo ghi gargs gkids, kids, ks⟩).cells)) := ⟨_, rfl⟩
  have hb1' : hh.get b1 = some (.box 38 (encQa ⟨.mk op (.mk op' nm ag vl lb fd kd) label region lo hi pk, .mk gop ga gb gname garg gvalue gfold glo ghi gargs gkids, kids, ks⟩).cells) := by subst hhd; exact hpp
  have hb2' : hh.get b2 = some (.box 38 (encQa ⟨.mk op (.mk op' nm ag vl lb fd kd) label region lo hi pk, .mk gop ga gb gname garg gvalue gfold glo ghi gargs gkids, kids, ks⟩).cells) := by subst hhd; exact hpp
  have hsub : Sub h hh := by subst hhd; exact .new (.new (.refl hw) hb1 _) (by simp only [new_next]; exact hb2) _
  rw [← hhd]
  clear hhd
  refine w_loop (fun e h' n => ∃ k : Nat, k ≤ kids.length ∧ n = kids.length - k ∧ h' = hh ∧ e = [(2, true, .ptr b1 0), (3, true, .ptr b2 0), (38, true, .int .i64 (encFs kids).length), (39, true, .int .i64 k)])
    _ _ (.cons rfl (.cons rfl (.cons rfl (.cons rfl (.nil _))))) ⟨0, by omega, rfl, rfl, rfl⟩ ?_
  rintro _ _ _ ⟨k, hk', rfl, rfl, rfl⟩
  refine gs2 ?_ ?_ <;> (repeat intro hb hc)
  rotate_left
  · exact fin_sub hsub (.ret _ _ (.refl _)) ⟨rfl, rfl⟩
  obtain ⟨y, hy⟩ : ∃ y, kids[k]? = some y := ⟨_, List.getElem?_eq_getElem (by omega)⟩
  have hrow := encFs_row hy
  have hmem := List.mem_of_getElem? hy
  obtain ⟨a1, a2, a3⟩ := y
  refine s_ia rfl (tt rfl) (tt rfl) rfl rfl rfl (fun _ => rfl) (by omega) hrow ?_
  refine gs1 ?_
  refine s_ia rfl (tt rfl) (tt rfl) rfl rfl rfl (fun _ => rfl) (by omega) hrow ?_
  refine gs1 ?_
  exact l_n _ _ (by omega) envv ⟨k + 1, by omega, rfl, rfl, rfl⟩
end
end Go.Proofs

/- The tape of numbers. No conditions. -/
namespace Go.Proofs
open Go.Abs Go.Q
attribute [local irreducible] awp aops Run BodyQ ACalls Back
section
variable {G : Nat → Option Obj} {h : AHeap}

theorem tmod_bounds (x n : Int) (hn : 0 < n) : -n < x.tmod n ∧ x.tmod n < n := by
  have h1 := Int.lt_tmod_of_pos x hn
  have h2 := Int.tmod_lt_of_pos x hn
  omega

theorem c19 (x n : Int) (hn : 0 < n ∧ n ≤ 1000000) : ACalls Tryz.prog G 19 [.int .i64 x, .int .i64 n] h (fun out h' => ∃ m : Nat, (m : Int) < n ∧ out = .ret (.int .i64 m) ∧ h' = h) := by
  refine en19 (by simp) fun hw => ?_
  have hb1 := tmod_bounds x n hn.1
  refine g3 ?_ ?_ ?_ <;> intros
  · exact ⟨0, hn.1, rfl, rfl⟩
  · exact ⟨(x.tmod n + n).toNat, by omega, by rw [Int.toNat_of_nonneg (by omega)], rfl⟩
  · exact ⟨(x.tmod n).toNat, by omega, by rw [Int.toNat_of_nonneg (by omega)], rfl⟩

/-- A list of numbers in memory. -/
def encIs (l : List Int) : List (List AVal) := l.map fun x => [.int .i64 x]
theorem encIs_length (l : List Int) : (encIs l).length = l.length := List.length_map ..
/-- A tape in memory. -/
def tape (l : List Int) (k : Nat) (tg : Tag) : AObj := .box 69 [.sl 1 (encIs l) tg, .int .i64 k]

theorem c12 {g : Nat} {l : List Int} {k : Nat} {tg : Tag} (n : Int) (hn : 0 < n ∧ n ≤ 1000000) (hl : l.length ≤ 120) (hk : k ≤ l.length) (hg : h.get g = some (tape l k tg)) : ACalls Tryz.prog G 12 [.ptr g 0, .int .i64 n] h (fun out h' => ∃ m k' : Nat, (m : Int) < n ∧ k' ≤ l.length ∧ out = .ret (.int .i64 m) ∧ h' = h.set g (tape l k' tg)) := by
  refine en12 (by simp) fun hw => ?_
  have hlen := encIs_length l
  unfold tape at hg
  refine g2 ?_ ?_ <;> intros
  · exact ⟨0, k, hn.1, hk, rfl, (set_same hg).symm⟩
  · obtain ⟨y, hy⟩ : ∃ y, l[k]? = some y := ⟨_, List.getElem?_eq_getElem (by omega)⟩
    have hrow : (encIs l)[(k : Int).toNat]? = some [.int .i64 y] := by rw [n0]; show (l.map _)[k]? = _; rw [List.getElem?_map, hy]; rfl
    refine s_ia rfl (tt rfl) (tt rfl) rfl rfl rfl (fun _ => rfl) (by omega) (row := [.int .i64 y]) (by rw [show (k : Int) + 1 - 1 = k by omega]; exact hrow) ?_
    refine g1 ?_
    refine s_call rfl rfl rfl ca19 ?_
    refine (c19 y n hn).mono ?_
    rintro _ _ ⟨m, hm, rfl, rfl⟩
    refine back trivial ?_
    refine g1 ?_
    exact ⟨m, k + 1, hm, by omega, rfl, rfl⟩

theorem c11 {l : List Int} {tg : Tag} : ACalls Tryz.prog G 11 [.sl 1 (encIs l) tg] h (fun out h' => ∃ (b : Nat) (l' : List Int) (tg' : Tag), l'.length ≤ 120 ∧ h.next ≤ b ∧ out = .ret (.ptr b 0) ∧ h' = h.new b (tape l' 0 tg')) := by
  refine en11 (by simp) fun hw => ?_
  have hlen := encIs_length l
  refine g2 ?_ ?_ <;> intros
  · refine s_box rfl rfl fun b1 hb1 => ⟨trivial, ?_⟩
    try simp only [set_next, new_next] at hb1
    refine g1 ?_
    refine ⟨b1, l.take 120, .frz, by rw [List.length_take]; omega, hb1, rfl, ?_⟩
    have : encIs (l.take 120) = ((encIs l).take 120).drop 0 := by rw [List.drop_zero]; exact List.map_take
    rw [tape, this]
    rfl
  · refine s_box rfl rfl fun b1 hb1 => ⟨trivial, ?_⟩
    try simp only [set_next, new_next] at hb1
    refine g1 ?_
    exact ⟨b1, l, tg, by omega, hb1, rfl, rfl⟩
end
end Go.Proofs
