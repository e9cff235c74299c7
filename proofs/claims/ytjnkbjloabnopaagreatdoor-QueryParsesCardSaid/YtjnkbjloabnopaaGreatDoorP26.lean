/- The reference's Parse comes to what the program's does. No conditions. -/
import Derived.Test.YtjnkbjloabnopaaGreatDoorP25
namespace Go.Proofs
open Go.Abs Go.Q
attribute [local irreducible] awp aops Run BodyQ ACalls Back
section
variable {G : Nat → Option Obj} {h : AHeap} {s : Str} {L : List Tok}
-- CTT

theorem wordR_is {l : List Str} {f : Nat} {σ : PS L} (h : wordR l f σ ≠ -1) : ∃ x, is 110 x σ = true := by
  unfold wordR at h
  generalize l.length - f = m at h
  induction m generalizing f with
  | zero => exact absurd rfl h
  | succ m ih =>
    simp only [wordFrom] at h
    split at h
    · rename_i hx; exact ⟨_, hx⟩
    · exact ih h

theorem outQ_bad {r : R Qry} {x : Qry × PS L} (h : RelR s r x) (he : x.2.e ≠ 0) : outQ r = (⟨.zero, .zero, [], 0⟩, x.2.f, x.2.e) := by
  cases r with
  | ok a st => exact absurd h.2.1 he
  | bad p e => obtain ⟨_, h2, h3⟩ := h; rw [h2, h3]; rfl
theorem outQ_ok {r : R Qry} {x : Qry × PS L} (h : RelR s r x) (he : x.2.e = 0) : outQ r = (x.1, 0, 0) := by
  cases r with
  | ok a st => rw [h.1]; rfl
  | bad p e => obtain ⟨h1, h2, _⟩ := h; rw [h2] at he; exact absurd he h1






set_option maxHeartbeats 8000000 in
set_option maxRecDepth 10000 in
theorem c14 (hs : s.length ≤ 1000) (y : Qry × Int × Int) (hx : (400 < s.length ∧ y = (⟨.zero, .zero, [], 0⟩, 0, 2)) ∨ (s.length ≤ 400 ∧ ∃ n r, n ≤ 90000 ∧ queryP s n = some r ∧ y = outQ r)) : ACalls Tryz.prog G 14 [.str s] h (Gives (Post13 s y) h) := by
  refine ACalls.fin (en14 (by simp) fun hw => ?_)
  refine gt1 ?_
  refine s_alloc (tt rfl) fun b1 hb1 => ⟨trivial, ?_⟩
  try simp only [set_next, new_next] at hb1
  rcases hx with ⟨hlong, rfl⟩ | ⟨hshort, n, r, hn, hq, rfl⟩
  · have f1 : decide ((s.length : Int) > 400) = true := by simp; omega
    refine gt1 ?_
    refine fin_sub subss (.ret _ _ ?_) ⟨rfl, rfl⟩
    refine WeakL.tuple (.cons (WeakL.agg ?_) (.refl _))
    exact wkk
  have f1 : decide ((s.length : Int) > 400) = false := by simp; omega
  refine gt1 ?_
  refine s_call rfl rfl rfl ca37 ?_
  refine (c37 s hs).mono ?_
  rintro _ _ ⟨K, hK1, hK2, rfl, hh⟩
  obtain rfl := hh.symm
  refine back trivial ?_
  have hL := toks_ok (by omega) hK1 hK2
  have hT := toks_is hK1 hK2
  generalize hLd : toksTo s (K + 1) = L at hL hT ⊢
  have hLpos : 0 < L.length := by rw [← hLd, toksTo_length]; omega
  obtain ⟨N, hN⟩ : ∃ N, N = n + 12 := ⟨_, rfl⟩
  have hNl : N ≤ 100000 := by omega
  have h0 : RelS s (lexAt s 0) (⟨0, hLpos, 0, 0⟩ : PS L) := ⟨rfl, rfl⟩
  obtain ⟨x, H, hrel⟩ := query_rel hT n h0 r hq
  rw [← hN] at H
  unfold rQuery at H
  refine gt1 ?_
  refine s_box rfl rfl fun b2 hb2 => ⟨trivial, ?_⟩
  try simp only [set_next, new_next] at hb2
  refine gt1 ?_
  refine s_call rfl rfl rfl ca38 ?_
  refine call_p (pbO_ne H) (fun r1 hr => (rpats_ok hL N hNl).1 _ (⟨0, hLpos, 0, 0⟩ : PS L) _ 0 _ hpp (by omega) hr) fun p s1 hr => back trivial ?_
  rw [hr] at H; simp only [pbO_some, pb_mk, sbb] at H
  obtain ⟨op', ⟨o2, nm', ag, vl, lb, fd, kd2⟩, lab, reg, lo, hi, kd⟩ := p
  refine gt1 ?_
  refine s_alloc (tt rfl) fun b3 hb3 => ⟨trivial, ?_⟩
  try simp only [set_next, new_next] at hb3
  refine gt1 ?_
  rcases Bool.eq_false_or_eq_true (is 111 [58, 58] s1) with hx | hx <;> simp only [hx, sbb] at H
  · refine s_call rfl rfl rfl ca39 ?_
    refine (c39_t (σ := s1) hL [58, 58] hx hpp).mono ?_
    rintro _ _ ⟨rfl, rfl⟩
    refine back trivial ?_
    refine gt1 ?_
    refine s_call rfl rfl rfl ca40 ?_
    refine call_p (pbO_ne H) (fun r1 hr => (rglobs_ok hL N hNl).2.2 _ (adv s1) _ 0 _ hpp hr) fun gl s2 hr => back trivial ?_
    rw [hr] at H; simp only [pbO_some, pb_mk, sbb] at H
    obtain ⟨gop, ga, gb, gn, garg, gv, gf, glo, ghi, gargs, gkd⟩ := gl
    refine gt1 ?_
    refine w_loop (fun e h' k => ∃ (acc : List Flt) (st' : PS L) (tg : Tag) (sz : Nat), pbO (rFilters k acc st') (fun fs σ => pb (rStrategy σ) fun k σ => some (⟨.mk op' (.mk o2 nm' ag vl lb fd kd2) lab reg lo hi kd, .mk gop ga gb gn garg gv gf glo ghi gargs gkd, fs, k⟩, if σ.e = 0 ∧ (now σ).kind ≠ 101 then wrong σ else σ)) = some x ∧ (sz = 3 ∨ (acc = [] ∧ tg = .nl)) ∧ acc.length + k ≤ N ∧ Sub h h' ∧ h'.get b2 = some (par 0 st') ∧ Room (nx (b3 + 1)) h' 62 (acc.length * 3) tg ∧
        h'.get b3 = some (.box 38 (encP (.mk op' (.mk o2 nm' ag vl lb fd kd2) lab reg lo hi kd) ++ (encG (.mk gop ga gb gn garg gv gf glo ghi gargs gkd) ++ [.sl sz (encFs acc) tg, .int .i64 0]))) ∧ h'.get b1 = some (.box 38 zQ) ∧ b3 + 1 ≤ h'.next ∧
        e = [(5, true, .ptr b2 0), (2, true, .ptr b1 0), (6, true, .ptr b3 0)])
      _ _ (.cons rfl (.cons rfl (.cons rfl (.nil _)))) ⟨[], s2, .nl, 0, H, .inr ⟨rfl, rfl⟩, by simp, by repeat first | exact .refl hw | assumption | (refine Sub.setl ?_ (by first | omega | (simp only [set_next, new_next]; omega)) _) | (refine Sub.new ?_ (by first | omega | (simp only [set_next, new_next]; omega)) _), by exact hpp, trivial, by exact hpp, by exact hpp, by simp [set_next, new_next], rfl⟩ ?_
    rintro _ h' k ⟨acc, st', tg, sz, H, hsz, hak, hsub, hgx, hroom, hbx, hbz, hnx, rfl⟩
    cases k with
    | zero => simp only [rFilters, pbO] at H; cases H
    | succ k =>
      simp only [rFilters] at H
      have hlen : (encFs acc).length = acc.length := List.length_map ..
      by_cases he : st'.e = 0
      rotate_left
      · have hk1 : (st'.e == 0) = false := by simp [he]
        rw [if_neg he] at H
        simp only [pbO_some] at H
        refine gt1 ?_
        refine s_call rfl rfl rfl ca45 ?_
        refine (c45 (σ := st') hL 110 [115, 116, 114, 97, 116, 101, 103, 121] hpp).mono ?_
        rintro _ _ ⟨rfl, rfl⟩
        refine back trivial ?_
        unfold rStrategy at H
        rcases Bool.eq_false_or_eq_true (is 110 [115, 116, 114, 97, 116, 101, 103, 121] st') with hz | hz <;> simp only [hz, sbb] at H
        · rw [hz]
          have hl := is_last hL (.inl rfl) hz
          rw [adv_k hl] at H
          have hkS := st'.hk
          have hlenS := hL.len
          refine gt1 ?_
          refine s_call rfl rfl rfl ca46 ?_
          refine (c46).mono ?_
          rintro _ _ ⟨rfl, rfl⟩
          refine back trivial ?_
          refine gt1 ?_
          refine s_call rfl rfl rfl ca41 ?_
          refine (c41 (σ := (⟨st'.k + 1, hl, st'.e, st'.f⟩ : PS L)) hL strategyWords (by decide) 0 (by decide) hpp).mono ?_
          rintro _ _ ⟨rfl, rfl⟩
          refine back trivial ?_
          by_cases hw1 : wordR strategyWords 0 (⟨st'.k + 1, hl, st'.e, st'.f⟩ : PS L) = -1
          · have w0 : (wordR strategyWords 0 (⟨st'.k + 1, hl, st'.e, st'.f⟩ : PS L) == -1) = true := by simp [hw1]
            simp only [if_pos hw1, pb_mk] at H
            refine gt1 ?_
            refine s_call rfl rfl rfl ca43 ?_
            refine (c43 (σ := (⟨st'.k + 1, hl, st'.e, st'.f⟩ : PS L)) hL hpp).mono ?_
            rintro _ _ ⟨rfl, rfl⟩
            refine back trivial ?_
            obtain ⟨SX, hSX⟩ : ∃ z, z = wrong (⟨st'.k + 1, hl, st'.e, st'.f⟩ : PS L) := ⟨_, rfl⟩
            rw [← hSX] at H ⊢
            simp only [Option.some.injEq] at H
            by_cases he0 : SX.e = 0
            · by_cases hk0 : (now SX).kind = 101
              · have w1 : (SX.e == 0) = true := beq_iff_eq.2 he0
                try simp only at w1
                have w2 : (((now SX).kind : Int) != 101) = false := by rw [hk0]; rfl
                have w3 : (SX.e != 0) = false := by rw [show SX.e = 0 from he0]; rfl
                try simp only at w3
                rw [if_neg (by simp [hk0])] at H
                subst H
                rw [outQ_ok hrel he0]
                refine gt1 ?_
                refine s_call rfl rfl rfl ca47 ?_
                refine (c47 (σ := SX) hL hpp).mono ?_
                rintro _ _ ⟨rfl, rfl⟩
                refine back trivial ?_
                refine gt1 ?_
                rcases hsz with rfl | ⟨rfl, rfl⟩
                · refine fin_sub subss (.ret _ _ ?_) ⟨rfl, rfl⟩
                  refine WeakL.tuple (.cons (WeakL.agg ?_) (.refl _))
                  exact wkk
                · refine fin_sub subss (.ret _ _ ?_) ⟨rfl, rfl⟩
                  refine WeakL.tuple (.cons (WeakL.agg ?_) (.refl _))
                  exact wkk
              · have w1 : (SX.e == 0) = true := beq_iff_eq.2 he0
                try simp only at w1
                have w2 : (((now SX).kind : Int) != 101) = true := by rw [bne_iff_ne]; omega
                rw [if_pos ⟨he0, hk0⟩] at H
                have hwr : wrong SX = ⟨SX.k, SX.hk, 3, (now SX).pos⟩ := by unfold wrong err; rw [if_pos he0]
                rw [hwr] at H
                subst H
                rw [outQ_bad hrel (by simp)]
                refine gt1 ?_
                refine s_call rfl rfl rfl ca47 ?_
                refine (c47 (σ := SX) hL hpp).mono ?_
                rintro _ _ ⟨rfl, rfl⟩
                refine back trivial ?_
                refine gt1 ?_
                refine s_call rfl rfl rfl ca43 ?_
                refine (c43 (σ := SX) hL hpp).mono ?_
                rintro _ _ ⟨rfl, rfl⟩
                refine back trivial ?_
                rw [hwr]
                have w4 : ((⟨SX.k, SX.hk, 3, (now SX).pos⟩ : PS L).e != 0) = true := rfl
                refine gt1 ?_
                (refine s_store (tt rfl) rfl rfl hpp rfl rfl rfl rfl ⟨⟨rk_load (T' := 83) (cs := [.sl 3 (encTs L) .frz, .int .i64 ((⟨SX.k, SX.hk, 3, (now SX).pos⟩ : PS L)).k, .int .i64 0, .int .i64 ((⟨SX.k, SX.hk, 3, (now SX).pos⟩ : PS L)).e, .int .i64 ((⟨SX.k, SX.hk, 3, (now SX).pos⟩ : PS L)).f]) (tt rfl) rfl rfl (show _ = some (par 0 ((⟨SX.k, SX.hk, 3, (now SX).pos⟩ : PS L))) by exact hpp) rfl rfl rfl, rk_load (T' := 83) (cs := [.sl 3 (encTs L) .frz, .int .i64 ((⟨SX.k, SX.hk, 3, (now SX).pos⟩ : PS L)).k, .int .i64 0, .int .i64 ((⟨SX.k, SX.hk, 3, (now SX).pos⟩ : PS L)).e, .int .i64 ((⟨SX.k, SX.hk, 3, (now SX).pos⟩ : PS L)).f]) (tt rfl) rfl rfl (show _ = some (par 0 ((⟨SX.k, SX.hk, 3, (now SX).pos⟩ : PS L))) by exact hpp) rfl rfl rfl, trivial⟩, ?_⟩)
                refine gt1 ?_
                refine fin_sub subss (.ret _ _ ?_) ⟨rfl, rfl⟩
                refine WeakL.tuple (.cons (WeakL.agg ?_) (.refl _))
                exact wkk
            · have w1 : (SX.e == 0) = false := beq_eq_false_iff_ne.2 he0
              try simp only at w1
              have w3 : (SX.e != 0) = true := bne_iff_ne.2 he0
              try simp only at w3
              rw [if_neg (fun q => he0 q.1)] at H
              subst H
              rw [outQ_bad hrel he0]
              refine gt1 ?_
              (refine s_store (tt rfl) rfl rfl hpp rfl rfl rfl rfl ⟨⟨rk_load (T' := 83) (cs := [.sl 3 (encTs L) .frz, .int .i64 (SX).k, .int .i64 0, .int .i64 (SX).e, .int .i64 (SX).f]) (tt rfl) rfl rfl (show _ = some (par 0 (SX)) by exact hpp) rfl rfl rfl, rk_load (T' := 83) (cs := [.sl 3 (encTs L) .frz, .int .i64 (SX).k, .int .i64 0, .int .i64 (SX).e, .int .i64 (SX).f]) (tt rfl) rfl rfl (show _ = some (par 0 (SX)) by exact hpp) rfl rfl rfl, trivial⟩, ?_⟩)
              refine gt1 ?_
              refine fin_sub subss (.ret _ _ ?_) ⟨rfl, rfl⟩
              refine WeakL.tuple (.cons (WeakL.agg ?_) (.refl _))
              exact wkk
          · have w0 : (wordR strategyWords 0 (⟨st'.k + 1, hl, st'.e, st'.f⟩ : PS L) == -1) = false := by simp [hw1]
            obtain ⟨xw, hxw⟩ := wordR_is hw1
            have hl2 := is_last hL (.inl rfl) hxw
            simp only [if_neg hw1, pb_mk, adv_k hl2] at H
            simp only at hl2
            simp only [Option.some.injEq] at H
            by_cases he0 : (⟨st'.k + 1 + 1, hl2, st'.e, st'.f⟩ : PS L).e = 0
            · by_cases hk0 : (now (⟨st'.k + 1 + 1, hl2, st'.e, st'.f⟩ : PS L)).kind = 101
              · have w1 : ((⟨st'.k + 1 + 1, hl2, st'.e, st'.f⟩ : PS L).e == 0) = true := beq_iff_eq.2 he0
                try simp only at w1
                have w2 : (((now (⟨st'.k + 1 + 1, hl2, st'.e, st'.f⟩ : PS L)).kind : Int) != 101) = false := by rw [hk0]; rfl
                have w3 : ((⟨st'.k + 1 + 1, hl2, st'.e, st'.f⟩ : PS L).e != 0) = false := by rw [show (⟨st'.k + 1 + 1, hl2, st'.e, st'.f⟩ : PS L).e = 0 from he0]; rfl
                try simp only at w3
                rw [if_neg (by simp [hk0])] at H
                subst H
                rw [outQ_ok hrel he0]
                refine gt1 ?_
                refine s_call rfl rfl rfl ca47 ?_
                refine (c47 (σ := (⟨st'.k + 1 + 1, hl2, st'.e, st'.f⟩ : PS L)) hL hpp).mono ?_
                rintro _ _ ⟨rfl, rfl⟩
                refine back trivial ?_
                refine gt1 ?_
                rcases hsz with rfl | ⟨rfl, rfl⟩
                · refine fin_sub subss (.ret _ _ ?_) ⟨rfl, rfl⟩
                  refine WeakL.tuple (.cons (WeakL.agg ?_) (.refl _))
                  exact wkk
                · refine fin_sub subss (.ret _ _ ?_) ⟨rfl, rfl⟩
                  refine WeakL.tuple (.cons (WeakL.agg ?_) (.refl _))
                  exact wkk
              · have w1 : ((⟨st'.k + 1 + 1, hl2, st'.e, st'.f⟩ : PS L).e == 0) = true := beq_iff_eq.2 he0
                try simp only at w1
                have w2 : (((now (⟨st'.k + 1 + 1, hl2, st'.e, st'.f⟩ : PS L)).kind : Int) != 101) = true := by rw [bne_iff_ne]; omega
                rw [if_pos ⟨he0, hk0⟩] at H
                have hwr : wrong (⟨st'.k + 1 + 1, hl2, st'.e, st'.f⟩ : PS L) = ⟨(⟨st'.k + 1 + 1, hl2, st'.e, st'.f⟩ : PS L).k, (⟨st'.k + 1 + 1, hl2, st'.e, st'.f⟩ : PS L).hk, 3, (now (⟨st'.k + 1 + 1, hl2, st'.e, st'.f⟩ : PS L)).pos⟩ := by unfold wrong err; rw [if_pos he0]
                rw [hwr] at H
                subst H
                rw [outQ_bad hrel (by simp)]
                refine gt1 ?_
                refine s_call rfl rfl rfl ca47 ?_
                refine (c47 (σ := (⟨st'.k + 1 + 1, hl2, st'.e, st'.f⟩ : PS L)) hL hpp).mono ?_
                rintro _ _ ⟨rfl, rfl⟩
                refine back trivial ?_
                refine gt1 ?_
                refine s_call rfl rfl rfl ca43 ?_
                refine (c43 (σ := (⟨st'.k + 1 + 1, hl2, st'.e, st'.f⟩ : PS L)) hL hpp).mono ?_
                rintro _ _ ⟨rfl, rfl⟩
                refine back trivial ?_
                rw [hwr]
                have w4 : ((⟨(⟨st'.k + 1 + 1, hl2, st'.e, st'.f⟩ : PS L).k, (⟨st'.k + 1 + 1, hl2, st'.e, st'.f⟩ : PS L).hk, 3, (now (⟨st'.k + 1 + 1, hl2, st'.e, st'.f⟩ : PS L)).pos⟩ : PS L).e != 0) = true := rfl
                refine gt1 ?_
                (refine s_store (tt rfl) rfl rfl hpp rfl rfl rfl rfl ⟨⟨rk_load (T' := 83) (cs := [.sl 3 (encTs L) .frz, .int .i64 ((⟨(⟨st'.k + 1 + 1, hl2, st'.e, st'.f⟩ : PS L).k, (⟨st'.k + 1 + 1, hl2, st'.e, st'.f⟩ : PS L).hk, 3, (now (⟨st'.k + 1 + 1, hl2, st'.e, st'.f⟩ : PS L)).pos⟩ : PS L)).k, .int .i64 0, .int .i64 ((⟨(⟨st'.k + 1 + 1, hl2, st'.e, st'.f⟩ : PS L).k, (⟨st'.k + 1 + 1, hl2, st'.e, st'.f⟩ : PS L).hk, 3, (now (⟨st'.k + 1 + 1, hl2, st'.e, st'.f⟩ : PS L)).pos⟩ : PS L)).e, .int .i64 ((⟨(⟨st'.k + 1 + 1, hl2, st'.e, st'.f⟩ : PS L).k, (⟨st'.k + 1 + 1, hl2, st'.e, st'.f⟩ : PS L).hk, 3, (now (⟨st'.k + 1 + 1, hl2, st'.e, st'.f⟩ : PS L)).pos⟩ : PS L)).f]) (tt rfl) rfl rfl (show _ = some (par 0 ((⟨(⟨st'.k + 1 + 1, hl2, st'.e, st'.f⟩ : PS L).k, (⟨st'.k + 1 + 1, hl2, st'.e, st'.f⟩ : PS L).hk, 3, (now (⟨st'.k + 1 + 1, hl2, st'.e, st'.f⟩ : PS L)).pos⟩ : PS L))) by exact hpp) rfl rfl rfl, rk_load (T' := 83) (cs := [.sl 3 (encTs L) .frz, .int .i64 ((⟨(⟨st'.k + 1 + 1, hl2, st'.e, st'.f⟩ : PS L).k, (⟨st'.k + 1 + 1, hl2, st'.e, st'.f⟩ : PS L).hk, 3, (now (⟨st'.k + 1 + 1, hl2, st'.e, st'.f⟩ : PS L)).pos⟩ : PS L)).k, .int .i64 0, .int .i64 ((⟨(⟨st'.k + 1 + 1, hl2, st'.e, st'.f⟩ : PS L).k, (⟨st'.k + 1 + 1, hl2, st'.e, st'.f⟩ : PS L).hk, 3, (now (⟨st'.k + 1 + 1, hl2, st'.e, st'.f⟩ : PS L)).pos⟩ : PS L)).e, .int .i64 ((⟨(⟨st'.k + 1 + 1, hl2, st'.e, st'.f⟩ : PS L).k, (⟨st'.k + 1 + 1, hl2, st'.e, st'.f⟩ : PS L).hk, 3, (now (⟨st'.k + 1 + 1, hl2, st'.e, st'.f⟩ : PS L)).pos⟩ : PS L)).f]) (tt rfl) rfl rfl (show _ = some (par 0 ((⟨(⟨st'.k + 1 + 1, hl2, st'.e, st'.f⟩ : PS L).k, (⟨st'.k + 1 + 1, hl2, st'.e, st'.f⟩ : PS L).hk, 3, (now (⟨st'.k + 1 + 1, hl2, st'.e, st'.f⟩ : PS L)).pos⟩ : PS L))) by exact hpp) rfl rfl rfl, trivial⟩, ?_⟩)
                refine gt1 ?_
                refine fin_sub subss (.ret _ _ ?_) ⟨rfl, rfl⟩
                refine WeakL.tuple (.cons (WeakL.agg ?_) (.refl _))
                exact wkk
            · have w1 : ((⟨st'.k + 1 + 1, hl2, st'.e, st'.f⟩ : PS L).e == 0) = false := beq_eq_false_iff_ne.2 he0
              try simp only at w1
              have w3 : ((⟨st'.k + 1 + 1, hl2, st'.e, st'.f⟩ : PS L).e != 0) = true := bne_iff_ne.2 he0
              try simp only at w3
              rw [if_neg (fun q => he0 q.1)] at H
              subst H
              rw [outQ_bad hrel he0]
              refine gt1 ?_
              (refine s_store (tt rfl) rfl rfl hpp rfl rfl rfl rfl ⟨⟨rk_load (T' := 83) (cs := [.sl 3 (encTs L) .frz, .int .i64 ((⟨st'.k + 1 + 1, hl2, st'.e, st'.f⟩ : PS L)).k, .int .i64 0, .int .i64 ((⟨st'.k + 1 + 1, hl2, st'.e, st'.f⟩ : PS L)).e, .int .i64 ((⟨st'.k + 1 + 1, hl2, st'.e, st'.f⟩ : PS L)).f]) (tt rfl) rfl rfl (show _ = some (par 0 ((⟨st'.k + 1 + 1, hl2, st'.e, st'.f⟩ : PS L))) by exact hpp) rfl rfl rfl, rk_load (T' := 83) (cs := [.sl 3 (encTs L) .frz, .int .i64 ((⟨st'.k + 1 + 1, hl2, st'.e, st'.f⟩ : PS L)).k, .int .i64 0, .int .i64 ((⟨st'.k + 1 + 1, hl2, st'.e, st'.f⟩ : PS L)).e, .int .i64 ((⟨st'.k + 1 + 1, hl2, st'.e, st'.f⟩ : PS L)).f]) (tt rfl) rfl rfl (show _ = some (par 0 ((⟨st'.k + 1 + 1, hl2, st'.e, st'.f⟩ : PS L))) by exact hpp) rfl rfl rfl, trivial⟩, ?_⟩)
              refine gt1 ?_
              refine fin_sub subss (.ret _ _ ?_) ⟨rfl, rfl⟩
              refine WeakL.tuple (.cons (WeakL.agg ?_) (.refl _))
              exact wkk
        · rw [hz]
          simp only [pb_mk] at H
          simp only [Option.some.injEq] at H
          by_cases he0 : st'.e = 0
          · by_cases hk0 : (now st').kind = 101
            · have w1 : (st'.e == 0) = true := beq_iff_eq.2 he0
              try simp only at w1
              have w2 : (((now st').kind : Int) != 101) = false := by rw [hk0]; rfl
              have w3 : (st'.e != 0) = false := by rw [show st'.e = 0 from he0]; rfl
              try simp only at w3
              rw [if_neg (by simp [hk0])] at H
              subst H
              rw [outQ_ok hrel he0]
              refine gt1 ?_
              refine s_call rfl rfl rfl ca47 ?_
              refine (c47 (σ := st') hL hpp).mono ?_
              rintro _ _ ⟨rfl, rfl⟩
              refine back trivial ?_
              refine gt1 ?_
              rcases hsz with rfl | ⟨rfl, rfl⟩
              · refine fin_sub subss (.ret _ _ ?_) ⟨rfl, rfl⟩
                refine WeakL.tuple (.cons (WeakL.agg ?_) (.refl _))
                exact wkk
              · refine fin_sub subss (.ret _ _ ?_) ⟨rfl, rfl⟩
                refine WeakL.tuple (.cons (WeakL.agg ?_) (.refl _))
                exact wkk
            · have w1 : (st'.e == 0) = true := beq_iff_eq.2 he0
              try simp only at w1
              have w2 : (((now st').kind : Int) != 101) = true := by rw [bne_iff_ne]; omega
              rw [if_pos ⟨he0, hk0⟩] at H
              have hwr : wrong st' = ⟨st'.k, st'.hk, 3, (now st').pos⟩ := by unfold wrong err; rw [if_pos he0]
              rw [hwr] at H
              subst H
              rw [outQ_bad hrel (by simp)]
              refine gt1 ?_
              refine s_call rfl rfl rfl ca47 ?_
              refine (c47 (σ := st') hL hpp).mono ?_
              rintro _ _ ⟨rfl, rfl⟩
              refine back trivial ?_
              refine gt1 ?_
              refine s_call rfl rfl rfl ca43 ?_
              refine (c43 (σ := st') hL hpp).mono ?_
              rintro _ _ ⟨rfl, rfl⟩
              refine back trivial ?_
              rw [hwr]
              have w4 : ((⟨st'.k, st'.hk, 3, (now st').pos⟩ : PS L).e != 0) = true := rfl
              refine gt1 ?_
              (refine s_store (tt rfl) rfl rfl hpp rfl rfl rfl rfl ⟨⟨rk_load (T' := 83) (cs := [.sl 3 (encTs L) .frz, .int .i64 ((⟨st'.k, st'.hk, 3, (now st').pos⟩ : PS L)).k, .int .i64 0, .int .i64 ((⟨st'.k, st'.hk, 3, (now st').pos⟩ : PS L)).e, .int .i64 ((⟨st'.k, st'.hk, 3, (now st').pos⟩ : PS L)).f]) (tt rfl) rfl rfl (show _ = some (par 0 ((⟨st'.k, st'.hk, 3, (now st').pos⟩ : PS L))) by exact hpp) rfl rfl rfl, rk_load (T' := 83) (cs := [.sl 3 (encTs L) .frz, .int .i64 ((⟨st'.k, st'.hk, 3, (now st').pos⟩ : PS L)).k, .int .i64 0, .int .i64 ((⟨st'.k, st'.hk, 3, (now st').pos⟩ : PS L)).e, .int .i64 ((⟨st'.k, st'.hk, 3, (now st').pos⟩ : PS L)).f]) (tt rfl) rfl rfl (show _ = some (par 0 ((⟨st'.k, st'.hk, 3, (now st').pos⟩ : PS L))) by exact hpp) rfl rfl rfl, trivial⟩, ?_⟩)
              refine gt1 ?_
              refine fin_sub subss (.ret _ _ ?_) ⟨rfl, rfl⟩
              refine WeakL.tuple (.cons (WeakL.agg ?_) (.refl _))
              exact wkk
          · have w1 : (st'.e == 0) = false := beq_eq_false_iff_ne.2 he0
            try simp only at w1
            have w3 : (st'.e != 0) = true := bne_iff_ne.2 he0
            try simp only at w3
            rw [if_neg (fun q => he0 q.1)] at H
            subst H
            rw [outQ_bad hrel he0]
            refine gt1 ?_
            (refine s_store (tt rfl) rfl rfl hpp rfl rfl rfl rfl ⟨⟨rk_load (T' := 83) (cs := [.sl 3 (encTs L) .frz, .int .i64 (st').k, .int .i64 0, .int .i64 (st').e, .int .i64 (st').f]) (tt rfl) rfl rfl (show _ = some (par 0 (st')) by exact hpp) rfl rfl rfl, rk_load (T' := 83) (cs := [.sl 3 (encTs L) .frz, .int .i64 (st').k, .int .i64 0, .int .i64 (st').e, .int .i64 (st').f]) (tt rfl) rfl rfl (show _ = some (par 0 (st')) by exact hpp) rfl rfl rfl, trivial⟩, ?_⟩)
            refine gt1 ?_
            refine fin_sub subss (.ret _ _ ?_) ⟨rfl, rfl⟩
            refine WeakL.tuple (.cons (WeakL.agg ?_) (.refl _))
            exact wkk
      have hk1 : (st'.e == 0) = true := by simp [he]
      rw [if_pos he] at H
      refine gt1 ?_
      refine s_call rfl rfl rfl ca39 ?_
      refine call_q (c39 (σ := st') hL [33] hpp) fun b s3 hr => back trivial ?_
      obtain ⟨hb1, hs3⟩ := Prod.mk.inj hr
      rw [hb1, hs3] at H
      refine gt1 ?_
      refine s_call rfl rfl rfl ca42 ?_
      refine (c42).mono ?_
      rintro _ _ ⟨rfl, rfl⟩
      refine back trivial ?_
      refine gt1 ?_
      refine s_call rfl rfl rfl ca41 ?_
      refine (c41 (σ := s3) hL filterWords (by decide) 1 (by decide) hpp).mono ?_
      rintro _ _ ⟨rfl, rfl⟩
      refine back trivial ?_
      by_cases ho : wordR filterWords 1 s3 = -1
      · have w0 : (wordR filterWords 1 s3 == -1) = true := by simp [ho]
        rw [if_pos ho] at H
        simp only [pbO_some] at H
        cases b with
        | true =>
          simp only [if_true] at H
          refine gt1 ?_
          refine s_call rfl rfl rfl ca43 ?_
          refine (c43 (σ := s3) hL hpp).mono ?_
          rintro _ _ ⟨rfl, rfl⟩
          refine back trivial ?_
          obtain ⟨s4, hs4⟩ : ∃ z, z = wrong s3 := ⟨_, rfl⟩
          rw [← hs4] at H ⊢
          refine gt1 ?_
          refine s_call rfl rfl rfl ca45 ?_
          refine (c45 (σ := s4) hL 110 [115, 116, 114, 97, 116, 101, 103, 121] hpp).mono ?_
          rintro _ _ ⟨rfl, rfl⟩
          refine back trivial ?_
          unfold rStrategy at H
          rcases Bool.eq_false_or_eq_true (is 110 [115, 116, 114, 97, 116, 101, 103, 121] s4) with hz | hz <;> simp only [hz, sbb] at H
          · rw [hz]
            have hl := is_last hL (.inl rfl) hz
            rw [adv_k hl] at H
            have hkS := s4.hk
            have hlenS := hL.len
            refine gt1 ?_
            refine s_call rfl rfl rfl ca46 ?_
            refine (c46).mono ?_
            rintro _ _ ⟨rfl, rfl⟩
            refine back trivial ?_
            refine gt1 ?_
            refine s_call rfl rfl rfl ca41 ?_
            refine (c41 (σ := (⟨s4.k + 1, hl, s4.e, s4.f⟩ : PS L)) hL strategyWords (by decide) 0 (by decide) hpp).mono ?_
            rintro _ _ ⟨rfl, rfl⟩
            refine back trivial ?_
            by_cases hw1 : wordR strategyWords 0 (⟨s4.k + 1, hl, s4.e, s4.f⟩ : PS L) = -1
            · have w0 : (wordR strategyWords 0 (⟨s4.k + 1, hl, s4.e, s4.f⟩ : PS L) == -1) = true := by simp [hw1]
              simp only [if_pos hw1, pb_mk] at H
              refine gt1 ?_
              refine s_call rfl rfl rfl ca43 ?_
              refine (c43 (σ := (⟨s4.k + 1, hl, s4.e, s4.f⟩ : PS L)) hL hpp).mono ?_
              rintro _ _ ⟨rfl, rfl⟩
              refine back trivial ?_
              obtain ⟨SX, hSX⟩ : ∃ z, z = wrong (⟨s4.k + 1, hl, s4.e, s4.f⟩ : PS L) := ⟨_, rfl⟩
              rw [← hSX] at H ⊢
              simp only [Option.some.injEq] at H
              by_cases he0 : SX.e = 0
              · by_cases hk0 : (now SX).kind = 101
                · have w1 : (SX.e == 0) = true := beq_iff_eq.2 he0
                  try simp only at w1
                  have w2 : (((now SX).kind : Int) != 101) = false := by rw [hk0]; rfl
                  have w3 : (SX.e != 0) = false := by rw [show SX.e = 0 from he0]; rfl
                  try simp only at w3
                  rw [if_neg (by simp [hk0])] at H
                  subst H
                  rw [outQ_ok hrel he0]
                  refine gt1 ?_
                  refine s_call rfl rfl rfl ca47 ?_
                  refine (c47 (σ := SX) hL hpp).mono ?_
                  rintro _ _ ⟨rfl, rfl⟩
                  refine back trivial ?_
                  refine gt1 ?_
                  rcases hsz with rfl | ⟨rfl, rfl⟩
                  · refine fin_sub subss (.ret _ _ ?_) ⟨rfl, rfl⟩
                    refine WeakL.tuple (.cons (WeakL.agg ?_) (.refl _))
                    exact wkk
                  · refine fin_sub subss (.ret _ _ ?_) ⟨rfl, rfl⟩
                    refine WeakL.tuple (.cons (WeakL.agg ?_) (.refl _))
                    exact wkk
                · have w1 : (SX.e == 0) = true := beq_iff_eq.2 he0
                  try simp only at w1
                  have w2 : (((now SX).kind : Int) != 101) = true := by rw [bne_iff_ne]; omega
                  rw [if_pos ⟨he0, hk0⟩] at H
                  have hwr : wrong SX = ⟨SX.k, SX.hk, 3, (now SX).pos⟩ := by unfold wrong err; rw [if_pos he0]
                  rw [hwr] at H
                  subst H
                  rw [outQ_bad hrel (by simp)]
                  refine gt1 ?_
                  refine s_call rfl rfl rfl ca47 ?_
                  refine (c47 (σ := SX) hL hpp).mono ?_
                  rintro _ _ ⟨rfl, rfl⟩
                  refine back trivial ?_
                  refine gt1 ?_
                  refine s_call rfl rfl rfl ca43 ?_
                  refine (c43 (σ := SX) hL hpp).mono ?_
                  rintro _ _ ⟨rfl, rfl⟩
                  refine back trivial ?_
                  rw [hwr]
                  have w4 : ((⟨SX.k, SX.hk, 3, (now SX).pos⟩ : PS L).e != 0) = true := rfl
                  refine gt1 ?_
                  (refine s_store (tt rfl) rfl rfl hpp rfl rfl rfl rfl ⟨⟨rk_load (T' := 83) (cs := [.sl 3 (encTs L) .frz, .int .i64 ((⟨SX.k, SX.hk, 3, (now SX).pos⟩ : PS L)).k, .int .i64 0, .int .i64 ((⟨SX.k, SX.hk, 3, (now SX).pos⟩ : PS L)).e, .int .i64 ((⟨SX.k, SX.hk, 3, (now SX).pos⟩ : PS L)).f]) (tt rfl) rfl rfl (show _ = some (par 0 ((⟨SX.k, SX.hk, 3, (now SX).pos⟩ : PS L))) by exact hpp) rfl rfl rfl, rk_load (T' := 83) (cs := [.sl 3 (encTs L) .frz, .int .i64 ((⟨SX.k, SX.hk, 3, (now SX).pos⟩ : PS L)).k, .int .i64 0, .int .i64 ((⟨SX.k, SX.hk, 3, (now SX).pos⟩ : PS L)).e, .int .i64 ((⟨SX.k, SX.hk, 3, (now SX).pos⟩ : PS L)).f]) (tt rfl) rfl rfl (show _ = some (par 0 ((⟨SX.k, SX.hk, 3, (now SX).pos⟩ : PS L))) by exact hpp) rfl rfl rfl, trivial⟩, ?_⟩)
                  refine gt1 ?_
                  refine fin_sub subss (.ret _ _ ?_) ⟨rfl, rfl⟩
                  refine WeakL.tuple (.cons (WeakL.agg ?_) (.refl _))
                  exact wkk
              · have w1 : (SX.e == 0) = false := beq_eq_false_iff_ne.2 he0
                try simp only at w1
                have w3 : (SX.e != 0) = true := bne_iff_ne.2 he0
                try simp only at w3
                rw [if_neg (fun q => he0 q.1)] at H
                subst H
                rw [outQ_bad hrel he0]
                refine gt1 ?_
                (refine s_store (tt rfl) rfl rfl hpp rfl rfl rfl rfl ⟨⟨rk_load (T' := 83) (cs := [.sl 3 (encTs L) .frz, .int .i64 (SX).k, .int .i64 0, .int .i64 (SX).e, .int .i64 (SX).f]) (tt rfl) rfl rfl (show _ = some (par 0 (SX)) by exact hpp) rfl rfl rfl, rk_load (T' := 83) (cs := [.sl 3 (encTs L) .frz, .int .i64 (SX).k, .int .i64 0, .int .i64 (SX).e, .int .i64 (SX).f]) (tt rfl) rfl rfl (show _ = some (par 0 (SX)) by exact hpp) rfl rfl rfl, trivial⟩, ?_⟩)
                refine gt1 ?_
                refine fin_sub subss (.ret _ _ ?_) ⟨rfl, rfl⟩
                refine WeakL.tuple (.cons (WeakL.agg ?_) (.refl _))
                exact wkk
            · have w0 : (wordR strategyWords 0 (⟨s4.k + 1, hl, s4.e, s4.f⟩ : PS L) == -1) = false := by simp [hw1]
              obtain ⟨xw, hxw⟩ := wordR_is hw1
              have hl2 := is_last hL (.inl rfl) hxw
              simp only [if_neg hw1, pb_mk, adv_k hl2] at H
              simp only at hl2
              simp only [Option.some.injEq] at H
              by_cases he0 : (⟨s4.k + 1 + 1, hl2, s4.e, s4.f⟩ : PS L).e = 0
              · by_cases hk0 : (now (⟨s4.k + 1 + 1, hl2, s4.e, s4.f⟩ : PS L)).kind = 101
                · have w1 : ((⟨s4.k + 1 + 1, hl2, s4.e, s4.f⟩ : PS L).e == 0) = true := beq_iff_eq.2 he0
                  try simp only at w1
                  have w2 : (((now (⟨s4.k + 1 + 1, hl2, s4.e, s4.f⟩ : PS L)).kind : Int) != 101) = false := by rw [hk0]; rfl
                  have w3 : ((⟨s4.k + 1 + 1, hl2, s4.e, s4.f⟩ : PS L).e != 0) = false := by rw [show (⟨s4.k + 1 + 1, hl2, s4.e, s4.f⟩ : PS L).e = 0 from he0]; rfl
                  try simp only at w3
                  rw [if_neg (by simp [hk0])] at H
                  subst H
                  rw [outQ_ok hrel he0]
                  refine gt1 ?_
                  refine s_call rfl rfl rfl ca47 ?_
                  refine (c47 (σ := (⟨s4.k + 1 + 1, hl2, s4.e, s4.f⟩ : PS L)) hL hpp).mono ?_
                  rintro _ _ ⟨rfl, rfl⟩
                  refine back trivial ?_
                  refine gt1 ?_
                  rcases hsz with rfl | ⟨rfl, rfl⟩
                  · refine fin_sub subss (.ret _ _ ?_) ⟨rfl, rfl⟩
                    refine WeakL.tuple (.cons (WeakL.agg ?_) (.refl _))
                    exact wkk
                  · refine fin_sub subss (.ret _ _ ?_) ⟨rfl, rfl⟩
                    refine WeakL.tuple (.cons (WeakL.agg ?_) (.refl _))
                    exact wkk
                · have w1 : ((⟨s4.k + 1 + 1, hl2, s4.e, s4.f⟩ : PS L).e == 0) = true := beq_iff_eq.2 he0
                  try simp only at w1
                  have w2 : (((now (⟨s4.k + 1 + 1, hl2, s4.e, s4.f⟩ : PS L)).kind : Int) != 101) = true := by rw [bne_iff_ne]; omega
                  rw [if_pos ⟨he0, hk0⟩] at H
                  have hwr : wrong (⟨s4.k + 1 + 1, hl2, s4.e, s4.f⟩ : PS L) = ⟨(⟨s4.k + 1 + 1, hl2, s4.e, s4.f⟩ : PS L).k, (⟨s4.k + 1 + 1, hl2, s4.e, s4.f⟩ : PS L).hk, 3, (now (⟨s4.k + 1 + 1, hl2, s4.e, s4.f⟩ : PS L)).pos⟩ := by unfold wrong err; rw [if_pos he0]
                  rw [hwr] at H
                  subst H
                  rw [outQ_bad hrel (by simp)]
                  refine gt1 ?_
                  refine s_call rfl rfl rfl ca47 ?_
                  refine (c47 (σ := (⟨s4.k + 1 + 1, hl2, s4.e, s4.f⟩ : PS L)) hL hpp).mono ?_
                  rintro _ _ ⟨rfl, rfl⟩
                  refine back trivial ?_
                  refine gt1 ?_
                  refine s_call rfl rfl rfl ca43 ?_
                  refine (c43 (σ := (⟨s4.k + 1 + 1, hl2, s4.e, s4.f⟩ : PS L)) hL hpp).mono ?_
                  rintro _ _ ⟨rfl, rfl⟩
                  refine back trivial ?_
                  rw [hwr]
                  have w4 : ((⟨(⟨s4.k + 1 + 1, hl2, s4.e, s4.f⟩ : PS L).k, (⟨s4.k + 1 + 1, hl2, s4.e, s4.f⟩ : PS L).hk, 3, (now (⟨s4.k + 1 + 1, hl2, s4.e, s4.f⟩ : PS L)).pos⟩ : PS L).e != 0) = true := rfl
                  refine gt1 ?_
                  (refine s_store (tt rfl) rfl rfl hpp rfl rfl rfl rfl ⟨⟨rk_load (T' := 83) (cs := [.sl 3 (encTs L) .frz, .int .i64 ((⟨(⟨s4.k + 1 + 1, hl2, s4.e, s4.f⟩ : PS L).k, (⟨s4.k + 1 + 1, hl2, s4.e, s4.f⟩ : PS L).hk, 3, (now (⟨s4.k + 1 + 1, hl2, s4.e, s4.f⟩ : PS L)).pos⟩ : PS L)).k, .int .i64 0, .int .i64 ((⟨(⟨s4.k + 1 + 1, hl2, s4.e, s4.f⟩ : PS L).k, (⟨s4.k + 1 + 1, hl2, s4.e, s4.f⟩ : PS L).hk, 3, (now (⟨s4.k + 1 + 1, hl2, s4.e, s4.f⟩ : PS L)).pos⟩ : PS L)).e, .int .i64 ((⟨(⟨s4.k + 1 + 1, hl2, s4.e, s4.f⟩ : PS L).k, (⟨s4.k + 1 + 1, hl2, s4.e, s4.f⟩ : PS L).hk, 3, (now (⟨s4.k + 1 + 1, hl2, s4.e, s4.f⟩ : PS L)).pos⟩ : PS L)).f]) (tt rfl) rfl rfl (show _ = some (par 0 ((⟨(⟨s4.k + 1 + 1, hl2, s4.e, s4.f⟩ : PS L).k, (⟨s4.k + 1 + 1, hl2, s4.e, s4.f⟩ : PS L).hk, 3, (now (⟨s4.k + 1 + 1, hl2, s4.e, s4.f⟩ : PS L)).pos⟩ : PS L))) by exact hpp) rfl rfl rfl, rk_load (T' := 83) (cs := [.sl 3 (encTs L) .frz, .int .i64 ((⟨(⟨s4.k + 1 + 1, hl2, s4.e, s4.f⟩ : PS L).k, (⟨s4.k + 1 + 1, hl2, s4.e, s4.f⟩ : PS L).hk, 3, (now (⟨s4.k + 1 + 1, hl2, s4.e, s4.f⟩ : PS L)).pos⟩ : PS L)).k, .int .i64 0, .int .i64 ((⟨(⟨s4.k + 1 + 1, hl2, s4.e, s4.f⟩ : PS L).k, (⟨s4.k + 1 + 1, hl2, s4.e, s4.f⟩ : PS L).hk, 3, (now (⟨s4.k + 1 + 1, hl2, s4.e, s4.f⟩ : PS L)).pos⟩ : PS L)).e, .int .i64 ((⟨(⟨s4.k + 1 + 1, hl2, s4.e, s4.f⟩ : PS L).k, (⟨s4.k + 1 + 1, hl2, s4.e, s4.f⟩ : PS L).hk, 3, (now (⟨s4.k + 1 + 1, hl2, s4.e, s4.f⟩ : PS L)).pos⟩ : PS L)).f]) (tt rfl) rfl rfl (show _ = some (par 0 ((⟨(⟨s4.k + 1 + 1, hl2, s4.e, s4.f⟩ : PS L).k, (⟨s4.k + 1 + 1, hl2, s4.e, s4.f⟩ : PS L).hk, 3, (now (⟨s4.k + 1 + 1, hl2, s4.e, s4.f⟩ : PS L)).pos⟩ : PS L))) by exact hpp) rfl rfl rfl, trivial⟩, ?_⟩)
                  refine gt1 ?_
                  refine fin_sub subss (.ret _ _ ?_) ⟨rfl, rfl⟩
                  refine WeakL.tuple (.cons (WeakL.agg ?_) (.refl _))
                  exact wkk
              · have w1 : ((⟨s4.k + 1 + 1, hl2, s4.e, s4.f⟩ : PS L).e == 0) = false := beq_eq_false_iff_ne.2 he0
                try simp only at w1
                have w3 : ((⟨s4.k + 1 + 1, hl2, s4.e, s4.f⟩ : PS L).e != 0) = true := bne_iff_ne.2 he0
                try simp only at w3
                rw [if_neg (fun q => he0 q.1)] at H
                subst H
                rw [outQ_bad hrel he0]
                refine gt1 ?_
                (refine s_store (tt rfl) rfl rfl hpp rfl rfl rfl rfl ⟨⟨rk_load (T' := 83) (cs := [.sl 3 (encTs L) .frz, .int .i64 ((⟨s4.k + 1 + 1, hl2, s4.e, s4.f⟩ : PS L)).k, .int .i64 0, .int .i64 ((⟨s4.k + 1 + 1, hl2, s4.e, s4.f⟩ : PS L)).e, .int .i64 ((⟨s4.k + 1 + 1, hl2, s4.e, s4.f⟩ : PS L)).f]) (tt rfl) rfl rfl (show _ = some (par 0 ((⟨s4.k + 1 + 1, hl2, s4.e, s4.f⟩ : PS L))) by exact hpp) rfl rfl rfl, rk_load (T' := 83) (cs := [.sl 3 (encTs L) .frz, .int .i64 ((⟨s4.k + 1 + 1, hl2, s4.e, s4.f⟩ : PS L)).k, .int .i64 0, .int .i64 ((⟨s4.k + 1 + 1, hl2, s4.e, s4.f⟩ : PS L)).e, .int .i64 ((⟨s4.k + 1 + 1, hl2, s4.e, s4.f⟩ : PS L)).f]) (tt rfl) rfl rfl (show _ = some (par 0 ((⟨s4.k + 1 + 1, hl2, s4.e, s4.f⟩ : PS L))) by exact hpp) rfl rfl rfl, trivial⟩, ?_⟩)
                refine gt1 ?_
                refine fin_sub subss (.ret _ _ ?_) ⟨rfl, rfl⟩
                refine WeakL.tuple (.cons (WeakL.agg ?_) (.refl _))
                exact wkk
          · rw [hz]
            simp only [pb_mk] at H
            simp only [Option.some.injEq] at H
            by_cases he0 : s4.e = 0
            · by_cases hk0 : (now s4).kind = 101
              · have w1 : (s4.e == 0) = true := beq_iff_eq.2 he0
                try simp only at w1
                have w2 : (((now s4).kind : Int) != 101) = false := by rw [hk0]; rfl
                have w3 : (s4.e != 0) = false := by rw [show s4.e = 0 from he0]; rfl
                try simp only at w3
                rw [if_neg (by simp [hk0])] at H
                subst H
                rw [outQ_ok hrel he0]
                refine gt1 ?_
                refine s_call rfl rfl rfl ca47 ?_
                refine (c47 (σ := s4) hL hpp).mono ?_
                rintro _ _ ⟨rfl, rfl⟩
                refine back trivial ?_
                refine gt1 ?_
                rcases hsz with rfl | ⟨rfl, rfl⟩
                · refine fin_sub subss (.ret _ _ ?_) ⟨rfl, rfl⟩
                  refine WeakL.tuple (.cons (WeakL.agg ?_) (.refl _))
                  exact wkk
                · refine fin_sub subss (.ret _ _ ?_) ⟨rfl, rfl⟩
                  refine WeakL.tuple (.cons (WeakL.agg ?_) (.refl _))
                  exact wkk
              · have w1 : (s4.e == 0) = true := beq_iff_eq.2 he0
                try simp only at w1
                have w2 : (((now s4).kind : Int) != 101) = true := by rw [bne_iff_ne]; omega
                rw [if_pos ⟨he0, hk0⟩] at H
                have hwr : wrong s4 = ⟨s4.k, s4.hk, 3, (now s4).pos⟩ := by unfold wrong err; rw [if_pos he0]
                rw [hwr] at H
                subst H
                rw [outQ_bad hrel (by simp)]
                refine gt1 ?_
                refine s_call rfl rfl rfl ca47 ?_
                refine (c47 (σ := s4) hL hpp).mono ?_
                rintro _ _ ⟨rfl, rfl⟩
                refine back trivial ?_
                refine gt1 ?_
                refine s_call rfl rfl rfl ca43 ?_
                refine (c43 (σ := s4) hL hpp).mono ?_
                rintro _ _ ⟨rfl, rfl⟩
                refine back trivial ?_
                rw [hwr]
                have w4 : ((⟨s4.k, s4.hk, 3, (now s4).pos⟩ : PS L).e != 0) = true := rfl
                refine gt1 ?_
                (refine s_store (tt rfl) rfl rfl hpp rfl rfl rfl rfl ⟨⟨rk_load (T' := 83) (cs := [.sl 3 (encTs L) .frz, .int .i64 ((⟨s4.k, s4.hk, 3, (now s4).pos⟩ : PS L)).k, .int .i64 0, .int .i64 ((⟨s4.k, s4.hk, 3, (now s4).pos⟩ : PS L)).e, .int .i64 ((⟨s4.k, s4.hk, 3, (now s4).pos⟩ : PS L)).f]) (tt rfl) rfl rfl (show _ = some (par 0 ((⟨s4.k, s4.hk, 3, (now s4).pos⟩ : PS L))) by exact hpp) rfl rfl rfl, rk_load (T' := 83) (cs := [.sl 3 (encTs L) .frz, .int .i64 ((⟨s4.k, s4.hk, 3, (now s4).pos⟩ : PS L)).k, .int .i64 0, .int .i64 ((⟨s4.k, s4.hk, 3, (now s4).pos⟩ : PS L)).e, .int .i64 ((⟨s4.k, s4.hk, 3, (now s4).pos⟩ : PS L)).f]) (tt rfl) rfl rfl (show _ = some (par 0 ((⟨s4.k, s4.hk, 3, (now s4).pos⟩ : PS L))) by exact hpp) rfl rfl rfl, trivial⟩, ?_⟩)
                refine gt1 ?_
                refine fin_sub subss (.ret _ _ ?_) ⟨rfl, rfl⟩
                refine WeakL.tuple (.cons (WeakL.agg ?_) (.refl _))
                exact wkk
            · have w1 : (s4.e == 0) = false := beq_eq_false_iff_ne.2 he0
              try simp only at w1
              have w3 : (s4.e != 0) = true := bne_iff_ne.2 he0
              try simp only at w3
              rw [if_neg (fun q => he0 q.1)] at H
              subst H
              rw [outQ_bad hrel he0]
              refine gt1 ?_
              (refine s_store (tt rfl) rfl rfl hpp rfl rfl rfl rfl ⟨⟨rk_load (T' := 83) (cs := [.sl 3 (encTs L) .frz, .int .i64 (s4).k, .int .i64 0, .int .i64 (s4).e, .int .i64 (s4).f]) (tt rfl) rfl rfl (show _ = some (par 0 (s4)) by exact hpp) rfl rfl rfl, rk_load (T' := 83) (cs := [.sl 3 (encTs L) .frz, .int .i64 (s4).k, .int .i64 0, .int .i64 (s4).e, .int .i64 (s4).f]) (tt rfl) rfl rfl (show _ = some (par 0 (s4)) by exact hpp) rfl rfl rfl, trivial⟩, ?_⟩)
              refine gt1 ?_
              refine fin_sub subss (.ret _ _ ?_) ⟨rfl, rfl⟩
              refine WeakL.tuple (.cons (WeakL.agg ?_) (.refl _))
              exact wkk
        | false =>
          simp only [Bool.false_eq_true, if_false] at H
          refine gt1 ?_
          refine s_call rfl rfl rfl ca45 ?_
          refine (c45 (σ := s3) hL 110 [115, 116, 114, 97, 116, 101, 103, 121] hpp).mono ?_
          rintro _ _ ⟨rfl, rfl⟩
          refine back trivial ?_
          unfold rStrategy at H
          rcases Bool.eq_false_or_eq_true (is 110 [115, 116, 114, 97, 116, 101, 103, 121] s3) with hz | hz <;> simp only [hz, sbb] at H
          · rw [hz]
            have hl := is_last hL (.inl rfl) hz
            rw [adv_k hl] at H
            have hkS := s3.hk
            have hlenS := hL.len
            refine gt1 ?_
            refine s_call rfl rfl rfl ca46 ?_
            refine (c46).mono ?_
            rintro _ _ ⟨rfl, rfl⟩
            refine back trivial ?_
            refine gt1 ?_
            refine s_call rfl rfl rfl ca41 ?_
            refine (c41 (σ := (⟨s3.k + 1, hl, s3.e, s3.f⟩ : PS L)) hL strategyWords (by decide) 0 (by decide) hpp).mono ?_
            rintro _ _ ⟨rfl, rfl⟩
            refine back trivial ?_
            by_cases hw1 : wordR strategyWords 0 (⟨s3.k + 1, hl, s3.e, s3.f⟩ : PS L) = -1
            · have w0 : (wordR strategyWords 0 (⟨s3.k + 1, hl, s3.e, s3.f⟩ : PS L) == -1) = true := by simp [hw1]
              simp only [if_pos hw1, pb_mk] at H
              refine gt1 ?_
              refine s_call rfl rfl rfl ca43 ?_
              refine (c43 (σ := (⟨s3.k + 1, hl, s3.e, s3.f⟩ : PS L)) hL hpp).mono ?_
              rintro _ _ ⟨rfl, rfl⟩
              refine back trivial ?_
              obtain ⟨SX, hSX⟩ : ∃ z, z = wrong (⟨s3.k + 1, hl, s3.e, s3.f⟩ : PS L) := ⟨_, rfl⟩
              rw [← hSX] at H ⊢
              simp only [Option.some.injEq] at H
              by_cases he0 : SX.e = 0
              · by_cases hk0 : (now SX).kind = 101
                · have w1 : (SX.e == 0) = true := beq_iff_eq.2 he0
                  try simp only at w1
                  have w2 : (((now SX).kind : Int) != 101) = false := by rw [hk0]; rfl
                  have w3 : (SX.e != 0) = false := by rw [show SX.e = 0 from he0]; rfl
                  try simp only at w3
                  rw [if_neg (by simp [hk0])] at H
                  subst H
                  rw [outQ_ok hrel he0]
                  refine gt1 ?_
                  refine s_call rfl rfl rfl ca47 ?_
                  refine (c47 (σ := SX) hL hpp).mono ?_
                  rintro _ _ ⟨rfl, rfl⟩
                  refine back trivial ?_
                  refine gt1 ?_
                  rcases hsz with rfl | ⟨rfl, rfl⟩
                  · refine fin_sub subss (.ret _ _ ?_) ⟨rfl, rfl⟩
                    refine WeakL.tuple (.cons (WeakL.agg ?_) (.refl _))
                    exact wkk
                  · refine fin_sub subss (.ret _ _ ?_) ⟨rfl, rfl⟩
                    refine WeakL.tuple (.cons (WeakL.agg ?_) (.refl _))
                    exact wkk
                · have w1 : (SX.e == 0) = true := beq_iff_eq.2 he0
                  try simp only at w1
                  have w2 : (((now SX).kind : Int) != 101) = true := by rw [bne_iff_ne]; omega
                  rw [if_pos ⟨he0, hk0⟩] at H
                  have hwr : wrong SX = ⟨SX.k, SX.hk, 3, (now SX).pos⟩ := by unfold wrong err; rw [if_pos he0]
                  rw [hwr] at H
                  subst H
                  rw [outQ_bad hrel (by simp)]
                  refine gt1 ?_
                  refine s_call rfl rfl rfl ca47 ?_
                  refine (c47 (σ := SX) hL hpp).mono ?_
                  rintro _ _ ⟨rfl, rfl⟩
                  refine back trivial ?_
                  refine gt1 ?_
                  refine s_call rfl rfl rfl ca43 ?_
                  refine (c43 (σ := SX) hL hpp).mono ?_
                  rintro _ _ ⟨rfl, rfl⟩
                  refine back trivial ?_
                  rw [hwr]
                  have w4 : ((⟨SX.k, SX.hk, 3, (now SX).pos⟩ : PS L).e != 0) = true := rfl
                  refine gt1 ?_
                  (refine s_store (tt rfl) rfl rfl hpp rfl rfl rfl rfl ⟨⟨rk_load (T' := 83) (cs := [.sl 3 (encTs L) .frz, .int .i64 ((⟨SX.k, SX.hk, 3, (now SX).pos⟩ : PS L)).k, .int .i64 0, .int .i64 ((⟨SX.k, SX.hk, 3, (now SX).pos⟩ : PS L)).e, .int .i64 ((⟨SX.k, SX.hk, 3, (now SX).pos⟩ : PS L)).f]) (tt rfl) rfl rfl (show _ = some (par 0 ((⟨SX.k, SX.hk, 3, (now SX).pos⟩ : PS L))) by exact hpp) rfl rfl rfl, rk_load (T' := 83) (cs := [.sl 3 (encTs L) .frz, .int .i64 ((⟨SX.k, SX.hk, 3, (now SX).pos⟩ : PS L)).k, .int .i64 0, .int .i64 ((⟨SX.k, SX.hk, 3, (now SX).pos⟩ : PS L)).e, .int .i64 ((⟨SX.k, SX.hk, 3, (now SX).pos⟩ : PS L)).f]) (tt rfl) rfl rfl (show _ = some (par 0 ((⟨SX.k, SX.hk, 3, (now SX).pos⟩ : PS L))) by exact hpp) rfl rfl rfl, trivial⟩, ?_⟩)
                  refine gt1 ?_
                  refine fin_sub subss (.ret _ _ ?_) ⟨rfl, rfl⟩
                  refine WeakL.tuple (.cons (WeakL.agg ?_) (.refl _))
                  exact wkk
              · have w1 : (SX.e == 0) = false := beq_eq_false_iff_ne.2 he0
                try simp only at w1
                have w3 : (SX.e != 0) = true := bne_iff_ne.2 he0
                try simp only at w3
                rw [if_neg (fun q => he0 q.1)] at H
                subst H
                rw [outQ_bad hrel he0]
                refine gt1 ?_
                (refine s_store (tt rfl) rfl rfl hpp rfl rfl rfl rfl ⟨⟨rk_load (T' := 83) (cs := [.sl 3 (encTs L) .frz, .int .i64 (SX).k, .int .i64 0, .int .i64 (SX).e, .int .i64 (SX).f]) (tt rfl) rfl rfl (show _ = some (par 0 (SX)) by exact hpp) rfl rfl rfl, rk_load (T' := 83) (cs := [.sl 3 (encTs L) .frz, .int .i64 (SX).k, .int .i64 0, .int .i64 (SX).e, .int .i64 (SX).f]) (tt rfl) rfl rfl (show _ = some (par 0 (SX)) by exact hpp) rfl rfl rfl, trivial⟩, ?_⟩)
                refine gt1 ?_
                refine fin_sub subss (.ret _ _ ?_) ⟨rfl, rfl⟩
                refine WeakL.tuple (.cons (WeakL.agg ?_) (.refl _))
                exact wkk
            · have w0 : (wordR strategyWords 0 (⟨s3.k + 1, hl, s3.e, s3.f⟩ : PS L) == -1) = false := by simp [hw1]
              obtain ⟨xw, hxw⟩ := wordR_is hw1
              have hl2 := is_last hL (.inl rfl) hxw
              simp only [if_neg hw1, pb_mk, adv_k hl2] at H
              simp only at hl2
              simp only [Option.some.injEq] at H
              by_cases he0 : (⟨s3.k + 1 + 1, hl2, s3.e, s3.f⟩ : PS L).e = 0
              · by_cases hk0 : (now (⟨s3.k + 1 + 1, hl2, s3.e, s3.f⟩ : PS L)).kind = 101
                · have w1 : ((⟨s3.k + 1 + 1, hl2, s3.e, s3.f⟩ : PS L).e == 0) = true := beq_iff_eq.2 he0
                  try simp only at w1
                  have w2 : (((now (⟨s3.k + 1 + 1, hl2, s3.e, s3.f⟩ : PS L)).kind : Int) != 101) = false := by rw [hk0]; rfl
                  have w3 : ((⟨s3.k + 1 + 1, hl2, s3.e, s3.f⟩ : PS L).e != 0) = false := by rw [show (⟨s3.k + 1 + 1, hl2, s3.e, s3.f⟩ : PS L).e = 0 from he0]; rfl
                  try simp only at w3
                  rw [if_neg (by simp [hk0])] at H
                  subst H
                  rw [outQ_ok hrel he0]
                  refine gt1 ?_
                  refine s_call rfl rfl rfl ca47 ?_
                  refine (c47 (σ := (⟨s3.k + 1 + 1, hl2, s3.e, s3.f⟩ : PS L)) hL hpp).mono ?_
                  rintro _ _ ⟨rfl, rfl⟩
                  refine back trivial ?_
                  refine gt1 ?_
                  rcases hsz with rfl | ⟨rfl, rfl⟩
                  · refine fin_sub subss (.ret _ _ ?_) ⟨rfl, rfl⟩
                    refine WeakL.tuple (.cons (WeakL.agg ?_) (.refl _))
                    exact wkk
                  · refine fin_sub subss (.ret _ _ ?_) ⟨rfl, rfl⟩
                    refine WeakL.tuple (.cons (WeakL.agg ?_) (.refl _))
                    exact wkk
                · have w1 : ((⟨s3.k + 1 + 1, hl2, s3.e, s3.f⟩ : PS L).e == 0) = true := beq_iff_eq.2 he0
                  try simp only at w1
                  have w2 : (((now (⟨s3.k + 1 + 1, hl2, s3.e, s3.f⟩ : PS L)).kind : Int) != 101) = true := by rw [bne_iff_ne]; omega
                  rw [if_pos ⟨he0, hk0⟩] at H
                  have hwr : wrong (⟨s3.k + 1 + 1, hl2, s3.e, s3.f⟩ : PS L) = ⟨(⟨s3.k + 1 + 1, hl2, s3.e, s3.f⟩ : PS L).k, (⟨s3.k + 1 + 1, hl2, s3.e, s3.f⟩ : PS L).hk, 3, (now (⟨s3.k + 1 + 1, hl2, s3.e, s3.f⟩ : PS L)).pos⟩ := by unfold wrong err; rw [if_pos he0]
                  rw [hwr] at H
                  subst H
                  rw [outQ_bad hrel (by simp)]
                  refine gt1 ?_
                  refine s_call rfl rfl rfl ca47 ?_
                  refine (c47 (σ := (⟨s3.k + 1 + 1, hl2, s3.e, s3.f⟩ : PS L)) hL hpp).mono ?_
                  rintro _ _ ⟨rfl, rfl⟩
                  refine back trivial ?_
                  refine gt1 ?_
                  refine s_call rfl rfl rfl ca43 ?_
                  refine (c43 (σ := (⟨s3.k + 1 + 1, hl2, s3.e, s3.f⟩ : PS L)) hL hpp).mono ?_
                  rintro _ _ ⟨rfl, rfl⟩
                  refine back trivial ?_
                  rw [hwr]
                  have w4 : ((⟨(⟨s3.k + 1 + 1, hl2, s3.e, s3.f⟩ : PS L).k, (⟨s3.k + 1 + 1, hl2, s3.e, s3.f⟩ : PS L).hk, 3, (now (⟨s3.k + 1 + 1, hl2, s3.e, s3.f⟩ : PS L)).pos⟩ : PS L).e != 0) = true := rfl
                  refine gt1 ?_
                  (refine s_store (tt rfl) rfl rfl hpp rfl rfl rfl rfl ⟨⟨rk_load (T' := 83) (cs := [.sl 3 (encTs L) .frz, .int .i64 ((⟨(⟨s3.k + 1 + 1, hl2, s3.e, s3.f⟩ : PS L).k, (⟨s3.k + 1 + 1, hl2, s3.e, s3.f⟩ : PS L).hk, 3, (now (⟨s3.k + 1 + 1, hl2, s3.e, s3.f⟩ : PS L)).pos⟩ : PS L)).k, .int .i64 0, .int .i64 ((⟨(⟨s3.k + 1 + 1, hl2, s3.e, s3.f⟩ : PS L).k, (⟨s3.k + 1 + 1, hl2, s3.e, s3.f⟩ : PS L).hk, 3, (now (⟨s3.k + 1 + 1, hl2, s3.e, s3.f⟩ : PS L)).pos⟩ : PS L)).e, .int .i64 ((⟨(⟨s3.k + 1 + 1, hl2, s3.e, s3.f⟩ : PS L).k, (⟨s3.k + 1 + 1, hl2, s3.e, s3.f⟩ : PS L).hk, 3, (now (⟨s3.k + 1 + 1, hl2, s3.e, s3.f⟩ : PS L)).pos⟩ : PS L)).f]) (tt rfl) rfl rfl (show _ = some (par 0 ((⟨(⟨s3.k + 1 + 1, hl2, s3.e, s3.f⟩ : PS L).k, (⟨s3.k + 1 + 1, hl2, s3.e, s3.f⟩ : PS L).hk, 3, (now (⟨s3.k + 1 + 1, hl2, s3.e, s3.f⟩ : PS L)).pos⟩ : PS L))) by exact hpp) rfl rfl rfl, rk_load (T' := 83) (cs := [.sl 3 (encTs L) .frz, .int .i64 ((⟨(⟨s3.k + 1 + 1, hl2, s3.e, s3.f⟩ : PS L).k, (⟨s3.k + 1 + 1, hl2, s3.e, s3.f⟩ : PS L).hk, 3, (now (⟨s3.k + 1 + 1, hl2, s3.e, s3.f⟩ : PS L)).pos⟩ : PS L)).k, .int .i64 0, .int .i64 ((⟨(⟨s3.k + 1 + 1, hl2, s3.e, s3.f⟩ : PS L).k, (⟨s3.k + 1 + 1, hl2, s3.e, s3.f⟩ : PS L).hk, 3, (now (⟨s3.k + 1 + 1, hl2, s3.e, s3.f⟩ : PS L)).pos⟩ : PS L)).e, .int .i64 ((⟨(⟨s3.k + 1 + 1, hl2, s3.e, s3.f⟩ : PS L).k, (⟨s3.k + 1 + 1, hl2, s3.e, s3.f⟩ : PS L).hk, 3, (now (⟨s3.k + 1 + 1, hl2, s3.e, s3.f⟩ : PS L)).pos⟩ : PS L)).f]) (tt rfl) rfl rfl (show _ = some (par 0 ((⟨(⟨s3.k + 1 + 1, hl2, s3.e, s3.f⟩ : PS L).k, (⟨s3.k + 1 + 1, hl2, s3.e, s3.f⟩ : PS L).hk, 3, (now (⟨s3.k + 1 + 1, hl2, s3.e, s3.f⟩ : PS L)).pos⟩ : PS L))) by exact hpp) rfl rfl rfl, trivial⟩, ?_⟩)
                  refine gt1 ?_
                  refine fin_sub subss (.ret _ _ ?_) ⟨rfl, rfl⟩
                  refine WeakL.tuple (.cons (WeakL.agg ?_) (.refl _))
                  exact wkk
              · have w1 : ((⟨s3.k + 1 + 1, hl2, s3.e, s3.f⟩ : PS L).e == 0) = false := beq_eq_false_iff_ne.2 he0
                try simp only at w1
                have w3 : ((⟨s3.k + 1 + 1, hl2, s3.e, s3.f⟩ : PS L).e != 0) = true := bne_iff_ne.2 he0
                try simp only at w3
                rw [if_neg (fun q => he0 q.1)] at H
                subst H
                rw [outQ_bad hrel he0]
                refine gt1 ?_
                (refine s_store (tt rfl) rfl rfl hpp rfl rfl rfl rfl ⟨⟨rk_load (T' := 83) (cs := [.sl 3 (encTs L) .frz, .int .i64 ((⟨s3.k + 1 + 1, hl2, s3.e, s3.f⟩ : PS L)).k, .int .i64 0, .int .i64 ((⟨s3.k + 1 + 1, hl2, s3.e, s3.f⟩ : PS L)).e, .int .i64 ((⟨s3.k + 1 + 1, hl2, s3.e, s3.f⟩ : PS L)).f]) (tt rfl) rfl rfl (show _ = some (par 0 ((⟨s3.k + 1 + 1, hl2, s3.e, s3.f⟩ : PS L))) by exact hpp) rfl rfl rfl, rk_load (T' := 83) (cs := [.sl 3 (encTs L) .frz, .int .i64 ((⟨s3.k + 1 + 1, hl2, s3.e, s3.f⟩ : PS L)).k, .int .i64 0, .int .i64 ((⟨s3.k + 1 + 1, hl2, s3.e, s3.f⟩ : PS L)).e, .int .i64 ((⟨s3.k + 1 + 1, hl2, s3.e, s3.f⟩ : PS L)).f]) (tt rfl) rfl rfl (show _ = some (par 0 ((⟨s3.k + 1 + 1, hl2, s3.e, s3.f⟩ : PS L))) by exact hpp) rfl rfl rfl, trivial⟩, ?_⟩)
                refine gt1 ?_
                refine fin_sub subss (.ret _ _ ?_) ⟨rfl, rfl⟩
                refine WeakL.tuple (.cons (WeakL.agg ?_) (.refl _))
                exact wkk
          · rw [hz]
            simp only [pb_mk] at H
            simp only [Option.some.injEq] at H
            by_cases he0 : s3.e = 0
            · by_cases hk0 : (now s3).kind = 101
              · have w1 : (s3.e == 0) = true := beq_iff_eq.2 he0
                try simp only at w1
                have w2 : (((now s3).kind : Int) != 101) = false := by rw [hk0]; rfl
                have w3 : (s3.e != 0) = false := by rw [show s3.e = 0 from he0]; rfl
                try simp only at w3
                rw [if_neg (by simp [hk0])] at H
                subst H
                rw [outQ_ok hrel he0]
                refine gt1 ?_
                refine s_call rfl rfl rfl ca47 ?_
                refine (c47 (σ := s3) hL hpp).mono ?_
                rintro _ _ ⟨rfl, rfl⟩
                refine back trivial ?_
                refine gt1 ?_
                rcases hsz with rfl | ⟨rfl, rfl⟩
                · refine fin_sub subss (.ret _ _ ?_) ⟨rfl, rfl⟩
                  refine WeakL.tuple (.cons (WeakL.agg ?_) (.refl _))
                  exact wkk
                · refine fin_sub subss (.ret _ _ ?_) ⟨rfl, rfl⟩
                  refine WeakL.tuple (.cons (WeakL.agg ?_) (.refl _))
                  exact wkk
              · have w1 : (s3.e == 0) = true := beq_iff_eq.2 he0
                try simp only at w1
                have w2 : (((now s3).kind : Int) != 101) = true := by rw [bne_iff_ne]; omega
                rw [if_pos ⟨he0, hk0⟩] at H
                have hwr : wrong s3 = ⟨s3.k, s3.hk, 3, (now s3).pos⟩ := by unfold wrong err; rw [if_pos he0]
                rw [hwr] at H
                subst H
                rw [outQ_bad hrel (by simp)]
                refine gt1 ?_
                refine s_call rfl rfl rfl ca47 ?_
                refine (c47 (σ := s3) hL hpp).mono ?_
                rintro _ _ ⟨rfl, rfl⟩
                refine back trivial ?_
                refine gt1 ?_
                refine s_call rfl rfl rfl ca43 ?_
                refine (c43 (σ := s3) hL hpp).mono ?_
                rintro _ _ ⟨rfl, rfl⟩
                refine back trivial ?_
                rw [hwr]
                have w4 : ((⟨s3.k, s3.hk, 3, (now s3).pos⟩ : PS L).e != 0) = true := rfl
                refine gt1 ?_
                (refine s_store (tt rfl) rfl rfl hpp rfl rfl rfl rfl ⟨⟨rk_load (T' := 83) (cs := [.sl 3 (encTs L) .frz, .int .i64 ((⟨s3.k, s3.hk, 3, (now s3).pos⟩ : PS L)).k, .int .i64 0, .int .i64 ((⟨s3.k, s3.hk, 3, (now s3).pos⟩ : PS L)).e, .int .i64 ((⟨s3.k, s3.hk, 3, (now s3).pos⟩ : PS L)).f]) (tt rfl) rfl rfl (show _ = some (par 0 ((⟨s3.k, s3.hk, 3, (now s3).pos⟩ : PS L))) by exact hpp) rfl rfl rfl, rk_load (T' := 83) (cs := [.sl 3 (encTs L) .frz, .int .i64 ((⟨s3.k, s3.hk, 3, (now s3).pos⟩ : PS L)).k, .int .i64 0, .int .i64 ((⟨s3.k, s3.hk, 3, (now s3).pos⟩ : PS L)).e, .int .i64 ((⟨s3.k, s3.hk, 3, (now s3).pos⟩ : PS L)).f]) (tt rfl) rfl rfl (show _ = some (par 0 ((⟨s3.k, s3.hk, 3, (now s3).pos⟩ : PS L))) by exact hpp) rfl rfl rfl, trivial⟩, ?_⟩)
                refine gt1 ?_
                refine fin_sub subss (.ret _ _ ?_) ⟨rfl, rfl⟩
                refine WeakL.tuple (.cons (WeakL.agg ?_) (.refl _))
                exact wkk
            · have w1 : (s3.e == 0) = false := beq_eq_false_iff_ne.2 he0
              try simp only at w1
              have w3 : (s3.e != 0) = true := bne_iff_ne.2 he0
              try simp only at w3
              rw [if_neg (fun q => he0 q.1)] at H
              subst H
              rw [outQ_bad hrel he0]
              refine gt1 ?_
              (refine s_store (tt rfl) rfl rfl hpp rfl rfl rfl rfl ⟨⟨rk_load (T' := 83) (cs := [.sl 3 (encTs L) .frz, .int .i64 (s3).k, .int .i64 0, .int .i64 (s3).e, .int .i64 (s3).f]) (tt rfl) rfl rfl (show _ = some (par 0 (s3)) by exact hpp) rfl rfl rfl, rk_load (T' := 83) (cs := [.sl 3 (encTs L) .frz, .int .i64 (s3).k, .int .i64 0, .int .i64 (s3).e, .int .i64 (s3).f]) (tt rfl) rfl rfl (show _ = some (par 0 (s3)) by exact hpp) rfl rfl rfl, trivial⟩, ?_⟩)
              refine gt1 ?_
              refine fin_sub subss (.ret _ _ ?_) ⟨rfl, rfl⟩
              refine WeakL.tuple (.cons (WeakL.agg ?_) (.refl _))
              exact wkk
      · have w0 : (wordR filterWords 1 s3 == -1) = false := by simp [ho]
        obtain ⟨xw, hxw⟩ := wordR_is ho
        have hl3 := is_last hL (.inl rfl) hxw
        rw [if_neg ho, adv_k hl3] at H
        have hk3 := s3.hk
        have hlen3 := hL.len
        refine gt1 ?_
        refine s_call rfl rfl rfl ca44 ?_
        refine call_q (c44 (σ := (⟨s3.k + 1, hl3, s3.e, s3.f⟩ : PS L)) hL 110 (by omega) [] hpp) fun nm s4 hr => back ⟨rk_load (tt rfl) rfl rfl hpp rfl rfl rfl, trivial⟩ ?_
        simp only [hr, pb_mk] at H
        refine gt1 ?_
        have hgb : b2 < (nx (b3 + 1)).next := by show b2 < b3 + 1; omega
        refine s_append (nx (b3 + 1)) rfl rfl (tt rfl) (tt rfl) rfl (hsz.imp id (·.2)) hnx (append_room (Room.set (Room.set (Room.set hroom hgb) hgb) hgb) (by rw [hlen])) (by simp only [hlen, List.length_cons, List.length_nil]; omega) fun tg' h2 hr2 hx2 => ⟨trivial, ?_⟩
        have k1 : h2.get b3 = some (.box 38 (encP (.mk op' (.mk o2 nm' ag vl lb fd kd2) lab reg lo hi kd) ++ (encG (.mk gop ga gb gn garg gv gf glo ghi gargs gkd) ++ [.sl sz (encFs acc) tg, .int .i64 0]))) := by
          rw [hx2.get b3 (show b3 < b3 + 1 by omega)]; exact hpp
        have k2 : h2.get b1 = some (.box 38 zQ) := by
          rw [hx2.get b1 (show b1 < b3 + 1 by omega)]; exact hpp
        have k3 : h2.get b2 = some (par 0 s4) := by
          rw [hx2.get b2 (show b2 < b3 + 1 by omega)]; exact hpp
        have k5 : Sub h h2 := hx2.sub h (show h.next ≤ b3 + 1 by omega) (by repeat first | exact .refl hw | assumption | (refine Sub.setl ?_ (by first | omega | (simp only [set_next, new_next]; omega)) _))
        have k4 := Nat.le_trans hnx hx2.next
        refine gt1 ?_
        refine l_n _ _ ?_ ?_ ⟨acc ++ [⟨wordR filterWords 1 s3, b, nm⟩], s4, tg', 3, H, .inl rfl, by simp; omega, .setl k5 (by omega) _, by exact hpp, ?_, ?_, by exact hpp, k4, rfl⟩
        · omega
        · exact envv
        · exact append_room (Room.set hr2 (show b3 < b3 + 1 by omega)) (by simp [hlen])
        · rw [hs_self]
          simp [setCells, encFs, encF, AVal.cells, encP, encG, encC]
  · refine s_call rfl rfl rfl ca39 ?_
    refine (c39_f (σ := s1) hL [58, 58] hx hpp).mono ?_
    rintro _ _ ⟨rfl, rfl⟩
    refine back trivial ?_
    refine gt1 ?_
    simp only [Con.zero, pbO_some] at H
    refine w_loop (fun e h' k => ∃ (acc : List Flt) (st' : PS L) (tg : Tag) (sz : Nat), pbO (rFilters k acc st') (fun fs σ => pb (rStrategy σ) fun k σ => some (⟨.mk op' (.mk o2 nm' ag vl lb fd kd2) lab reg lo hi kd, .mk 0 [] [] [] [] [] false 0 0 [] [], fs, k⟩, if σ.e = 0 ∧ (now σ).kind ≠ 101 then wrong σ else σ)) = some x ∧ (sz = 3 ∨ (acc = [] ∧ tg = .nl)) ∧ acc.length + k ≤ N ∧ Sub h h' ∧ h'.get b2 = some (par 0 st') ∧ Room (nx (b3 + 1)) h' 62 (acc.length * 3) tg ∧
        h'.get b3 = some (.box 38 (encP (.mk op' (.mk o2 nm' ag vl lb fd kd2) lab reg lo hi kd) ++ (zG ++ [.sl sz (encFs acc) tg, .int .i64 0]))) ∧ h'.get b1 = some (.box 38 zQ) ∧ b3 + 1 ≤ h'.next ∧
        e = [(5, true, .ptr b2 0), (2, true, .ptr b1 0), (6, true, .ptr b3 0)])
      _ _ (.cons rfl (.cons rfl (.cons rfl (.nil _)))) ⟨[], s1, .nl, 0, H, .inr ⟨rfl, rfl⟩, by simp, by repeat first | exact .refl hw | assumption | (refine Sub.setl ?_ (by first | omega | (simp only [set_next, new_next]; omega)) _) | (refine Sub.new ?_ (by first | omega | (simp only [set_next, new_next]; omega)) _), by exact hpp, trivial, by exact hpp, by exact hpp, by simp [set_next, new_next], rfl⟩ ?_
    rintro _ h' k ⟨acc, st', tg, sz, H, hsz, hak, hsub, hgx, hroom, hbx, hbz, hnx, rfl⟩
    cases k with
    | zero => simp only [rFilters, pbO] at H; cases H
    | succ k =>
      simp only [rFilters] at H
      have hlen : (encFs acc).length = acc.length := List.length_map ..
      by_cases he : st'.e = 0
      rotate_left
      · have hk1 : (st'.e == 0) = false := by simp [he]
        rw [if_neg he] at H
        simp only [pbO_some] at H
        refine gt1 ?_
        refine s_call rfl rfl rfl ca45 ?_
        refine (c45 (σ := st') hL 110 [115, 116, 114, 97, 116, 101, 103, 121] hpp).mono ?_
        rintro _ _ ⟨rfl, rfl⟩
        refine back trivial ?_
        unfold rStrategy at H
        rcases Bool.eq_false_or_eq_true (is 110 [115, 116, 114, 97, 116, 101, 103, 121] st') with hz | hz <;> simp only [hz, sbb] at H
        · rw [hz]
          have hl := is_last hL (.inl rfl) hz
          rw [adv_k hl] at H
          have hkS := st'.hk
          have hlenS := hL.len
          refine gt1 ?_
          refine s_call rfl rfl rfl ca46 ?_
          refine (c46).mono ?_
          rintro _ _ ⟨rfl, rfl⟩
          refine back trivial ?_
          refine gt1 ?_
          refine s_call rfl rfl rfl ca41 ?_
          refine (c41 (σ := (⟨st'.k + 1, hl, st'.e, st'.f⟩ : PS L)) hL strategyWords (by decide) 0 (by decide) hpp).mono ?_
          rintro _ _ ⟨rfl, rfl⟩
          refine back trivial ?_
          by_cases hw1 : wordR strategyWords 0 (⟨st'.k + 1, hl, st'.e, st'.f⟩ : PS L) = -1
          · have w0 : (wordR strategyWords 0 (⟨st'.k + 1, hl, st'.e, st'.f⟩ : PS L) == -1) = true := by simp [hw1]
            simp only [if_pos hw1, pb_mk] at H
            refine gt1 ?_
            refine s_call rfl rfl rfl ca43 ?_
            refine (c43 (σ := (⟨st'.k + 1, hl, st'.e, st'.f⟩ : PS L)) hL hpp).mono ?_
            rintro _ _ ⟨rfl, rfl⟩
            refine back trivial ?_
            obtain ⟨SX, hSX⟩ : ∃ z, z = wrong (⟨st'.k + 1, hl, st'.e, st'.f⟩ : PS L) := ⟨_, rfl⟩
            rw [← hSX] at H ⊢
            simp only [Option.some.injEq] at H
            by_cases he0 : SX.e = 0
            · by_cases hk0 : (now SX).kind = 101
              · have w1 : (SX.e == 0) = true := beq_iff_eq.2 he0
                try simp only at w1
                have w2 : (((now SX).kind : Int) != 101) = false := by rw [hk0]; rfl
                have w3 : (SX.e != 0) = false := by rw [show SX.e = 0 from he0]; rfl
                try simp only at w3
                rw [if_neg (by simp [hk0])] at H
                subst H
                rw [outQ_ok hrel he0]
                refine gt1 ?_
                refine s_call rfl rfl rfl ca47 ?_
                refine (c47 (σ := SX) hL hpp).mono ?_
                rintro _ _ ⟨rfl, rfl⟩
                refine back trivial ?_
                refine gt1 ?_
                rcases hsz with rfl | ⟨rfl, rfl⟩
                · refine fin_sub subss (.ret _ _ ?_) ⟨rfl, rfl⟩
                  refine WeakL.tuple (.cons (WeakL.agg ?_) (.refl _))
                  exact wkk
                · refine fin_sub subss (.ret _ _ ?_) ⟨rfl, rfl⟩
                  refine WeakL.tuple (.cons (WeakL.agg ?_) (.refl _))
                  exact wkk
              · have w1 : (SX.e == 0) = true := beq_iff_eq.2 he0
                try simp only at w1
                have w2 : (((now SX).kind : Int) != 101) = true := by rw [bne_iff_ne]; omega
                rw [if_pos ⟨he0, hk0⟩] at H
                have hwr : wrong SX = ⟨SX.k, SX.hk, 3, (now SX).pos⟩ := by unfold wrong err; rw [if_pos he0]
                rw [hwr] at H
                subst H
                rw [outQ_bad hrel (by simp)]
                refine gt1 ?_
                refine s_call rfl rfl rfl ca47 ?_
                refine (c47 (σ := SX) hL hpp).mono ?_
                rintro _ _ ⟨rfl, rfl⟩
                refine back trivial ?_
                refine gt1 ?_
                refine s_call rfl rfl rfl ca43 ?_
                refine (c43 (σ := SX) hL hpp).mono ?_
                rintro _ _ ⟨rfl, rfl⟩
                refine back trivial ?_
                rw [hwr]
                have w4 : ((⟨SX.k, SX.hk, 3, (now SX).pos⟩ : PS L).e != 0) = true := rfl
                refine gt1 ?_
                (refine s_store (tt rfl) rfl rfl hpp rfl rfl rfl rfl ⟨⟨rk_load (T' := 83) (cs := [.sl 3 (encTs L) .frz, .int .i64 ((⟨SX.k, SX.hk, 3, (now SX).pos⟩ : PS L)).k, .int .i64 0, .int .i64 ((⟨SX.k, SX.hk, 3, (now SX).pos⟩ : PS L)).e, .int .i64 ((⟨SX.k, SX.hk, 3, (now SX).pos⟩ : PS L)).f]) (tt rfl) rfl rfl (show _ = some (par 0 ((⟨SX.k, SX.hk, 3, (now SX).pos⟩ : PS L))) by exact hpp) rfl rfl rfl, rk_load (T' := 83) (cs := [.sl 3 (encTs L) .frz, .int .i64 ((⟨SX.k, SX.hk, 3, (now SX).pos⟩ : PS L)).k, .int .i64 0, .int .i64 ((⟨SX.k, SX.hk, 3, (now SX).pos⟩ : PS L)).e, .int .i64 ((⟨SX.k, SX.hk, 3, (now SX).pos⟩ : PS L)).f]) (tt rfl) rfl rfl (show _ = some (par 0 ((⟨SX.k, SX.hk, 3, (now SX).pos⟩ : PS L))) by exact hpp) rfl rfl rfl, trivial⟩, ?_⟩)
                refine gt1 ?_
                refine fin_sub subss (.ret _ _ ?_) ⟨rfl, rfl⟩
                refine WeakL.tuple (.cons (WeakL.agg ?_) (.refl _))
                exact wkk
            · have w1 : (SX.e == 0) = false := beq_eq_false_iff_ne.2 he0
              try simp only at w1
              have w3 : (SX.e != 0) = true := bne_iff_ne.2 he0
              try simp only at w3
              rw [if_neg (fun q => he0 q.1)] at H
              subst H
              rw [outQ_bad hrel he0]
              refine gt1 ?_
              (refine s_store (tt rfl) rfl rfl hpp rfl rfl rfl rfl ⟨⟨rk_load (T' := 83) (cs := [.sl 3 (encTs L) .frz, .int .i64 (SX).k, .int .i64 0, .int .i64 (SX).e, .int .i64 (SX).f]) (tt rfl) rfl rfl (show _ = some (par 0 (SX)) by exact hpp) rfl rfl rfl, rk_load (T' := 83) (cs := [.sl 3 (encTs L) .frz, .int .i64 (SX).k, .int .i64 0, .int .i64 (SX).e, .int .i64 (SX).f]) (tt rfl) rfl rfl (show _ = some (par 0 (SX)) by exact hpp) rfl rfl rfl, trivial⟩, ?_⟩)
              refine gt1 ?_
              refine fin_sub subss (.ret _ _ ?_) ⟨rfl, rfl⟩
              refine WeakL.tuple (.cons (WeakL.agg ?_) (.refl _))
              exact wkk
          · have w0 : (wordR strategyWords 0 (⟨st'.k + 1, hl, st'.e, st'.f⟩ : PS L) == -1) = false := by simp [hw1]
            obtain ⟨xw, hxw⟩ := wordR_is hw1
            have hl2 := is_last hL (.inl rfl) hxw
            simp only [if_neg hw1, pb_mk, adv_k hl2] at H
            simp only at hl2
            simp only [Option.some.injEq] at H
            by_cases he0 : (⟨st'.k + 1 + 1, hl2, st'.e, st'.f⟩ : PS L).e = 0
            · by_cases hk0 : (now (⟨st'.k + 1 + 1, hl2, st'.e, st'.f⟩ : PS L)).kind = 101
              · have w1 : ((⟨st'.k + 1 + 1, hl2, st'.e, st'.f⟩ : PS L).e == 0) = true := beq_iff_eq.2 he0
                try simp only at w1
                have w2 : (((now (⟨st'.k + 1 + 1, hl2, st'.e, st'.f⟩ : PS L)).kind : Int) != 101) = false := by rw [hk0]; rfl
                have w3 : ((⟨st'.k + 1 + 1, hl2, st'.e, st'.f⟩ : PS L).e != 0) = false := by rw [show (⟨st'.k + 1 + 1, hl2, st'.e, st'.f⟩ : PS L).e = 0 from he0]; rfl
                try simp only at w3
                rw [if_neg (by simp [hk0])] at H
                subst H
                rw [outQ_ok hrel he0]
                refine gt1 ?_
                refine s_call rfl rfl rfl ca47 ?_
                refine (c47 (σ := (⟨st'.k + 1 + 1, hl2, st'.e, st'.f⟩ : PS L)) hL hpp).mono ?_
                rintro _ _ ⟨rfl, rfl⟩
                refine back trivial ?_
                refine gt1 ?_
                rcases hsz with rfl | ⟨rfl, rfl⟩
                · refine fin_sub subss (.ret _ _ ?_) ⟨rfl, rfl⟩
                  refine WeakL.tuple (.cons (WeakL.agg ?_) (.refl _))
                  exact wkk
                · refine fin_sub subss (.ret _ _ ?_) ⟨rfl, rfl⟩
                  refine WeakL.tuple (.cons (WeakL.agg ?_) (.refl _))
                  exact wkk
              · have w1 : ((⟨st'.k + 1 + 1, hl2, st'.e, st'.f⟩ : PS L).e == 0) = true := beq_iff_eq.2 he0
                try simp only at w1
                have w2 : (((now (⟨st'.k + 1 + 1, hl2, st'.e, st'.f⟩ : PS L)).kind : Int) != 101) = true := by rw [bne_iff_ne]; omega
                rw [if_pos ⟨he0, hk0⟩] at H
                have hwr : wrong (⟨st'.k + 1 + 1, hl2, st'.e, st'.f⟩ : PS L) = ⟨(⟨st'.k + 1 + 1, hl2, st'.e, st'.f⟩ : PS L).k, (⟨st'.k + 1 + 1, hl2, st'.e, st'.f⟩ : PS L).hk, 3, (now (⟨st'.k + 1 + 1, hl2, st'.e, st'.f⟩ : PS L)).pos⟩ := by unfold wrong err; rw [if_pos he0]
                rw [hwr] at H
                subst H
                rw [outQ_bad hrel (by simp)]
                refine gt1 ?_
                refine s_call rfl rfl rfl ca47 ?_
                refine (c47 (σ := (⟨st'.k + 1 + 1, hl2, st'.e, st'.f⟩ : PS L)) hL hpp).mono ?_
                rintro _ _ ⟨rfl, rfl⟩
                refine back trivial ?_
                refine gt1 ?_
                refine s_call rfl rfl rfl ca43 ?_
                refine (c43 (σ := (⟨st'.k + 1 + 1, hl2, st'.e, st'.f⟩ : PS L)) hL hpp).mono ?_
                rintro _ _ ⟨rfl, rfl⟩
                refine back trivial ?_
                rw [hwr]
                have w4 : ((⟨(⟨st'.k + 1 + 1, hl2, st'.e, st'.f⟩ : PS L).k, (⟨st'.k + 1 + 1, hl2, st'.e, st'.f⟩ : PS L).hk, 3, (now (⟨st'.k + 1 + 1, hl2, st'.e, st'.f⟩ : PS L)).pos⟩ : PS L).e != 0) = true := rfl
                refine gt1 ?_
                (refine s_store (tt rfl) rfl rfl hpp rfl rfl rfl rfl ⟨⟨rk_load (T' := 83) (cs := [.sl 3 (encTs L) .frz, .int .i64 ((⟨(⟨st'.k + 1 + 1, hl2, st'.e, st'.f⟩ : PS L).k, (⟨st'.k + 1 + 1, hl2, st'.e, st'.f⟩ : PS L).hk, 3, (now (⟨st'.k + 1 + 1, hl2, st'.e, st'.f⟩ : PS L)).pos⟩ : PS L)).k, .int .i64 0, .int .i64 ((⟨(⟨st'.k + 1 + 1, hl2, st'.e, st'.f⟩ : PS L).k, (⟨st'.k + 1 + 1, hl2, st'.e, st'.f⟩ : PS L).hk, 3, (now (⟨st'.k + 1 + 1, hl2, st'.e, st'.f⟩ : PS L)).pos⟩ : PS L)).e, .int .i64 ((⟨(⟨st'.k + 1 + 1, hl2, st'.e, st'.f⟩ : PS L).k, (⟨st'.k + 1 + 1, hl2, st'.e, st'.f⟩ : PS L).hk, 3, (now (⟨st'.k + 1 + 1, hl2, st'.e, st'.f⟩ : PS L)).pos⟩ : PS L)).f]) (tt rfl) rfl rfl (show _ = some (par 0 ((⟨(⟨st'.k + 1 + 1, hl2, st'.e, st'.f⟩ : PS L).k, (⟨st'.k + 1 + 1, hl2, st'.e, st'.f⟩ : PS L).hk, 3, (now (⟨st'.k + 1 + 1, hl2, st'.e, st'.f⟩ : PS L)).pos⟩ : PS L))) by exact hpp) rfl rfl rfl, rk_load (T' := 83) (cs := [.sl 3 (encTs L) .frz, .int .i64 ((⟨(⟨st'.k + 1 + 1, hl2, st'.e, st'.f⟩ : PS L).k, (⟨st'.k + 1 + 1, hl2, st'.e, st'.f⟩ : PS L).hk, 3, (now (⟨st'.k + 1 + 1, hl2, st'.e, st'.f⟩ : PS L)).pos⟩ : PS L)).k, .int .i64 0, .int .i64 ((⟨(⟨st'.k + 1 + 1, hl2, st'.e, st'.f⟩ : PS L).k, (⟨st'.k + 1 + 1, hl2, st'.e, st'.f⟩ : PS L).hk, 3, (now (⟨st'.k + 1 + 1, hl2, st'.e, st'.f⟩ : PS L)).pos⟩ : PS L)).e, .int .i64 ((⟨(⟨st'.k + 1 + 1, hl2, st'.e, st'.f⟩ : PS L).k, (⟨st'.k + 1 + 1, hl2, st'.e, st'.f⟩ : PS L).hk, 3, (now (⟨st'.k + 1 + 1, hl2, st'.e, st'.f⟩ : PS L)).pos⟩ : PS L)).f]) (tt rfl) rfl rfl (show _ = some (par 0 ((⟨(⟨st'.k + 1 + 1, hl2, st'.e, st'.f⟩ : PS L).k, (⟨st'.k + 1 + 1, hl2, st'.e, st'.f⟩ : PS L).hk, 3, (now (⟨st'.k + 1 + 1, hl2, st'.e, st'.f⟩ : PS L)).pos⟩ : PS L))) by exact hpp) rfl rfl rfl, trivial⟩, ?_⟩)
                refine gt1 ?_
                refine fin_sub subss (.ret _ _ ?_) ⟨rfl, rfl⟩
                refine WeakL.tuple (.cons (WeakL.agg ?_) (.refl _))
                exact wkk
            · have w1 : ((⟨st'.k + 1 + 1, hl2, st'.e, st'.f⟩ : PS L).e == 0) = false := beq_eq_false_iff_ne.2 he0
              try simp only at w1
              have w3 : ((⟨st'.k + 1 + 1, hl2, st'.e, st'.f⟩ : PS L).e != 0) = true := bne_iff_ne.2 he0
              try simp only at w3
              rw [if_neg (fun q => he0 q.1)] at H
              subst H
              rw [outQ_bad hrel he0]
              refine gt1 ?_
              (refine s_store (tt rfl) rfl rfl hpp rfl rfl rfl rfl ⟨⟨rk_load (T' := 83) (cs := [.sl 3 (encTs L) .frz, .int .i64 ((⟨st'.k + 1 + 1, hl2, st'.e, st'.f⟩ : PS L)).k, .int .i64 0, .int .i64 ((⟨st'.k + 1 + 1, hl2, st'.e, st'.f⟩ : PS L)).e, .int .i64 ((⟨st'.k + 1 + 1, hl2, st'.e, st'.f⟩ : PS L)).f]) (tt rfl) rfl rfl (show _ = some (par 0 ((⟨st'.k + 1 + 1, hl2, st'.e, st'.f⟩ : PS L))) by exact hpp) rfl rfl rfl, rk_load (T' := 83) (cs := [.sl 3 (encTs L) .frz, .int .i64 ((⟨st'.k + 1 + 1, hl2, st'.e, st'.f⟩ : PS L)).k, .int .i64 0, .int .i64 ((⟨st'.k + 1 + 1, hl2, st'.e, st'.f⟩ : PS L)).e, .int .i64 ((⟨st'.k + 1 + 1, hl2, st'.e, st'.f⟩ : PS L)).f]) (tt rfl) rfl rfl (show _ = some (par 0 ((⟨st'.k + 1 + 1, hl2, st'.e, st'.f⟩ : PS L))) by exact hpp) rfl rfl rfl, trivial⟩, ?_⟩)
              refine gt1 ?_
              refine fin_sub subss (.ret _ _ ?_) ⟨rfl, rfl⟩
              refine WeakL.tuple (.cons (WeakL.agg ?_) (.refl _))
              exact wkk
        · rw [hz]
          simp only [pb_mk] at H
          simp only [Option.some.injEq] at H
          by_cases he0 : st'.e = 0
          · by_cases hk0 : (now st').kind = 101
            · have w1 : (st'.e == 0) = true := beq_iff_eq.2 he0
              try simp only at w1
              have w2 : (((now st').kind : Int) != 101) = false := by rw [hk0]; rfl
              have w3 : (st'.e != 0) = false := by rw [show st'.e = 0 from he0]; rfl
              try simp only at w3
              rw [if_neg (by simp [hk0])] at H
              subst H
              rw [outQ_ok hrel he0]
              refine gt1 ?_
              refine s_call rfl rfl rfl ca47 ?_
              refine (c47 (σ := st') hL hpp).mono ?_
              rintro _ _ ⟨rfl, rfl⟩
              refine back trivial ?_
              refine gt1 ?_
              rcases hsz with rfl | ⟨rfl, rfl⟩
              · refine fin_sub subss (.ret _ _ ?_) ⟨rfl, rfl⟩
                refine WeakL.tuple (.cons (WeakL.agg ?_) (.refl _))
                exact wkk
              · refine fin_sub subss (.ret _ _ ?_) ⟨rfl, rfl⟩
                refine WeakL.tuple (.cons (WeakL.agg ?_) (.refl _))
                exact wkk
            · have w1 : (st'.e == 0) = true := beq_iff_eq.2 he0
              try simp only at w1
              have w2 : (((now st').kind : Int) != 101) = true := by rw [bne_iff_ne]; omega
              rw [if_pos ⟨he0, hk0⟩] at H
              have hwr : wrong st' = ⟨st'.k, st'.hk, 3, (now st').pos⟩ := by unfold wrong err; rw [if_pos he0]
              rw [hwr] at H
              subst H
              rw [outQ_bad hrel (by simp)]
              refine gt1 ?_
              refine s_call rfl rfl rfl ca47 ?_
              refine (c47 (σ := st') hL hpp).mono ?_
              rintro _ _ ⟨rfl, rfl⟩
              refine back trivial ?_
              refine gt1 ?_
              refine s_call rfl rfl rfl ca43 ?_
              refine (c43 (σ := st') hL hpp).mono ?_
              rintro _ _ ⟨rfl, rfl⟩
              refine back trivial ?_
              rw [hwr]
              have w4 : ((⟨st'.k, st'.hk, 3, (now st').pos⟩ : PS L).e != 0) = true := rfl
              refine gt1 ?_
              (refine s_store (tt rfl) rfl rfl hpp rfl rfl rfl rfl ⟨⟨rk_load (T' := 83) (cs := [.sl 3 (encTs L) .frz, .int .i64 ((⟨st'.k, st'.hk, 3, (now st').pos⟩ : PS L)).k, .int .i64 0, .int .i64 ((⟨st'.k, st'.hk, 3, (now st').pos⟩ : PS L)).e, .int .i64 ((⟨st'.k, st'.hk, 3, (now st').pos⟩ : PS L)).f]) (tt rfl) rfl rfl (show _ = some (par 0 ((⟨st'.k, st'.hk, 3, (now st').pos⟩ : PS L))) by exact hpp) rfl rfl rfl, rk_load (T' := 83) (cs := [.sl 3 (encTs L) .frz, .int .i64 ((⟨st'.k, st'.hk, 3, (now st').pos⟩ : PS L)).k, .int .i64 0, .int .i64 ((⟨st'.k, st'.hk, 3, (now st').pos⟩ : PS L)).e, .int .i64 ((⟨st'.k, st'.hk, 3, (now st').pos⟩ : PS L)).f]) (tt rfl) rfl rfl (show _ = some (par 0 ((⟨st'.k, st'.hk, 3, (now st').pos⟩ : PS L))) by exact hpp) rfl rfl rfl, trivial⟩, ?_⟩)
              refine gt1 ?_
              refine fin_sub subss (.ret _ _ ?_) ⟨rfl, rfl⟩
              refine WeakL.tuple (.cons (WeakL.agg ?_) (.refl _))
              exact wkk
          · have w1 : (st'.e == 0) = false := beq_eq_false_iff_ne.2 he0
            try simp only at w1
            have w3 : (st'.e != 0) = true := bne_iff_ne.2 he0
            try simp only at w3
            rw [if_neg (fun q => he0 q.1)] at H
            subst H
            rw [outQ_bad hrel he0]
            refine gt1 ?_
            (refine s_store (tt rfl) rfl rfl hpp rfl rfl rfl rfl ⟨⟨rk_load (T' := 83) (cs := [.sl 3 (encTs L) .frz, .int .i64 (st').k, .int .i64 0, .int .i64 (st').e, .int .i64 (st').f]) (tt rfl) rfl rfl (show _ = some (par 0 (st')) by exact hpp) rfl rfl rfl, rk_load (T' := 83) (cs := [.sl 3 (encTs L) .frz, .int .i64 (st').k, .int .i64 0, .int .i64 (st').e, .int .i64 (st').f]) (tt rfl) rfl rfl (show _ = some (par 0 (st')) by exact hpp) rfl rfl rfl, trivial⟩, ?_⟩)
            refine gt1 ?_
            refine fin_sub subss (.ret _ _ ?_) ⟨rfl, rfl⟩
            refine WeakL.tuple (.cons (WeakL.agg ?_) (.refl _))
            exact wkk
      have hk1 : (st'.e == 0) = true := by simp [he]
      rw [if_pos he] at H
      refine gt1 ?_
      refine s_call rfl rfl rfl ca39 ?_
      refine call_q (c39 (σ := st') hL [33] hpp) fun b s3 hr => back trivial ?_
      obtain ⟨hb1, hs3⟩ := Prod.mk.inj hr
      rw [hb1, hs3] at H
      refine gt1 ?_
      refine s_call rfl rfl rfl ca42 ?_
      refine (c42).mono ?_
      rintro _ _ ⟨rfl, rfl⟩
      refine back trivial ?_
      refine gt1 ?_
      refine s_call rfl rfl rfl ca41 ?_
      refine (c41 (σ := s3) hL filterWords (by decide) 1 (by decide) hpp).mono ?_
      rintro _ _ ⟨rfl, rfl⟩
      refine back trivial ?_
      by_cases ho : wordR filterWords 1 s3 = -1
      · have w0 : (wordR filterWords 1 s3 == -1) = true := by simp [ho]
        rw [if_pos ho] at H
        simp only [pbO_some] at H
        cases b with
        | true =>
          simp only [if_true] at H
          refine gt1 ?_
          refine s_call rfl rfl rfl ca43 ?_
          refine (c43 (σ := s3) hL hpp).mono ?_
          rintro _ _ ⟨rfl, rfl⟩
          refine back trivial ?_
          obtain ⟨s4, hs4⟩ : ∃ z, z = wrong s3 := ⟨_, rfl⟩
          rw [← hs4] at H ⊢
          refine gt1 ?_
          refine s_call rfl rfl rfl ca45 ?_
          refine (c45 (σ := s4) hL 110 [115, 116, 114, 97, 116, 101, 103, 121] hpp).mono ?_
          rintro _ _ ⟨rfl, rfl⟩
          refine back trivial ?_
          unfold rStrategy at H
          rcases Bool.eq_false_or_eq_true (is 110 [115, 116, 114, 97, 116, 101, 103, 121] s4) with hz | hz <;> simp only [hz, sbb] at H
          · rw [hz]
            have hl := is_last hL (.inl rfl) hz
            rw [adv_k hl] at H
            have hkS := s4.hk
            have hlenS := hL.len
            refine gt1 ?_
            refine s_call rfl rfl rfl ca46 ?_
            refine (c46).mono ?_
            rintro _ _ ⟨rfl, rfl⟩
            refine back trivial ?_
            refine gt1 ?_
            refine s_call rfl rfl rfl ca41 ?_
            refine (c41 (σ := (⟨s4.k + 1, hl, s4.e, s4.f⟩ : PS L)) hL strategyWords (by decide) 0 (by decide) hpp).mono ?_
            rintro _ _ ⟨rfl, rfl⟩
            refine back trivial ?_
            by_cases hw1 : wordR strategyWords 0 (⟨s4.k + 1, hl, s4.e, s4.f⟩ : PS L) = -1
            · have w0 : (wordR strategyWords 0 (⟨s4.k + 1, hl, s4.e, s4.f⟩ : PS L) == -1) = true := by simp [hw1]
              simp only [if_pos hw1, pb_mk] at H
              refine gt1 ?_
              refine s_call rfl rfl rfl ca43 ?_
              refine (c43 (σ := (⟨s4.k + 1, hl, s4.e, s4.f⟩ : PS L)) hL hpp).mono ?_
              rintro _ _ ⟨rfl, rfl⟩
              refine back trivial ?_
              obtain ⟨SX, hSX⟩ : ∃ z, z = wrong (⟨s4.k + 1, hl, s4.e, s4.f⟩ : PS L) := ⟨_, rfl⟩
              rw [← hSX] at H ⊢
              simp only [Option.some.injEq] at H
              by_cases he0 : SX.e = 0
              · by_cases hk0 : (now SX).kind = 101
                · have w1 : (SX.e == 0) = true := beq_iff_eq.2 he0
                  try simp only at w1
                  have w2 : (((now SX).kind : Int) != 101) = false := by rw [hk0]; rfl
                  have w3 : (SX.e != 0) = false := by rw [show SX.e = 0 from he0]; rfl
                  try simp only at w3
                  rw [if_neg (by simp [hk0])] at H
                  subst H
                  rw [outQ_ok hrel he0]
                  refine gt1 ?_
                  refine s_call rfl rfl rfl ca47 ?_
                  refine (c47 (σ := SX) hL hpp).mono ?_
                  rintro _ _ ⟨rfl, rfl⟩
                  refine back trivial ?_
                  refine gt1 ?_
                  rcases hsz with rfl | ⟨rfl, rfl⟩
                  · refine fin_sub subss (.ret _ _ ?_) ⟨rfl, rfl⟩
                    refine WeakL.tuple (.cons (WeakL.agg ?_) (.refl _))
                    exact wkk
                  · refine fin_sub subss (.ret _ _ ?_) ⟨rfl, rfl⟩
                    refine WeakL.tuple (.cons (WeakL.agg ?_) (.refl _))
                    exact wkk
                · have w1 : (SX.e == 0) = true := beq_iff_eq.2 he0
                  try simp only at w1
                  have w2 : (((now SX).kind : Int) != 101) = true := by rw [bne_iff_ne]; omega
                  rw [if_pos ⟨he0, hk0⟩] at H
                  have hwr : wrong SX = ⟨SX.k, SX.hk, 3, (now SX).pos⟩ := by unfold wrong err; rw [if_pos he0]
                  rw [hwr] at H
                  subst H
                  rw [outQ_bad hrel (by simp)]
                  refine gt1 ?_
                  refine s_call rfl rfl rfl ca47 ?_
                  refine (c47 (σ := SX) hL hpp).mono ?_
                  rintro _ _ ⟨rfl, rfl⟩
                  refine back trivial ?_
                  refine gt1 ?_
                  refine s_call rfl rfl rfl ca43 ?_
                  refine (c43 (σ := SX) hL hpp).mono ?_
                  rintro _ _ ⟨rfl, rfl⟩
                  refine back trivial ?_
                  rw [hwr]
                  have w4 : ((⟨SX.k, SX.hk, 3, (now SX).pos⟩ : PS L).e != 0) = true := rfl
                  refine gt1 ?_
                  (refine s_store (tt rfl) rfl rfl hpp rfl rfl rfl rfl ⟨⟨rk_load (T' := 83) (cs := [.sl 3 (encTs L) .frz, .int .i64 ((⟨SX.k, SX.hk, 3, (now SX).pos⟩ : PS L)).k, .int .i64 0, .int .i64 ((⟨SX.k, SX.hk, 3, (now SX).pos⟩ : PS L)).e, .int .i64 ((⟨SX.k, SX.hk, 3, (now SX).pos⟩ : PS L)).f]) (tt rfl) rfl rfl (show _ = some (par 0 ((⟨SX.k, SX.hk, 3, (now SX).pos⟩ : PS L))) by exact hpp) rfl rfl rfl, rk_load (T' := 83) (cs := [.sl 3 (encTs L) .frz, .int .i64 ((⟨SX.k, SX.hk, 3, (now SX).pos⟩ : PS L)).k, .int .i64 0, .int .i64 ((⟨SX.k, SX.hk, 3, (now SX).pos⟩ : PS L)).e, .int .i64 ((⟨SX.k, SX.hk, 3, (now SX).pos⟩ : PS L)).f]) (tt rfl) rfl rfl (show _ = some (par 0 ((⟨SX.k, SX.hk, 3, (now SX).pos⟩ : PS L))) by exact hpp) rfl rfl rfl, trivial⟩, ?_⟩)
                  refine gt1 ?_
                  refine fin_sub subss (.ret _ _ ?_) ⟨rfl, rfl⟩
                  refine WeakL.tuple (.cons (WeakL.agg ?_) (.refl _))
                  exact wkk
              · have w1 : (SX.e == 0) = false := beq_eq_false_iff_ne.2 he0
                try simp only at w1
                have w3 : (SX.e != 0) = true := bne_iff_ne.2 he0
                try simp only at w3
                rw [if_neg (fun q => he0 q.1)] at H
                subst H
                rw [outQ_bad hrel he0]
                refine gt1 ?_
                (refine s_store (tt rfl) rfl rfl hpp rfl rfl rfl rfl ⟨⟨rk_load (T' := 83) (cs := [.sl 3 (encTs L) .frz, .int .i64 (SX).k, .int .i64 0, .int .i64 (SX).e, .int .i64 (SX).f]) (tt rfl) rfl rfl (show _ = some (par 0 (SX)) by exact hpp) rfl rfl rfl, rk_load (T' := 83) (cs := [.sl 3 (encTs L) .frz, .int .i64 (SX).k, .int .i64 0, .int .i64 (SX).e, .int .i64 (SX).f]) (tt rfl) rfl rfl (show _ = some (par 0 (SX)) by exact hpp) rfl rfl rfl, trivial⟩, ?_⟩)
                refine gt1 ?_
                refine fin_sub subss (.ret _ _ ?_) ⟨rfl, rfl⟩
                refine WeakL.tuple (.cons (WeakL.agg ?_) (.refl _))
                exact wkk
            · have w0 : (wordR strategyWords 0 (⟨s4.k + 1, hl, s4.e, s4.f⟩ : PS L) == -1) = false := by simp [hw1]
              obtain ⟨xw, hxw⟩ := wordR_is hw1
              have hl2 := is_last hL (.inl rfl) hxw
              simp only [if_neg hw1, pb_mk, adv_k hl2] at H
              simp only at hl2
              simp only [Option.some.injEq] at H
              by_cases he0 : (⟨s4.k + 1 + 1, hl2, s4.e, s4.f⟩ : PS L).e = 0
              · by_cases hk0 : (now (⟨s4.k + 1 + 1, hl2, s4.e, s4.f⟩ : PS L)).kind = 101
                · have w1 : ((⟨s4.k + 1 + 1, hl2, s4.e, s4.f⟩ : PS L).e == 0) = true := beq_iff_eq.2 he0
                  try simp only at w1
                  have w2 : (((now (⟨s4.k + 1 + 1, hl2, s4.e, s4.f⟩ : PS L)).kind : Int) != 101) = false := by rw [hk0]; rfl
                  have w3 : ((⟨s4.k + 1 + 1, hl2, s4.e, s4.f⟩ : PS L).e != 0) = false := by rw [show (⟨s4.k + 1 + 1, hl2, s4.e, s4.f⟩ : PS L).e = 0 from he0]; rfl
                  try simp only at w3
                  rw [if_neg (by simp [hk0])] at H
                  subst H
                  rw [outQ_ok hrel he0]
                  refine gt1 ?_
                  refine s_call rfl rfl rfl ca47 ?_
                  refine (c47 (σ := (⟨s4.k + 1 + 1, hl2, s4.e, s4.f⟩ : PS L)) hL hpp).mono ?_
                  rintro _ _ ⟨rfl, rfl⟩
                  refine back trivial ?_
                  refine gt1 ?_
                  rcases hsz with rfl | ⟨rfl, rfl⟩
                  · refine fin_sub subss (.ret _ _ ?_) ⟨rfl, rfl⟩
                    refine WeakL.tuple (.cons (WeakL.agg ?_) (.refl _))
                    exact wkk
                  · refine fin_sub subss (.ret _ _ ?_) ⟨rfl, rfl⟩
                    refine WeakL.tuple (.cons (WeakL.agg ?_) (.refl _))
                    exact wkk
                · have w1 : ((⟨s4.k + 1 + 1, hl2, s4.e, s4.f⟩ : PS L).e == 0) = true := beq_iff_eq.2 he0
                  try simp only at w1
                  have w2 : (((now (⟨s4.k + 1 + 1, hl2, s4.e, s4.f⟩ : PS L)).kind : Int) != 101) = true := by rw [bne_iff_ne]; omega
                  rw [if_pos ⟨he0, hk0⟩] at H
                  have hwr : wrong (⟨s4.k + 1 + 1, hl2, s4.e, s4.f⟩ : PS L) = ⟨(⟨s4.k + 1 + 1, hl2, s4.e, s4.f⟩ : PS L).k, (⟨s4.k + 1 + 1, hl2, s4.e, s4.f⟩ : PS L).hk, 3, (now (⟨s4.k + 1 + 1, hl2, s4.e, s4.f⟩ : PS L)).pos⟩ := by unfold wrong err; rw [if_pos he0]
                  rw [hwr] at H
                  subst H
                  rw [outQ_bad hrel (by simp)]
                  refine gt1 ?_
                  refine s_call rfl rfl rfl ca47 ?_
                  refine (c47 (σ := (⟨s4.k + 1 + 1, hl2, s4.e, s4.f⟩ : PS L)) hL hpp).mono ?_
                  rintro _ _ ⟨rfl, rfl⟩
                  refine back trivial ?_
                  refine gt1 ?_
                  refine s_call rfl rfl rfl ca43 ?_
                  refine (c43 (σ := (⟨s4.k + 1 + 1, hl2, s4.e, s4.f⟩ : PS L)) hL hpp).mono ?_
                  rintro _ _ ⟨rfl, rfl⟩
                  refine back trivial ?_
                  rw [hwr]
                  have w4 : ((⟨(⟨s4.k + 1 + 1, hl2, s4.e, s4.f⟩ : PS L).k, (⟨s4.k + 1 + 1, hl2, s4.e, s4.f⟩ : PS L).hk, 3, (now (⟨s4.k + 1 + 1, hl2, s4.e, s4.f⟩ : PS L)).pos⟩ : PS L).e != 0) = true := rfl
                  refine gt1 ?_
                  (refine s_store (tt rfl) rfl rfl hpp rfl rfl rfl rfl ⟨⟨rk_load (T' := 83) (cs := [.sl 3 (encTs L) .frz, .int .i64 ((⟨(⟨s4.k + 1 + 1, hl2, s4.e, s4.f⟩ : PS L).k, (⟨s4.k + 1 + 1, hl2, s4.e, s4.f⟩ : PS L).hk, 3, (now (⟨s4.k + 1 + 1, hl2, s4.e, s4.f⟩ : PS L)).pos⟩ : PS L)).k, .int .i64 0, .int .i64 ((⟨(⟨s4.k + 1 + 1, hl2, s4.e, s4.f⟩ : PS L).k, (⟨s4.k + 1 + 1, hl2, s4.e, s4.f⟩ : PS L).hk, 3, (now (⟨s4.k + 1 + 1, hl2, s4.e, s4.f⟩ : PS L)).pos⟩ : PS L)).e, .int .i64 ((⟨(⟨s4.k + 1 + 1, hl2, s4.e, s4.f⟩ : PS L).k, (⟨s4.k + 1 + 1, hl2, s4.e, s4.f⟩ : PS L).hk, 3, (now (⟨s4.k + 1 + 1, hl2, s4.e, s4.f⟩ : PS L)).pos⟩ : PS L)).f]) (tt rfl) rfl rfl (show _ = some (par 0 ((⟨(⟨s4.k + 1 + 1, hl2, s4.e, s4.f⟩ : PS L).k, (⟨s4.k + 1 + 1, hl2, s4.e, s4.f⟩ : PS L).hk, 3, (now (⟨s4.k + 1 + 1, hl2, s4.e, s4.f⟩ : PS L)).pos⟩ : PS L))) by exact hpp) rfl rfl rfl, rk_load (T' := 83) (cs := [.sl 3 (encTs L) .frz, .int .i64 ((⟨(⟨s4.k + 1 + 1, hl2, s4.e, s4.f⟩ : PS L).k, (⟨s4.k + 1 + 1, hl2, s4.e, s4.f⟩ : PS L).hk, 3, (now (⟨s4.k + 1 + 1, hl2, s4.e, s4.f⟩ : PS L)).pos⟩ : PS L)).k, .int .i64 0, .int .i64 ((⟨(⟨s4.k + 1 + 1, hl2, s4.e, s4.f⟩ : PS L).k, (⟨s4.k + 1 + 1, hl2, s4.e, s4.f⟩ : PS L).hk, 3, (now (⟨s4.k + 1 + 1, hl2, s4.e, s4.f⟩ : PS L)).pos⟩ : PS L)).e, .int .i64 ((⟨(⟨s4.k + 1 + 1, hl2, s4.e, s4.f⟩ : PS L).k, (⟨s4.k + 1 + 1, hl2, s4.e, s4.f⟩ : PS L).hk, 3, (now (⟨s4.k + 1 + 1, hl2, s4.e, s4.f⟩ : PS L)).pos⟩ : PS L)).f]) (tt rfl) rfl rfl (show _ = some (par 0 ((⟨(⟨s4.k + 1 + 1, hl2, s4.e, s4.f⟩ : PS L).k, (⟨s4.k + 1 + 1, hl2, s4.e, s4.f⟩ : PS L).hk, 3, (now (⟨s4.k + 1 + 1, hl2, s4.e, s4.f⟩ : PS L)).pos⟩ : PS L))) by exact hpp) rfl rfl rfl, trivial⟩, ?_⟩)
                  refine gt1 ?_
                  refine fin_sub subss (.ret _ _ ?_) ⟨rfl, rfl⟩
                  refine WeakL.tuple (.cons (WeakL.agg ?_) (.refl _))
                  exact wkk
              · have w1 : ((⟨s4.k + 1 + 1, hl2, s4.e, s4.f⟩ : PS L).e == 0) = false := beq_eq_false_iff_ne.2 he0
                try simp only at w1
                have w3 : ((⟨s4.k + 1 + 1, hl2, s4.e, s4.f⟩ : PS L).e != 0) = true := bne_iff_ne.2 he0
                try simp only at w3
                rw [if_neg (fun q => he0 q.1)] at H
                subst H
                rw [outQ_bad hrel he0]
                refine gt1 ?_
                (refine s_store (tt rfl) rfl rfl hpp rfl rfl rfl rfl ⟨⟨rk_load (T' := 83) (cs := [.sl 3 (encTs L) .frz, .int .i64 ((⟨s4.k + 1 + 1, hl2, s4.e, s4.f⟩ : PS L)).k, .int .i64 0, .int .i64 ((⟨s4.k + 1 + 1, hl2, s4.e, s4.f⟩ : PS L)).e, .int .i64 ((⟨s4.k + 1 + 1, hl2, s4.e, s4.f⟩ : PS L)).f]) (tt rfl) rfl rfl (show _ = some (par 0 ((⟨s4.k + 1 + 1, hl2, s4.e, s4.f⟩ : PS L))) by exact hpp) rfl rfl rfl, rk_load (T' := 83) (cs := [.sl 3 (encTs L) .frz, .int .i64 ((⟨s4.k + 1 + 1, hl2, s4.e, s4.f⟩ : PS L)).k, .int .i64 0, .int .i64 ((⟨s4.k + 1 + 1, hl2, s4.e, s4.f⟩ : PS L)).e, .int .i64 ((⟨s4.k + 1 + 1, hl2, s4.e, s4.f⟩ : PS L)).f]) (tt rfl) rfl rfl (show _ = some (par 0 ((⟨s4.k + 1 + 1, hl2, s4.e, s4.f⟩ : PS L))) by exact hpp) rfl rfl rfl, trivial⟩, ?_⟩)
                refine gt1 ?_
                refine fin_sub subss (.ret _ _ ?_) ⟨rfl, rfl⟩
                refine WeakL.tuple (.cons (WeakL.agg ?_) (.refl _))
                exact wkk
          · rw [hz]
            simp only [pb_mk] at H
            simp only [Option.some.injEq] at H
            by_cases he0 : s4.e = 0
            · by_cases hk0 : (now s4).kind = 101
              · have w1 : (s4.e == 0) = true := beq_iff_eq.2 he0
                try simp only at w1
                have w2 : (((now s4).kind : Int) != 101) = false := by rw [hk0]; rfl
                have w3 : (s4.e != 0) = false := by rw [show s4.e = 0 from he0]; rfl
                try simp only at w3
                rw [if_neg (by simp [hk0])] at H
                subst H
                rw [outQ_ok hrel he0]
                refine gt1 ?_
                refine s_call rfl rfl rfl ca47 ?_
                refine (c47 (σ := s4) hL hpp).mono ?_
                rintro _ _ ⟨rfl, rfl⟩
                refine back trivial ?_
                refine gt1 ?_
                rcases hsz with rfl | ⟨rfl, rfl⟩
                · refine fin_sub subss (.ret _ _ ?_) ⟨rfl, rfl⟩
                  refine WeakL.tuple (.cons (WeakL.agg ?_) (.refl _))
                  exact wkk
                · refine fin_sub subss (.ret _ _ ?_) ⟨rfl, rfl⟩
                  refine WeakL.tuple (.cons (WeakL.agg ?_) (.refl _))
                  exact wkk
              · have w1 : (s4.e == 0) = true := beq_iff_eq.2 he0
                try simp only at w1
                have w2 : (((now s4).kind : Int) != 101) = true := by rw [bne_iff_ne]; omega
                rw [if_pos ⟨he0, hk0⟩] at H
                have hwr : wrong s4 = ⟨s4.k, s4.hk, 3, (now s4).pos⟩ := by unfold wrong err; rw [if_pos he0]
                rw [hwr] at H
                subst H
                rw [outQ_bad hrel (by simp)]
                refine gt1 ?_
                refine s_call rfl rfl rfl ca47 ?_
                refine (c47 (σ := s4) hL hpp).mono ?_
                rintro _ _ ⟨rfl, rfl⟩
                refine back trivial ?_
                refine gt1 ?_
                refine s_call rfl rfl rfl ca43 ?_
                refine (c43 (σ := s4) hL hpp).mono ?_
                rintro _ _ ⟨rfl, rfl⟩
                refine back trivial ?_
                rw [hwr]
                have w4 : ((⟨s4.k, s4.hk, 3, (now s4).pos⟩ : PS L).e != 0) = true := rfl
                refine gt1 ?_
                (refine s_store (tt rfl) rfl rfl hpp rfl rfl rfl rfl ⟨⟨rk_load (T' := 83) (cs := [.sl 3 (encTs L) .frz, .int .i64 ((⟨s4.k, s4.hk, 3, (now s4).pos⟩ : PS L)).k, .int .i64 0, .int .i64 ((⟨s4.k, s4.hk, 3, (now s4).pos⟩ : PS L)).e, .int .i64 ((⟨s4.k, s4.hk, 3, (now s4).pos⟩ : PS L)).f]) (tt rfl) rfl rfl (show _ = some (par 0 ((⟨s4.k, s4.hk, 3, (now s4).pos⟩ : PS L))) by exact hpp) rfl rfl rfl, rk_load (T' := 83) (cs := [.sl 3 (encTs L) .frz, .int .i64 ((⟨s4.k, s4.hk, 3, (now s4).pos⟩ : PS L)).k, .int .i64 0, .int .i64 ((⟨s4.k, s4.hk, 3, (now s4).pos⟩ : PS L)).e, .int .i64 ((⟨s4.k, s4.hk, 3, (now s4).pos⟩ : PS L)).f]) (tt rfl) rfl rfl (show _ = some (par 0 ((⟨s4.k, s4.hk, 3, (now s4).pos⟩ : PS L))) by exact hpp) rfl rfl rfl, trivial⟩, ?_⟩)
                refine gt1 ?_
                refine fin_sub subss (.ret _ _ ?_) ⟨rfl, rfl⟩
                refine WeakL.tuple (.cons (WeakL.agg ?_) (.refl _))
                exact wkk
            · have w1 : (s4.e == 0) = false := beq_eq_false_iff_ne.2 he0
              try simp only at w1
              have w3 : (s4.e != 0) = true := bne_iff_ne.2 he0
              try simp only at w3
              rw [if_neg (fun q => he0 q.1)] at H
              subst H
              rw [outQ_bad hrel he0]
              refine gt1 ?_
              (refine s_store (tt rfl) rfl rfl hpp rfl rfl rfl rfl ⟨⟨rk_load (T' := 83) (cs := [.sl 3 (encTs L) .frz, .int .i64 (s4).k, .int .i64 0, .int .i64 (s4).e, .int .i64 (s4).f]) (tt rfl) rfl rfl (show _ = some (par 0 (s4)) by exact hpp) rfl rfl rfl, rk_load (T' := 83) (cs := [.sl 3 (encTs L) .frz, .int .i64 (s4).k, .int .i64 0, .int .i64 (s4).e, .int .i64 (s4).f]) (tt rfl) rfl rfl (show _ = some (par 0 (s4)) by exact hpp) rfl rfl rfl, trivial⟩, ?_⟩)
              refine gt1 ?_
              refine fin_sub subss (.ret _ _ ?_) ⟨rfl, rfl⟩
              refine WeakL.tuple (.cons (WeakL.agg ?_) (.refl _))
              exact wkk
        | false =>
          simp only [Bool.false_eq_true, if_false] at H
          refine gt1 ?_
          refine s_call rfl rfl rfl ca45 ?_
          refine (c45 (σ := s3) hL 110 [115, 116, 114, 97, 116, 101, 103, 121] hpp).mono ?_
          rintro _ _ ⟨rfl, rfl⟩
          refine back trivial ?_
          unfold rStrategy at H
          rcases Bool.eq_false_or_eq_true (is 110 [115, 116, 114, 97, 116, 101, 103, 121] s3) with hz | hz <;> simp only [hz, sbb] at H
          · rw [hz]
            have hl := is_last hL (.inl rfl) hz
            rw [adv_k hl] at H
            have hkS := s3.hk
            have hlenS := hL.len
            refine gt1 ?_
            refine s_call rfl rfl rfl ca46 ?_
            refine (c46).mono ?_
            rintro _ _ ⟨rfl, rfl⟩
            refine back trivial ?_
            refine gt1 ?_
            refine s_call rfl rfl rfl ca41 ?_
            refine (c41 (σ := (⟨s3.k + 1, hl, s3.e, s3.f⟩ : PS L)) hL strategyWords (by decide) 0 (by decide) hpp).mono ?_
            rintro _ _ ⟨rfl, rfl⟩
            refine back trivial ?_
            by_cases hw1 : wordR strategyWords 0 (⟨s3.k + 1, hl, s3.e, s3.f⟩ : PS L) = -1
            · have w0 : (wordR strategyWords 0 (⟨s3.k + 1, hl, s3.e, s3.f⟩ : PS L) == -1) = true := by simp [hw1]
              simp only [if_pos hw1, pb_mk] at H
              refine gt1 ?_
              refine s_call rfl rfl rfl ca43 ?_
              refine (c43 (σ := (⟨s3.k + 1, hl, s3.e, s3.f⟩ : PS L)) hL hpp).mono ?_
              rintro _ _ ⟨rfl, rfl⟩
              refine back trivial ?_
              obtain ⟨SX, hSX⟩ : ∃ z, z = wrong (⟨s3.k + 1, hl, s3.e, s3.f⟩ : PS L) := ⟨_, rfl⟩
              rw [← hSX] at H ⊢
              simp only [Option.some.injEq] at H
              by_cases he0 : SX.e = 0
              · by_cases hk0 : (now SX).kind = 101
                · have w1 : (SX.e == 0) = true := beq_iff_eq.2 he0
                  try simp only at w1
                  have w2 : (((now SX).kind : Int) != 101) = false := by rw [hk0]; rfl
                  have w3 : (SX.e != 0) = false := by rw [show SX.e = 0 from he0]; rfl
                  try simp only at w3
                  rw [if_neg (by simp [hk0])] at H
                  subst H
                  rw [outQ_ok hrel he0]
                  refine gt1 ?_
                  refine s_call rfl rfl rfl ca47 ?_
                  refine (c47 (σ := SX) hL hpp).mono ?_
                  rintro _ _ ⟨rfl, rfl⟩
                  refine back trivial ?_
                  refine gt1 ?_
                  rcases hsz with rfl | ⟨rfl, rfl⟩
                  · refine fin_sub subss (.ret _ _ ?_) ⟨rfl, rfl⟩
                    refine WeakL.tuple (.cons (WeakL.agg ?_) (.refl _))
                    exact wkk
                  · refine fin_sub subss (.ret _ _ ?_) ⟨rfl, rfl⟩
                    refine WeakL.tuple (.cons (WeakL.agg ?_) (.refl _))
                    exact wkk
                · have w1 : (SX.e == 0) = true := beq_iff_eq.2 he0
                  try simp only at w1
                  have w2 : (((now SX).kind : Int) != 101) = true := by rw [bne_iff_ne]; omega
                  rw [if_pos ⟨he0, hk0⟩] at H
                  have hwr : wrong SX = ⟨SX.k, SX.hk, 3, (now SX).pos⟩ := by unfold wrong err; rw [if_pos he0]
                  rw [hwr] at H
                  subst H
                  rw [outQ_bad hrel (by simp)]
                  refine gt1 ?_
                  refine s_call rfl rfl rfl ca47 ?_
                  refine (c47 (σ := SX) hL hpp).mono ?_
                  rintro _ _ ⟨rfl, rfl⟩
                  refine back trivial ?_
                  refine gt1 ?_
                  refine s_call rfl rfl rfl ca43 ?_
                  refine (c43 (σ := SX) hL hpp).mono ?_
                  rintro _ _ ⟨rfl, rfl⟩
                  refine back trivial ?_
                  rw [hwr]
                  have w4 : ((⟨SX.k, SX.hk, 3, (now SX).pos⟩ : PS L).e != 0) = true := rfl
                  refine gt1 ?_
                  (refine s_store (tt rfl) rfl rfl hpp rfl rfl rfl rfl ⟨⟨rk_load (T' := 83) (cs := [.sl 3 (encTs L) .frz, .int .i64 ((⟨SX.k, SX.hk, 3, (now SX).pos⟩ : PS L)).k, .int .i64 0, .int .i64 ((⟨SX.k, SX.hk, 3, (now SX).pos⟩ : PS L)).e, .int .i64 ((⟨SX.k, SX.hk, 3, (now SX).pos⟩ : PS L)).f]) (tt rfl) rfl rfl (show _ = some (par 0 ((⟨SX.k, SX.hk, 3, (now SX).pos⟩ : PS L))) by exact hpp) rfl rfl rfl, rk_load (T' := 83) (cs := [.sl 3 (encTs L) .frz, .int .i64 ((⟨SX.k, SX.hk, 3, (now SX).pos⟩ : PS L)).k, .int .i64 0, .int .i64 ((⟨SX.k, SX.hk, 3, (now SX).pos⟩ : PS L)).e, .int .i64 ((⟨SX.k, SX.hk, 3, (now SX).pos⟩ : PS L)).f]) (tt rfl) rfl rfl (show _ = some (par 0 ((⟨SX.k, SX.hk, 3, (now SX).pos⟩ : PS L))) by exact hpp) rfl rfl rfl, trivial⟩, ?_⟩)
                  refine gt1 ?_
                  refine fin_sub subss (.ret _ _ ?_) ⟨rfl, rfl⟩
                  refine WeakL.tuple (.cons (WeakL.agg ?_) (.refl _))
                  exact wkk
              · have w1 : (SX.e == 0) = false := beq_eq_false_iff_ne.2 he0
                try simp only at w1
                have w3 : (SX.e != 0) = true := bne_iff_ne.2 he0
                try simp only at w3
                rw [if_neg (fun q => he0 q.1)] at H
                subst H
                rw [outQ_bad hrel he0]
                refine gt1 ?_
                (refine s_store (tt rfl) rfl rfl hpp rfl rfl rfl rfl ⟨⟨rk_load (T' := 83) (cs := [.sl 3 (encTs L) .frz, .int .i64 (SX).k, .int .i64 0, .int .i64 (SX).e, .int .i64 (SX).f]) (tt rfl) rfl rfl (show _ = some (par 0 (SX)) by exact hpp) rfl rfl rfl, rk_load (T' := 83) (cs := [.sl 3 (encTs L) .frz, .int .i64 (SX).k, .int .i64 0, .int .i64 (SX).e, .int .i64 (SX).f]) (tt rfl) rfl rfl (show _ = some (par 0 (SX)) by exact hpp) rfl rfl rfl, trivial⟩, ?_⟩)
                refine gt1 ?_
                refine fin_sub subss (.ret _ _ ?_) ⟨rfl, rfl⟩
                refine WeakL.tuple (.cons (WeakL.agg ?_) (.refl _))
                exact wkk
            · have w0 : (wordR strategyWords 0 (⟨s3.k + 1, hl, s3.e, s3.f⟩ : PS L) == -1) = false := by simp [hw1]
              obtain ⟨xw, hxw⟩ := wordR_is hw1
              have hl2 := is_last hL (.inl rfl) hxw
              simp only [if_neg hw1, pb_mk, adv_k hl2] at H
              simp only at hl2
              simp only [Option.some.injEq] at H
              by_cases he0 : (⟨s3.k + 1 + 1, hl2, s3.e, s3.f⟩ : PS L).e = 0
              · by_cases hk0 : (now (⟨s3.k + 1 + 1, hl2, s3.e, s3.f⟩ : PS L)).kind = 101
                · have w1 : ((⟨s3.k + 1 + 1, hl2, s3.e, s3.f⟩ : PS L).e == 0) = true := beq_iff_eq.2 he0
                  try simp only at w1
                  have w2 : (((now (⟨s3.k + 1 + 1, hl2, s3.e, s3.f⟩ : PS L)).kind : Int) != 101) = false := by rw [hk0]; rfl
                  have w3 : ((⟨s3.k + 1 + 1, hl2, s3.e, s3.f⟩ : PS L).e != 0) = false := by rw [show (⟨s3.k + 1 + 1, hl2, s3.e, s3.f⟩ : PS L).e = 0 from he0]; rfl
                  try simp only at w3
                  rw [if_neg (by simp [hk0])] at H
                  subst H
                  rw [outQ_ok hrel he0]
                  refine gt1 ?_
                  refine s_call rfl rfl rfl ca47 ?_
                  refine (c47 (σ := (⟨s3.k + 1 + 1, hl2, s3.e, s3.f⟩ : PS L)) hL hpp).mono ?_
                  rintro _ _ ⟨rfl, rfl⟩
                  refine back trivial ?_
                  refine gt1 ?_
                  rcases hsz with rfl | ⟨rfl, rfl⟩
                  · refine fin_sub subss (.ret _ _ ?_) ⟨rfl, rfl⟩
                    refine WeakL.tuple (.cons (WeakL.agg ?_) (.refl _))
                    exact wkk
                  · refine fin_sub subss (.ret _ _ ?_) ⟨rfl, rfl⟩
                    refine WeakL.tuple (.cons (WeakL.agg ?_) (.refl _))
                    exact wkk
                · have w1 : ((⟨s3.k + 1 + 1, hl2, s3.e, s3.f⟩ : PS L).e == 0) = true := beq_iff_eq.2 he0
                  try simp only at w1
                  have w2 : (((now (⟨s3.k + 1 + 1, hl2, s3.e, s3.f⟩ : PS L)).kind : Int) != 101) = true := by rw [bne_iff_ne]; omega
                  rw [if_pos ⟨he0, hk0⟩] at H
                  have hwr : wrong (⟨s3.k + 1 + 1, hl2, s3.e, s3.f⟩ : PS L) = ⟨(⟨s3.k + 1 + 1, hl2, s3.e, s3.f⟩ : PS L).k, (⟨s3.k + 1 + 1, hl2, s3.e, s3.f⟩ : PS L).hk, 3, (now (⟨s3.k + 1 + 1, hl2, s3.e, s3.f⟩ : PS L)).pos⟩ := by unfold wrong err; rw [if_pos he0]
                  rw [hwr] at H
                  subst H
                  rw [outQ_bad hrel (by simp)]
                  refine gt1 ?_
                  refine s_call rfl rfl rfl ca47 ?_
                  refine (c47 (σ := (⟨s3.k + 1 + 1, hl2, s3.e, s3.f⟩ : PS L)) hL hpp).mono ?_
                  rintro _ _ ⟨rfl, rfl⟩
                  refine back trivial ?_
                  refine gt1 ?_
                  refine s_call rfl rfl rfl ca43 ?_
                  refine (c43 (σ := (⟨s3.k + 1 + 1, hl2, s3.e, s3.f⟩ : PS L)) hL hpp).mono ?_
                  rintro _ _ ⟨rfl, rfl⟩
                  refine back trivial ?_
                  rw [hwr]
                  have w4 : ((⟨(⟨s3.k + 1 + 1, hl2, s3.e, s3.f⟩ : PS L).k, (⟨s3.k + 1 + 1, hl2, s3.e, s3.f⟩ : PS L).hk, 3, (now (⟨s3.k + 1 + 1, hl2, s3.e, s3.f⟩ : PS L)).pos⟩ : PS L).e != 0) = true := rfl
                  refine gt1 ?_
                  (refine s_store (tt rfl) rfl rfl hpp rfl rfl rfl rfl ⟨⟨rk_load (T' := 83) (cs := [.sl 3 (encTs L) .frz, .int .i64 ((⟨(⟨s3.k + 1 + 1, hl2, s3.e, s3.f⟩ : PS L).k, (⟨s3.k + 1 + 1, hl2, s3.e, s3.f⟩ : PS L).hk, 3, (now (⟨s3.k + 1 + 1, hl2, s3.e, s3.f⟩ : PS L)).pos⟩ : PS L)).k, .int .i64 0, .int .i64 ((⟨(⟨s3.k + 1 + 1, hl2, s3.e, s3.f⟩ : PS L).k, (⟨s3.k + 1 + 1, hl2, s3.e, s3.f⟩ : PS L).hk, 3, (now (⟨s3.k + 1 + 1, hl2, s3.e, s3.f⟩ : PS L)).pos⟩ : PS L)).e, .int .i64 ((⟨(⟨s3.k + 1 + 1, hl2, s3.e, s3.f⟩ : PS L).k, (⟨s3.k + 1 + 1, hl2, s3.e, s3.f⟩ : PS L).hk, 3, (now (⟨s3.k + 1 + 1, hl2, s3.e, s3.f⟩ : PS L)).pos⟩ : PS L)).f]) (tt rfl) rfl rfl (show _ = some (par 0 ((⟨(⟨s3.k + 1 + 1, hl2, s3.e, s3.f⟩ : PS L).k, (⟨s3.k + 1 + 1, hl2, s3.e, s3.f⟩ : PS L).hk, 3, (now (⟨s3.k + 1 + 1, hl2, s3.e, s3.f⟩ : PS L)).pos⟩ : PS L))) by exact hpp) rfl rfl rfl, rk_load (T' := 83) (cs := [.sl 3 (encTs L) .frz, .int .i64 ((⟨(⟨s3.k + 1 + 1, hl2, s3.e, s3.f⟩ : PS L).k, (⟨s3.k + 1 + 1, hl2, s3.e, s3.f⟩ : PS L).hk, 3, (now (⟨s3.k + 1 + 1, hl2, s3.e, s3.f⟩ : PS L)).pos⟩ : PS L)).k, .int .i64 0, .int .i64 ((⟨(⟨s3.k + 1 + 1, hl2, s3.e, s3.f⟩ : PS L).k, (⟨s3.k + 1 + 1, hl2, s3.e, s3.f⟩ : PS L).hk, 3, (now (⟨s3.k + 1 + 1, hl2, s3.e, s3.f⟩ : PS L)).pos⟩ : PS L)).e, .int .i64 ((⟨(⟨s3.k + 1 + 1, hl2, s3.e, s3.f⟩ : PS L).k, (⟨s3.k + 1 + 1, hl2, s3.e, s3.f⟩ : PS L).hk, 3, (now (⟨s3.k + 1 + 1, hl2, s3.e, s3.f⟩ : PS L)).pos⟩ : PS L)).f]) (tt rfl) rfl rfl (show _ = some (par 0 ((⟨(⟨s3.k + 1 + 1, hl2, s3.e, s3.f⟩ : PS L).k, (⟨s3.k + 1 + 1, hl2, s3.e, s3.f⟩ : PS L).hk, 3, (now (⟨s3.k + 1 + 1, hl2, s3.e, s3.f⟩ : PS L)).pos⟩ : PS L))) by exact hpp) rfl rfl rfl, trivial⟩, ?_⟩)
                  refine gt1 ?_
                  refine fin_sub subss (.ret _ _ ?_) ⟨rfl, rfl⟩
                  refine WeakL.tuple (.cons (WeakL.agg ?_) (.refl _))
                  exact wkk
              · have w1 : ((⟨s3.k + 1 + 1, hl2, s3.e, s3.f⟩ : PS L).e == 0) = false := beq_eq_false_iff_ne.2 he0
                try simp only at w1
                have w3 : ((⟨s3.k + 1 + 1, hl2, s3.e, s3.f⟩ : PS L).e != 0) = true := bne_iff_ne.2 he0
                try simp only at w3
                rw [if_neg (fun q => he0 q.1)] at H
                subst H
                rw [outQ_bad hrel he0]
                refine gt1 ?_
                (refine s_store (tt rfl) rfl rfl hpp rfl rfl rfl rfl ⟨⟨rk_load (T' := 83) (cs := [.sl 3 (encTs L) .frz, .int .i64 ((⟨s3.k + 1 + 1, hl2, s3.e, s3.f⟩ : PS L)).k, .int .i64 0, .int .i64 ((⟨s3.k + 1 + 1, hl2, s3.e, s3.f⟩ : PS L)).e, .int .i64 ((⟨s3.k + 1 + 1, hl2, s3.e, s3.f⟩ : PS L)).f]) (tt rfl) rfl rfl (show _ = some (par 0 ((⟨s3.k + 1 + 1, hl2, s3.e, s3.f⟩ : PS L))) by exact hpp) rfl rfl rfl, rk_load (T' := 83) (cs := [.sl 3 (encTs L) .frz, .int .i64 ((⟨s3.k + 1 + 1, hl2, s3.e, s3.f⟩ : PS L)).k, .int .i64 0, .int .i64 ((⟨s3.k + 1 + 1, hl2, s3.e, s3.f⟩ : PS L)).e, .int .i64 ((⟨s3.k + 1 + 1, hl2, s3.e, s3.f⟩ : PS L)).f]) (tt rfl) rfl rfl (show _ = some (par 0 ((⟨s3.k + 1 + 1, hl2, s3.e, s3.f⟩ : PS L))) by exact hpp) rfl rfl rfl, trivial⟩, ?_⟩)
                refine gt1 ?_
                refine fin_sub subss (.ret _ _ ?_) ⟨rfl, rfl⟩
                refine WeakL.tuple (.cons (WeakL.agg ?_) (.refl _))
                exact wkk
          · rw [hz]
            simp only [pb_mk] at H
            simp only [Option.some.injEq] at H
            by_cases he0 : s3.e = 0
            · by_cases hk0 : (now s3).kind = 101
              · have w1 : (s3.e == 0) = true := beq_iff_eq.2 he0
                try simp only at w1
                have w2 : (((now s3).kind : Int) != 101) = false := by rw [hk0]; rfl
                have w3 : (s3.e != 0) = false := by rw [show s3.e = 0 from he0]; rfl
                try simp only at w3
                rw [if_neg (by simp [hk0])] at H
                subst H
                rw [outQ_ok hrel he0]
                refine gt1 ?_
                refine s_call rfl rfl rfl ca47 ?_
                refine (c47 (σ := s3) hL hpp).mono ?_
                rintro _ _ ⟨rfl, rfl⟩
                refine back trivial ?_
                refine gt1 ?_
                rcases hsz with rfl | ⟨rfl, rfl⟩
                · refine fin_sub subss (.ret _ _ ?_) ⟨rfl, rfl⟩
                  refine WeakL.tuple (.cons (WeakL.agg ?_) (.refl _))
                  exact wkk
                · refine fin_sub subss (.ret _ _ ?_) ⟨rfl, rfl⟩
                  refine WeakL.tuple (.cons (WeakL.agg ?_) (.refl _))
                  exact wkk
              · have w1 : (s3.e == 0) = true := beq_iff_eq.2 he0
                try simp only at w1
                have w2 : (((now s3).kind : Int) != 101) = true := by rw [bne_iff_ne]; omega
                rw [if_pos ⟨he0, hk0⟩] at H
                have hwr : wrong s3 = ⟨s3.k, s3.hk, 3, (now s3).pos⟩ := by unfold wrong err; rw [if_pos he0]
                rw [hwr] at H
                subst H
                rw [outQ_bad hrel (by simp)]
                refine gt1 ?_
                refine s_call rfl rfl rfl ca47 ?_
                refine (c47 (σ := s3) hL hpp).mono ?_
                rintro _ _ ⟨rfl, rfl⟩
                refine back trivial ?_
                refine gt1 ?_
                refine s_call rfl rfl rfl ca43 ?_
                refine (c43 (σ := s3) hL hpp).mono ?_
                rintro _ _ ⟨rfl, rfl⟩
                refine back trivial ?_
                rw [hwr]
                have w4 : ((⟨s3.k, s3.hk, 3, (now s3).pos⟩ : PS L).e != 0) = true := rfl
                refine gt1 ?_
                (refine s_store (tt rfl) rfl rfl hpp rfl rfl rfl rfl ⟨⟨rk_load (T' := 83) (cs := [.sl 3 (encTs L) .frz, .int .i64 ((⟨s3.k, s3.hk, 3, (now s3).pos⟩ : PS L)).k, .int .i64 0, .int .i64 ((⟨s3.k, s3.hk, 3, (now s3).pos⟩ : PS L)).e, .int .i64 ((⟨s3.k, s3.hk, 3, (now s3).pos⟩ : PS L)).f]) (tt rfl) rfl rfl (show _ = some (par 0 ((⟨s3.k, s3.hk, 3, (now s3).pos⟩ : PS L))) by exact hpp) rfl rfl rfl, rk_load (T' := 83) (cs := [.sl 3 (encTs L) .frz, .int .i64 ((⟨s3.k, s3.hk, 3, (now s3).pos⟩ : PS L)).k, .int .i64 0, .int .i64 ((⟨s3.k, s3.hk, 3, (now s3).pos⟩ : PS L)).e, .int .i64 ((⟨s3.k, s3.hk, 3, (now s3).pos⟩ : PS L)).f]) (tt rfl) rfl rfl (show _ = some (par 0 ((⟨s3.k, s3.hk, 3, (now s3).pos⟩ : PS L))) by exact hpp) rfl rfl rfl, trivial⟩, ?_⟩)
                refine gt1 ?_
                refine fin_sub subss (.ret _ _ ?_) ⟨rfl, rfl⟩
                refine WeakL.tuple (.cons (WeakL.agg ?_) (.refl _))
                exact wkk
            · have w1 : (s3.e == 0) = false := beq_eq_false_iff_ne.2 he0
              try simp only at w1
              have w3 : (s3.e != 0) = true := bne_iff_ne.2 he0
              try simp only at w3
              rw [if_neg (fun q => he0 q.1)] at H
              subst H
              rw [outQ_bad hrel he0]
              refine gt1 ?_
              (refine s_store (tt rfl) rfl rfl hpp rfl rfl rfl rfl ⟨⟨rk_load (T' := 83) (cs := [.sl 3 (encTs L) .frz, .int .i64 (s3).k, .int .i64 0, .int .i64 (s3).e, .int .i64 (s3).f]) (tt rfl) rfl rfl (show _ = some (par 0 (s3)) by exact hpp) rfl rfl rfl, rk_load (T' := 83) (cs := [.sl 3 (encTs L) .frz, .int .i64 (s3).k, .int .i64 0, .int .i64 (s3).e, .int .i64 (s3).f]) (tt rfl) rfl rfl (show _ = some (par 0 (s3)) by exact hpp) rfl rfl rfl, trivial⟩, ?_⟩)
              refine gt1 ?_
              refine fin_sub subss (.ret _ _ ?_) ⟨rfl, rfl⟩
              refine WeakL.tuple (.cons (WeakL.agg ?_) (.refl _))
              exact wkk
      · have w0 : (wordR filterWords 1 s3 == -1) = false := by simp [ho]
        obtain ⟨xw, hxw⟩ := wordR_is ho
        have hl3 := is_last hL (.inl rfl) hxw
        rw [if_neg ho, adv_k hl3] at H
        have hk3 := s3.hk
        have hlen3 := hL.len
        refine gt1 ?_
        refine s_call rfl rfl rfl ca44 ?_
        refine call_q (c44 (σ := (⟨s3.k + 1, hl3, s3.e, s3.f⟩ : PS L)) hL 110 (by omega) [] hpp) fun nm s4 hr => back ⟨rk_load (tt rfl) rfl rfl hpp rfl rfl rfl, trivial⟩ ?_
        simp only [hr, pb_mk] at H
        refine gt1 ?_
        have hgb : b2 < (nx (b3 + 1)).next := by show b2 < b3 + 1; omega
        refine s_append (nx (b3 + 1)) rfl rfl (tt rfl) (tt rfl) rfl (hsz.imp id (·.2)) hnx (append_room (Room.set (Room.set (Room.set hroom hgb) hgb) hgb) (by rw [hlen])) (by simp only [hlen, List.length_cons, List.length_nil]; omega) fun tg' h2 hr2 hx2 => ⟨trivial, ?_⟩
        have k1 : h2.get b3 = some (.box 38 (encP (.mk op' (.mk o2 nm' ag vl lb fd kd2) lab reg lo hi kd) ++ (zG ++ [.sl sz (encFs acc) tg, .int .i64 0]))) := by
          rw [hx2.get b3 (show b3 < b3 + 1 by omega)]; exact hpp
        have k2 : h2.get b1 = some (.box 38 zQ) := by
          rw [hx2.get b1 (show b1 < b3 + 1 by omega)]; exact hpp
        have k3 : h2.get b2 = some (par 0 s4) := by
          rw [hx2.get b2 (show b2 < b3 + 1 by omega)]; exact hpp
        have k5 : Sub h h2 := hx2.sub h (show h.next ≤ b3 + 1 by omega) (by repeat first | exact .refl hw | assumption | (refine Sub.setl ?_ (by first | omega | (simp only [set_next, new_next]; omega)) _))
        have k4 := Nat.le_trans hnx hx2.next
        refine gt1 ?_
        refine l_n _ _ ?_ ?_ ⟨acc ++ [⟨wordR filterWords 1 s3, b, nm⟩], s4, tg', 3, H, .inl rfl, by simp; omega, .setl k5 (by omega) _, by exact hpp, ?_, ?_, by exact hpp, k4, rfl⟩
        · omega
        · exact envv
        · exact append_room (Room.set hr2 (show b3 < b3 + 1 by omega)) (by simp [hlen])
        · rw [hs_self]
          simp [setCells, encFs, encF, AVal.cells, encP, encG, encC]
end
end Go.Proofs
