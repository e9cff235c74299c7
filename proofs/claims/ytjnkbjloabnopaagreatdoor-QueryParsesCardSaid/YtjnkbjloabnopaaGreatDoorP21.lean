/- Conditions read by the reference. No conditions. -/
import Derived.Test.YtjnkbjloabnopaaGreatDoorP20
namespace Go.Proofs
open Go.Abs Go.Q
attribute [local irreducible] awp aops Run BodyQ ACalls Back
section
variable {G : Nat → Option Obj} {h : AHeap} {L : List Tok} {σ : PS L} {g : Nat} {d : Int}

theorem kind_cases (k : Nat) (m : Int) (hm : (k : Int) = m) (σ : PS L) : (kind k σ = true ∧ (σ.e == 0) = true ∧ (((now σ).kind : Int) == m) = true) ∨ (kind k σ = false ∧ (σ.e == 0) = false) ∨ (kind k σ = false ∧ (σ.e == 0) = true ∧ (((now σ).kind : Int) == m) = false) := by
  subst hm
  have hc : (((now σ).kind : Int) == (k : Int)) = ((now σ).kind == k) := by
    rw [Bool.eq_iff_iff, beq_iff_eq, beq_iff_eq]
    omega
  unfold kind
  rw [hc]
  cases σ.e == 0 <;> cases (now σ).kind == k <;> simp

def RNotOK (G : Nat → Option Obj) (L : List Tok) (n : Nat) : Prop := ∀ (h : AHeap) (σ : PS L) (g : Nat) (d : Int) (r : Cond × PS L), h.get g = some (par d σ) → rNot n σ = some r → ACalls Tryz.prog G 284 [.ptr g 0] h (PP g d h encCa r)
def RAndOK (G : Nat → Option Obj) (L : List Tok) (n : Nat) : Prop := ∀ (h : AHeap) (σ : PS L) (g : Nat) (d : Int) (r : Cond × PS L), h.get g = some (par d σ) → rAnd n σ = some r → ACalls Tryz.prog G 256 [.ptr g 0] h (PP g d h encCa r)
def ROrOK (G : Nat → Option Obj) (L : List Tok) (n : Nat) : Prop := ∀ (h : AHeap) (σ : PS L) (g : Nat) (d : Int) (r : Cond × PS L), h.get g = some (par d σ) → rOr n σ = some r → ACalls Tryz.prog G 237 [.ptr g 0] h (PP g d h encCa r)


set_option maxHeartbeats 4000000 in
set_option maxRecDepth 10000 in
theorem rnot_step (hL : LOk L) (n : Nat) (h1 : RNotOK G L n) (h2 : ROrOK G L n) : RNotOK G L (n + 1) := by
  intro h σ g d r hg H
  refine ACalls.fin (en284 (by simp) fun hw => ?_)
  have hgl := hw g _ hg
  have hlen := hL.len
  simp only [rNot] at H
  refine g1 ?_
  refine s_alloc (tt rfl) fun b1 hb1 => ⟨trivial, ?_⟩
  try simp only [set_next, new_next] at hb1
  refine g1 ?_
  rcases Bool.eq_false_or_eq_true (is 111 [33] σ) with hx | hx <;> simp only [hx, sbb] at H
  · refine s_call rfl rfl rfl ca39 ?_
    refine (c39_t (σ := σ) hL [33] hx hpp).mono ?_
    rintro _ _ ⟨rfl, rfl⟩
    refine back trivial ?_
    refine g1 ?_
    refine s_call rfl rfl rfl ca284 ?_
    refine call_p (pbO_ne H) (fun r1 hr => h1 _ (adv σ) _ d _ hpp hr) fun a s1 hr => back trivial ?_
    rw [hr] at H; simp only [pbO_some, pb_mk, sbb] at H
    simp only [Option.some.injEq] at H
    subst H
    obtain ⟨op', nm, ag, vl, lb, fd, kd⟩ := a
    refine g1 ?_
    refine fin_q atss wkk
  refine s_call rfl rfl rfl ca39 ?_
  refine (c39_f (σ := σ) hL [33] hx hpp).mono ?_
  rintro _ _ ⟨rfl, rfl⟩
  refine back trivial ?_
  refine g1 ?_
  rcases Bool.eq_false_or_eq_true (is 111 [40] σ) with hx | hx <;> simp only [hx, sbb] at H
  · refine s_call rfl rfl rfl ca39 ?_
    refine (c39_t (σ := σ) hL [40] hx hpp).mono ?_
    rintro _ _ ⟨rfl, rfl⟩
    refine back trivial ?_
    refine g1 ?_
    refine s_call rfl rfl rfl ca237 ?_
    refine call_p (pbO_ne H) (fun r1 hr => h2 _ (adv σ) _ d _ hpp hr) fun a s1 hr => back trivial ?_
    rw [hr] at H; simp only [pbO_some, pb_mk, sbb] at H
    obtain ⟨op', nm, ag, vl, lb, fd, kd⟩ := a
    refine g1 ?_
    refine s_alloc (tt rfl) fun b2 hb2 => ⟨trivial, ?_⟩
    try simp only [set_next, new_next] at hb2
    refine g1 ?_
    refine s_call rfl rfl rfl ca44 ?_
    refine call_q (c44 (σ := s1) hL 111 (by omega) [41] hpp) fun u s2 hr => back trivial ?_
    simp only [hr, pb_mk, Option.some.injEq] at H
    subst H
    refine g1 ?_
    refine fin_q atss wkk
  refine s_call rfl rfl rfl ca39 ?_
  refine (c39_f (σ := σ) hL [40] hx hpp).mono ?_
  rintro _ _ ⟨rfl, rfl⟩
  refine back trivial ?_
  refine g1 ?_
  simp only [Option.some.injEq] at H
  subst H
  unfold rAtom
  refine s_call rfl rfl rfl ca44 ?_
  refine call_q (c44 (σ := σ) hL 110 (by omega) [] hpp) fun name s1 hr => back trivial ?_
  simp only [hr, pb_mk]
  refine g2 ?_ ?_ <;> (repeat intro hb hc)
  · simp only [hb, sbb]
    rcases Bool.eq_false_or_eq_true (is 111 [40] s1) with hx | hx <;> simp only [hx, sbb]
    · refine s_call rfl rfl rfl ca39 ?_
      refine (c39_t (σ := s1) hL [40] hx hpp).mono ?_
      rintro _ _ ⟨rfl, rfl⟩
      refine back trivial ?_
      refine g1 ?_
      refine s_call rfl rfl rfl ca44 ?_
      refine call_q (c44 (σ := adv s1) hL 110 (by omega) [] hpp) fun ty s2 hr => back trivial ?_
      simp only [hr, pb_mk]
      refine g1 ?_
      refine s_alloc (tt rfl) fun b2 hb2 => ⟨trivial, ?_⟩
      try simp only [set_next, new_next] at hb2
      refine g1 ?_
      rcases Bool.eq_false_or_eq_true (is 111 [44] s2) with hx | hx <;> simp only [hx, sbb]
      · refine s_call rfl rfl rfl ca39 ?_
        refine (c39_t (σ := s2) hL [44] hx hpp).mono ?_
        rintro _ _ ⟨rfl, rfl⟩
        refine back trivial ?_
        refine g1 ?_
        refine s_call rfl rfl rfl ca44 ?_
        refine call_q (c44 (σ := adv s2) hL 110 (by omega) [] hpp) fun arg s3 hr => back trivial ?_
        simp only [hr, pb_mk]
        refine g1 ?_
        refine s_call rfl rfl rfl ca44 ?_
        refine call_q (c44 (σ := s3) hL 111 (by omega) [61] hpp) fun u1 s4 hr => back trivial ?_
        simp only [hr, pb_mk]
        refine g1 ?_
        refine s_call rfl rfl rfl ca44 ?_
        refine call_q (c44 (σ := s4) hL 115 (by omega) [] hpp) fun v s5 hr => back trivial ?_
        simp only [hr, pb_mk]
        refine g1 ?_
        refine s_call rfl rfl rfl ca44 ?_
        refine call_q (c44 (σ := s5) hL 111 (by omega) [41] hpp) fun u2 s6 hr => back trivial ?_
        simp only [hr, pb_mk]
        refine g1 ?_
        refine fin_q atss wkk
      · refine s_call rfl rfl rfl ca39 ?_
        refine (c39_f (σ := s2) hL [44] hx hpp).mono ?_
        rintro _ _ ⟨rfl, rfl⟩
        refine back trivial ?_
        refine g1 ?_
        refine s_call rfl rfl rfl ca44 ?_
        refine call_q (c44 (σ := s2) hL 111 (by omega) [41] hpp) fun u2 s3 hr => back trivial ?_
        simp only [hr, pb_mk]
        refine g1 ?_
        refine fin_q atss wkk
    · refine s_call rfl rfl rfl ca39 ?_
      refine (c39_f (σ := s1) hL [40] hx hpp).mono ?_
      rintro _ _ ⟨rfl, rfl⟩
      refine back trivial ?_
      refine g1 ?_
      rcases Bool.eq_false_or_eq_true (is 111 [33, 61] s1) with hx | hx <;> simp only [hx, sbb]
      · refine s_call rfl rfl rfl ca39 ?_
        refine (c39_t (σ := s1) hL [33, 61] hx hpp).mono ?_
        rintro _ _ ⟨rfl, rfl⟩
        refine back trivial ?_
        refine g1 ?_
        refine s_call rfl rfl rfl ca44 ?_
        refine call_q (c44 (σ := adv s1) hL 115 (by omega) [] hpp) fun v s2 hr => back trivial ?_
        simp only [hr, pb_mk]
        refine g1 ?_
        refine s_alloc (tt rfl) fun b2 hb2 => ⟨trivial, ?_⟩
        try simp only [set_next, new_next] at hb2
        refine g1 ?_
        refine s_call rfl rfl rfl ca208 ?_
        refine call_q (c208 (σ := s2) hL hpp) fun f s3 hr => back trivial ?_
        simp only [hr, pb_mk]
        refine g1 ?_
        refine fin_q atss wkk
      · refine s_call rfl rfl rfl ca39 ?_
        refine (c39_f (σ := s1) hL [33, 61] hx hpp).mono ?_
        rintro _ _ ⟨rfl, rfl⟩
        refine back trivial ?_
        refine g1 ?_
        refine s_call rfl rfl rfl ca45 ?_
        refine (c45 (σ := s1) hL 110 [99, 111, 110, 116, 97, 105, 110, 115] hpp).mono ?_
        rintro _ _ ⟨rfl, rfl⟩
        refine back trivial ?_
        rcases Bool.eq_false_or_eq_true (is 110 [99, 111, 110, 116, 97, 105, 110, 115] s1) with hx | hx <;> simp only [hx, sbb]
        · have hl := is_last hL (.inl rfl) hx
          have hkk := s1.hk
          rw [adv_k hl]
          refine g1 ?_
          refine s_call rfl rfl rfl ca44 ?_
          refine call_q (c44 (σ := (⟨s1.k + 1, hl, s1.e, s1.f⟩ : PS L)) hL 115 (by omega) [] hpp) fun v s2 hr => back trivial ?_
          simp only [hr, pb_mk]
          refine g1 ?_
          refine fin_q atss wkk
        · refine g1 ?_
          refine s_call rfl rfl rfl ca44 ?_
          refine call_q (c44 (σ := s1) hL 111 (by omega) [61] hpp) fun u1 s2 hr => back trivial ?_
          simp only [hr, pb_mk]
          rcases kind_cases 110 110 rfl (s2) with ⟨hk, hk1, hk2⟩ | ⟨hk, hk1⟩ | ⟨hk, hk1, hk2⟩ <;> simp only [hk, sbb]
          · refine g1 ?_
            refine s_call rfl rfl rfl ca47 ?_
            refine (c47 (σ := s2) hL hpp).mono ?_
            rintro _ _ ⟨rfl, rfl⟩
            refine back trivial ?_
            refine g1 ?_
            refine s_call rfl rfl rfl ca44 ?_
            refine call_q (c44 (σ := s2) hL 110 (by omega) [] hpp) fun lb s3 hr => back trivial ?_
            simp only [hr, pb_mk]
            refine g1 ?_
            refine s_alloc (tt rfl) fun b2 hb2 => ⟨trivial, ?_⟩
            try simp only [set_next, new_next] at hb2
            refine g1 ?_
            refine s_call rfl rfl rfl ca44 ?_
            refine call_q (c44 (σ := s3) hL 111 (by omega) [46] hpp) fun u2 s4 hr => back trivial ?_
            simp only [hr, pb_mk]
            refine g1 ?_
            refine s_call rfl rfl rfl ca44 ?_
            refine call_q (c44 (σ := s4) hL 110 (by omega) [] hpp) fun arg s5 hr => back trivial ?_
            simp only [hr, pb_mk]
            refine g1 ?_
            refine fin_q atss wkk
          · refine g1 ?_
            refine s_call rfl rfl rfl ca44 ?_
            refine call_q (c44 (σ := s2) hL 115 (by omega) [] hpp) fun v s3 hr => back trivial ?_
            simp only [hr, pb_mk]
            refine g1 ?_
            refine s_alloc (tt rfl) fun b2 hb2 => ⟨trivial, ?_⟩
            try simp only [set_next, new_next] at hb2
            refine g1 ?_
            refine s_call rfl rfl rfl ca208 ?_
            refine call_q (c208 (σ := s3) hL hpp) fun f s4 hr => back trivial ?_
            simp only [hr, pb_mk]
            refine g1 ?_
            refine fin_q atss wkk
          · refine g1 ?_
            refine s_call rfl rfl rfl ca47 ?_
            refine (c47 (σ := s2) hL hpp).mono ?_
            rintro _ _ ⟨rfl, rfl⟩
            refine back trivial ?_
            refine g1 ?_
            refine s_call rfl rfl rfl ca44 ?_
            refine call_q (c44 (σ := s2) hL 115 (by omega) [] hpp) fun v s3 hr => back trivial ?_
            simp only [hr, pb_mk]
            refine g1 ?_
            refine s_alloc (tt rfl) fun b2 hb2 => ⟨trivial, ?_⟩
            try simp only [set_next, new_next] at hb2
            refine g1 ?_
            refine s_call rfl rfl rfl ca208 ?_
            refine call_q (c208 (σ := s3) hL hpp) fun f s4 hr => back trivial ?_
            simp only [hr, pb_mk]
            refine g1 ?_
            refine fin_q atss wkk
  · have hb' : (name == [105, 110]) = false := hb
    simp only [hb', sbb]
    rcases Bool.eq_false_or_eq_true (is 111 [33, 61] s1) with hx | hx <;> simp only [hx, sbb]
    · refine s_call rfl rfl rfl ca39 ?_
      refine (c39_t (σ := s1) hL [33, 61] hx hpp).mono ?_
      rintro _ _ ⟨rfl, rfl⟩
      refine back trivial ?_
      refine g1 ?_
      refine s_call rfl rfl rfl ca44 ?_
      refine call_q (c44 (σ := adv s1) hL 115 (by omega) [] hpp) fun v s2 hr => back trivial ?_
      simp only [hr, pb_mk]
      refine g1 ?_
      refine s_alloc (tt rfl) fun b2 hb2 => ⟨trivial, ?_⟩
      try simp only [set_next, new_next] at hb2
      refine g1 ?_
      refine s_call rfl rfl rfl ca208 ?_
      refine call_q (c208 (σ := s2) hL hpp) fun f s3 hr => back trivial ?_
      simp only [hr, pb_mk]
      refine g1 ?_
      refine fin_q atss wkk
    · refine s_call rfl rfl rfl ca39 ?_
      refine (c39_f (σ := s1) hL [33, 61] hx hpp).mono ?_
      rintro _ _ ⟨rfl, rfl⟩
      refine back trivial ?_
      refine g1 ?_
      refine s_call rfl rfl rfl ca45 ?_
      refine (c45 (σ := s1) hL 110 [99, 111, 110, 116, 97, 105, 110, 115] hpp).mono ?_
      rintro _ _ ⟨rfl, rfl⟩
      refine back trivial ?_
      rcases Bool.eq_false_or_eq_true (is 110 [99, 111, 110, 116, 97, 105, 110, 115] s1) with hx | hx <;> simp only [hx, sbb]
      · have hl := is_last hL (.inl rfl) hx
        have hkk := s1.hk
        rw [adv_k hl]
        refine g1 ?_
        refine s_call rfl rfl rfl ca44 ?_
        refine call_q (c44 (σ := (⟨s1.k + 1, hl, s1.e, s1.f⟩ : PS L)) hL 115 (by omega) [] hpp) fun v s2 hr => back trivial ?_
        simp only [hr, pb_mk]
        refine g1 ?_
        refine fin_q atss wkk
      · refine g1 ?_
        refine s_call rfl rfl rfl ca44 ?_
        refine call_q (c44 (σ := s1) hL 111 (by omega) [61] hpp) fun u1 s2 hr => back trivial ?_
        simp only [hr, pb_mk]
        rcases kind_cases 110 110 rfl (s2) with ⟨hk, hk1, hk2⟩ | ⟨hk, hk1⟩ | ⟨hk, hk1, hk2⟩ <;> simp only [hk, sbb]
        · refine g1 ?_
          refine s_call rfl rfl rfl ca47 ?_
          refine (c47 (σ := s2) hL hpp).mono ?_
          rintro _ _ ⟨rfl, rfl⟩
          refine back trivial ?_
          refine g1 ?_
          refine s_call rfl rfl rfl ca44 ?_
          refine call_q (c44 (σ := s2) hL 110 (by omega) [] hpp) fun lb s3 hr => back trivial ?_
          simp only [hr, pb_mk]
          refine g1 ?_
          refine s_alloc (tt rfl) fun b2 hb2 => ⟨trivial, ?_⟩
          try simp only [set_next, new_next] at hb2
          refine g1 ?_
          refine s_call rfl rfl rfl ca44 ?_
          refine call_q (c44 (σ := s3) hL 111 (by omega) [46] hpp) fun u2 s4 hr => back trivial ?_
          simp only [hr, pb_mk]
          refine g1 ?_
          refine s_call rfl rfl rfl ca44 ?_
          refine call_q (c44 (σ := s4) hL 110 (by omega) [] hpp) fun arg s5 hr => back trivial ?_
          simp only [hr, pb_mk]
          refine g1 ?_
          refine fin_q atss wkk
        · refine g1 ?_
          refine s_call rfl rfl rfl ca44 ?_
          refine call_q (c44 (σ := s2) hL 115 (by omega) [] hpp) fun v s3 hr => back trivial ?_
          simp only [hr, pb_mk]
          refine g1 ?_
          refine s_alloc (tt rfl) fun b2 hb2 => ⟨trivial, ?_⟩
          try simp only [set_next, new_next] at hb2
          refine g1 ?_
          refine s_call rfl rfl rfl ca208 ?_
          refine call_q (c208 (σ := s3) hL hpp) fun f s4 hr => back trivial ?_
          simp only [hr, pb_mk]
          refine g1 ?_
          refine fin_q atss wkk
        · refine g1 ?_
          refine s_call rfl rfl rfl ca47 ?_
          refine (c47 (σ := s2) hL hpp).mono ?_
          rintro _ _ ⟨rfl, rfl⟩
          refine back trivial ?_
          refine g1 ?_
          refine s_call rfl rfl rfl ca44 ?_
          refine call_q (c44 (σ := s2) hL 115 (by omega) [] hpp) fun v s3 hr => back trivial ?_
          simp only [hr, pb_mk]
          refine g1 ?_
          refine s_alloc (tt rfl) fun b2 hb2 => ⟨trivial, ?_⟩
          try simp only [set_next, new_next] at hb2
          refine g1 ?_
          refine s_call rfl rfl rfl ca208 ?_
          refine call_q (c208 (σ := s3) hL hpp) fun f s4 hr => back trivial ?_
          simp only [hr, pb_mk]
          refine g1 ?_
          refine fin_q atss wkk

end
end Go.Proofs

/- Conditions read by the reference: and, or. No conditions. -/
namespace Go.Proofs
open Go.Abs Go.Q
attribute [local irreducible] awp aops Run BodyQ ACalls Back
section
variable {G : Nat → Option Obj} {h : AHeap} {L : List Tok} {σ : PS L} {g : Nat} {d : Int}

set_option maxHeartbeats 2000000 in
theorem rand_step (hL : LOk L) (n : Nat) (hn : n ≤ 100000) (h1 : ∀ m, m ≤ n → RNotOK G L m) : RAndOK G L (n + 1) := by
  intro h σ g d r hg H
  refine ACalls.fin (en256 (by simp) fun hw => ?_)
  have hgl := hw g _ hg
  simp only [rAnd] at H
  refine g1 ?_
  refine s_alloc (tt rfl) fun b1 hb1 => ⟨trivial, ?_⟩
  try simp only [set_next, new_next] at hb1
  refine g1 ?_
  refine s_call rfl rfl rfl ca284 ?_
  refine call_p (pbO_ne H) (fun r1 hr => h1 n (Nat.le_refl n) _ σ _ d _ hpp hr) fun a s1 hr => back trivial ?_
  rw [hr] at H; simp only [pbO_some, pb_mk, sbb] at H
  obtain ⟨op', nm, ag, vl, lb, fd, kd⟩ := a
  refine g1 ?_
  refine w_loop (fun e h' k => ∃ (acc : List Cond) (σ' : PS L) (tg : Tag), rAndL k acc σ' = some r ∧ acc.length + k ≤ n + 1 ∧ k ≤ n ∧ At h g (par d σ') h' ∧ Room (h.new b1 (.box 29 zC)) h' 29 (acc.length * 7) tg ∧ h'.get b1 = some (.box 29 zC) ∧ b1 + 1 ≤ h'.next ∧
      e = [(0, true, .ptr g 0), (2, true, .ptr b1 0), (3, true, .sl 7 (encCs acc) tg)])
    _ _ (.cons rfl (.cons rfl (.cons rfl (.nil _)))) ⟨[.mk op' nm ag vl lb fd kd], s1, .full, H, by simp; omega, Nat.le_refl _, by exact atss, trivial, by exact hpp, by simp [set_next, new_next], rfl⟩ ?_
  rintro _ h' k ⟨acc, st', tg, H, hak, hkn, hat, hroom, hbx, hnx, rfl⟩
  cases k with
  | zero => cases H
  | succ k =>
    simp only [rAndL] at H
    have hgx := hat.get
    have hlen := encCs_length acc
    refine g1 ?_
    rcases Bool.eq_false_or_eq_true (is 111 [38] st') with hx | hx <;> simp only [hx, sbb] at H
    · refine s_call rfl rfl rfl ca39 ?_
      refine (c39_t (σ := st') hL [38] hx hpp).mono ?_
      rintro _ _ ⟨rfl, rfl⟩
      refine back trivial ?_
      refine g1 ?_
      refine s_call rfl rfl rfl ca284 ?_
      refine call_p (pbO_ne H) (fun r1 hr => h1 k (by omega) _ (adv st') _ d _ hpp hr) fun a s2 hr => back trivial ?_
      rw [hr] at H; simp only [pbO_some, pb_mk, sbb] at H
      obtain ⟨op', nm, ag, vl, lb, fd, kd⟩ := a
      refine g1 ?_
      have hgb : g < (h.new b1 (.box 29 zC)).next := by simp only [new_next]; omega
      refine s_append (h.new b1 (.box 29 zC)) rfl rfl (tt rfl) (tt rfl) rfl (.inl rfl) hnx (append_room (Room.set (Room.set hroom hgb) hgb) (by rw [encCs_length])) (by simp only [encCs_length, List.length_cons, List.length_nil]; omega) fun tg' h2 hr2 hx2 => ⟨trivial, ?_⟩
      refine g1 ?_
      refine l_n _ _ ?_ ?_ ⟨acc ++ [.mk op' nm ag vl lb fd kd], s2, tg', H, by simp; omega, by omega, ?_, ?_, ?_, Nat.le_trans hnx hx2.next, rfl⟩
      · omega
      · refine .cons rfl (.cons rfl (.cons ?_ (.nil _)))
        rw [encCs_append]
        rfl
      · refine At.ext ?_ (Ext.le (h1 := h) (by simp only [new_next]; omega) hx2)
        exact atss
      · exact append_room hr2 (by simp [encCs_length])
      · rw [hx2.get b1 (by simp only [new_next]; omega)]
        exact hpp
    · simp only [Option.some.injEq] at H
      subst H
      refine s_call rfl rfl rfl ca39 ?_
      refine (c39_f (σ := st') hL [38] hx hpp).mono ?_
      rintro _ _ ⟨rfl, rfl⟩
      refine back trivial ?_
      refine g2 ?_ ?_ <;> (repeat intro hb hc)
      · obtain ⟨c, rfl⟩ : ∃ c, acc = [c] := List.length_eq_one_iff.1 (by omega)
        obtain ⟨op', nm, ag, vl, lb, fd, kd⟩ := c
        refine s_ia rfl (tt rfl) (tt rfl) rfl rfl rfl (fun _ => rfl) (by omega) rfl ?_
        refine g1 ?_
        refine fin_q atss wkk
      · have : manyC 7 acc = .mk 7 [] [] [] [] false acc := by
          rcases acc with _ | ⟨c, _ | ⟨d, r⟩⟩
          · rfl
          · exact absurd rfl hc
          · rfl
        rw [this]
        refine fin_q atss wkk
set_option maxHeartbeats 2000000 in
theorem ror_step (hL : LOk L) (n : Nat) (hn : n ≤ 100000) (h1 : ∀ m, m ≤ n → RAndOK G L m) : ROrOK G L (n + 1) := by
  intro h σ g d r hg H
  refine ACalls.fin (en237 (by simp) fun hw => ?_)
  have hgl := hw g _ hg
  simp only [rOr] at H
  refine g1 ?_
  refine s_alloc (tt rfl) fun b1 hb1 => ⟨trivial, ?_⟩
  try simp only [set_next, new_next] at hb1
  refine g1 ?_
  refine s_call rfl rfl rfl ca256 ?_
  refine call_p (pbO_ne H) (fun r1 hr => h1 n (Nat.le_refl n) _ σ _ d _ hpp hr) fun a s1 hr => back trivial ?_
  rw [hr] at H; simp only [pbO_some, pb_mk, sbb] at H
  obtain ⟨op', nm, ag, vl, lb, fd, kd⟩ := a
  refine g1 ?_
  refine w_loop (fun e h' k => ∃ (acc : List Cond) (σ' : PS L) (tg : Tag), rOrL k acc σ' = some r ∧ acc.length + k ≤ n + 1 ∧ k ≤ n ∧ At h g (par d σ') h' ∧ Room (h.new b1 (.box 29 zC)) h' 29 (acc.length * 7) tg ∧ h'.get b1 = some (.box 29 zC) ∧ b1 + 1 ≤ h'.next ∧
      e = [(0, true, .ptr g 0), (2, true, .ptr b1 0), (3, true, .sl 7 (encCs acc) tg)])
    _ _ (.cons rfl (.cons rfl (.cons rfl (.nil _)))) ⟨[.mk op' nm ag vl lb fd kd], s1, .full, H, by simp; omega, Nat.le_refl _, by exact atss, trivial, by exact hpp, by simp [set_next, new_next], rfl⟩ ?_
  rintro _ h' k ⟨acc, st', tg, H, hak, hkn, hat, hroom, hbx, hnx, rfl⟩
  cases k with
  | zero => cases H
  | succ k =>
    simp only [rOrL] at H
    have hgx := hat.get
    have hlen := encCs_length acc
    refine g1 ?_
    rcases Bool.eq_false_or_eq_true (is 111 [124] st') with hx | hx <;> simp only [hx, sbb] at H
    · refine s_call rfl rfl rfl ca39 ?_
      refine (c39_t (σ := st') hL [124] hx hpp).mono ?_
      rintro _ _ ⟨rfl, rfl⟩
      refine back trivial ?_
      refine g1 ?_
      refine s_call rfl rfl rfl ca256 ?_
      refine call_p (pbO_ne H) (fun r1 hr => h1 k (by omega) _ (adv st') _ d _ hpp hr) fun a s2 hr => back trivial ?_
      rw [hr] at H; simp only [pbO_some, pb_mk, sbb] at H
      obtain ⟨op', nm, ag, vl, lb, fd, kd⟩ := a
      refine g1 ?_
      have hgb : g < (h.new b1 (.box 29 zC)).next := by simp only [new_next]; omega
      refine s_append (h.new b1 (.box 29 zC)) rfl rfl (tt rfl) (tt rfl) rfl (.inl rfl) hnx (append_room (Room.set (Room.set hroom hgb) hgb) (by rw [encCs_length])) (by simp only [encCs_length, List.length_cons, List.length_nil]; omega) fun tg' h2 hr2 hx2 => ⟨trivial, ?_⟩
      refine g1 ?_
      refine l_n _ _ ?_ ?_ ⟨acc ++ [.mk op' nm ag vl lb fd kd], s2, tg', H, by simp; omega, by omega, ?_, ?_, ?_, Nat.le_trans hnx hx2.next, rfl⟩
      · omega
      · refine .cons rfl (.cons rfl (.cons ?_ (.nil _)))
        rw [encCs_append]
        rfl
      · refine At.ext ?_ (Ext.le (h1 := h) (by simp only [new_next]; omega) hx2)
        exact atss
      · exact append_room hr2 (by simp [encCs_length])
      · rw [hx2.get b1 (by simp only [new_next]; omega)]
        exact hpp
    · simp only [Option.some.injEq] at H
      subst H
      refine s_call rfl rfl rfl ca39 ?_
      refine (c39_f (σ := st') hL [124] hx hpp).mono ?_
      rintro _ _ ⟨rfl, rfl⟩
      refine back trivial ?_
      refine g2 ?_ ?_ <;> (repeat intro hb hc)
      · obtain ⟨c, rfl⟩ : ∃ c, acc = [c] := List.length_eq_one_iff.1 (by omega)
        obtain ⟨op', nm, ag, vl, lb, fd, kd⟩ := c
        refine s_ia rfl (tt rfl) (tt rfl) rfl rfl rfl (fun _ => rfl) (by omega) rfl ?_
        refine g1 ?_
        refine fin_q atss wkk
      · have : manyC 8 acc = .mk 8 [] [] [] [] false acc := by
          rcases acc with _ | ⟨c, _ | ⟨d, r⟩⟩
          · rfl
          · exact absurd rfl hc
          · rfl
        rw [this]
        refine fin_q atss wkk

theorem rconds_ok (hL : LOk L) : ∀ n, n ≤ 100000 → RNotOK G L n ∧ RAndOK G L n ∧ ROrOK G L n := by
  intro n
  induction n using Nat.strongRecOn with
  | _ n ih =>
    intro hn
    cases n with
    | zero => exact ⟨fun h σ g d r _ H => by simp [rNot] at H, fun h σ g d r _ H => by simp [rAnd] at H, fun h σ g d r _ H => by simp [rOr] at H⟩
    | succ n =>
      have k := fun m (hm : m ≤ n) => ih m (by omega) (by omega)
      exact ⟨rnot_step hL n (k n (Nat.le_refl n)).1 (k n (Nat.le_refl n)).2.2, rand_step hL n (by omega) fun m hm => (k m hm).1, ror_step hL n (by omega) fun m hm => (k m hm).2.1⟩
end
end Go.Proofs

/- The codes of some functions, tied to the loaded program. No conditions. -/
namespace Go.Proofs
open Go.Abs Go.Abs.I
def r203_0 : L := [o 2 (.alloc 32)]
def r203_1 : L := [o 8 (m (t 0)),
  o 9 (.call ⟨.value (f 39), #[(t 8), (s #[40])], #[79, 9]⟩),
  o 7 (a (t 9))]
def r203_2 : L := [o 10 (m (t 0)),
  o 11 (.nilCheck (t 10)),
  o 12 (fa 83 (t 11) 2),
  o 13 (l 3 (t 12)),
  o 14 (.binOp .add 3 (t 13) (k 1) 3),
  o 15 (.nilCheck (t 10)),
  o 16 (fa 83 (t 15) 2),
  q (.store 3 (t 16) (t 14))]
def r203_3 : L := [o 17 (m (t 0)),
  o 18 (.call ⟨.value (f 38), #[(t 17)], #[79]⟩),
  o 3 (.alloc 32),
  q (.store 32 (t 3) (t 18))]
def r203_4 : L := [o 19 (m (t 0)),
  o 20 (.nilCheck (t 19)),
  o 21 (fa 83 (t 20) 2),
  o 22 (l 3 (t 21)),
  o 23 (.binOp .sub 3 (t 22) (k 1) 3),
  o 24 (.nilCheck (t 19)),
  o 25 (fa 83 (t 24) 2),
  q (.store 3 (t 25) (t 23))]
def r203_5 : L := [o 26 (m (t 0)),
  o 27 (.call ⟨.value (f 44), #[(t 26), (.const (.int .u8 111)), (s #[41])], #[79, 5, 9]⟩)]
def r203_6 : L := [o 28 (l 32 (t 3)),
  q (.store 32 (t 2) (t 28))]
def r203_7 : L := [o 30 (m (t 0)),
  o 31 (.call ⟨.value (f 39), #[(t 30), (s #[60])], #[79, 9]⟩),
  o 29 (a (t 31))]
def r203_8 : L := [o 32 (m (t 0)),
  o 33 (.call ⟨.value (f 44), #[(t 32), (.const (.int .u8 110)), (s #[])], #[79, 5, 9]⟩),
  o 34 (.build 32 #[(0, (k 2)), (3, (t 33))]),
  o 4 (.alloc 32),
  q (.store 32 (t 4) (t 34))]
def r203_9 : L := [o 35 (m (t 0)),
  o 36 (.call ⟨.value (f 44), #[(t 35), (.const (.int .u8 111)), (s #[62])], #[79, 5, 9]⟩)]
def r203_10 : L := [o 37 (l 32 (t 4)),
  q (.store 32 (t 2) (t 37))]
def r203_11 : L := [o 39 (m (t 0)),
  o 40 (.call ⟨.value (f 39), #[(t 39), (s #[60, 47])], #[79, 9]⟩),
  o 38 (a (t 40))]
def r203_12 : L := [o 41 (m (t 0)),
  o 42 (.call ⟨.value (f 44), #[(t 41), (.const (.int .u8 110)), (s #[])], #[79, 5, 9]⟩),
  o 43 (.build 32 #[(0, (k 3)), (3, (t 42))]),
  o 5 (.alloc 32),
  q (.store 32 (t 5) (t 43))]
def r203_13 : L := [o 44 (m (t 0)),
  o 45 (.call ⟨.value (f 44), #[(t 44), (.const (.int .u8 111)), (s #[62])], #[79, 5, 9]⟩)]
def r203_14 : L := [o 46 (l 32 (t 5)),
  q (.store 32 (t 2) (t 46))]
def r203_15 : L := [o 47 (.build 32 #[(0, (k 1))]),
  o 6 (.alloc 32),
  q (.store 32 (t 6) (t 47))]
def r203_16 : L := [o 48 (m (t 0)),
  o 49 (.nilCheck (t 48)),
  o 50 (fa 83 (t 49) 3),
  o 51 (l 39 (t 50)),
  o 52 (.binOp .eql 39 (t 51) (k 0) 39),
  o 53 (m (t 52)),
  y 54 (m (t 0)) 53 true,
  y 55 (.call ⟨.value (f 47), #[(t 54)], #[79]⟩) 53 true,
  y 56 (.field 92 (t 55) 0) 53 true,
  y 57 (.binOp .eql 5 (t 56) (.const (.int .u8 110)) 5) 53 true,
  o 58 (.pick (t 53) (t 57) (b false))]
def r203_17 : L := [o 59 (m (t 0)),
  o 60 (.call ⟨.value (f 44), #[(t 59), (.const (.int .u8 110)), (s #[])], #[79, 5, 9]⟩),
  o 61 (fa 32 (t 6) 2),
  q (.store 9 (t 61) (t 60))]
def r203_18 : L := [o 62 (m (t 0)),
  o 63 (.call ⟨.value (f 44), #[(t 62), (.const (.int .u8 111)), (s #[58])], #[79, 5, 9]⟩)]
def r203_19 : L := [o 64 (m (t 0)),
  o 65 (.nilCheck (t 64)),
  o 66 (fa 83 (t 65) 3),
  o 67 (l 39 (t 66)),
  o 68 (.binOp .eql 39 (t 67) (k 0) 39),
  o 69 (m (t 68)),
  y 70 (m (t 0)) 69 true,
  y 71 (.call ⟨.value (f 47), #[(t 70)], #[79]⟩) 69 true,
  y 72 (.field 92 (t 71) 0) 69 true,
  y 73 (.binOp .eql 5 (t 72) (.const (.int .u8 115)) 5) 69 true,
  o 74 (.pick (t 69) (t 73) (b false))]
def r203_20 : L := [o 75 (m (t 0)),
  o 76 (.call ⟨.value (f 44), #[(t 75), (.const (.int .u8 115)), (s #[])], #[79, 5, 9]⟩),
  o 77 (.build 29 #[(0, (k 2)), (3, (t 76))]),
  o 78 (fa 32 (t 6) 1),
  q (.store 29 (t 78) (t 77))]
def r203_21 : L := [o 79 (m (t 0)),
  o 80 (.call ⟨.value (f 208), #[(t 79)], #[79]⟩),
  o 81 (fa 32 (t 6) 1),
  o 82 (fa 29 (t 81) 5),
  q (.store 4 (t 82) (t 80))]
def r203_22 : L := [o 83 (l 32 (t 6)),
  q (.store 32 (t 2) (t 83))]
def r203_23 : L := [o 84 (m (t 0)),
  o 85 (.call ⟨.value (f 44), #[(t 84), (.const (.int .u8 111)), (s #[91])], #[79, 5, 9]⟩)]
def r203_24 : L := [o 86 (m (t 0)),
  o 87 (.call ⟨.value (f 39), #[(t 86), (s #[93])], #[79, 9]⟩)]
def r203_25 : L := [o 88 (.build 29 #[(0, (k 1))]),
  o 89 (fa 32 (t 6) 1),
  q (.store 29 (t 89) (t 88))]
def r203_26 : L := [o 90 (l 32 (t 6)),
  q (.store 32 (t 2) (t 90))]
def r203_27 : L := [o 91 (m (t 0)),
  o 92 (.call ⟨.value (f 237), #[(t 91)], #[79]⟩),
  o 93 (fa 32 (t 6) 1),
  q (.store 29 (t 93) (t 92))]
def r203_28 : L := [o 94 (m (t 0)),
  o 95 (.call ⟨.value (f 44), #[(t 94), (.const (.int .u8 111)), (s #[93])], #[79, 5, 9]⟩)]
def r203_29 : L := [o 96 (l 32 (t 6)),
  q (.store 32 (t 2) (t 96))]
def ir203 : ACode := .seq (.ops r203_0) (.seq (.block 0 (.seq (.ops r203_1) (.cond (t 7) (.seq (.ops r203_2) (.seq (.ops r203_3) (.seq (.ops r203_4) (.seq (.ops r203_5) (.seq (.ops r203_6) (.ret)))))) (.seq (.ops r203_7) (.cond (t 29) (.seq (.ops r203_8) (.seq (.ops r203_9) (.seq (.ops r203_10) (.ret)))) (.seq (.ops r203_11) (.cond (t 38) (.seq (.ops r203_12) (.seq (.ops r203_13) (.seq (.ops r203_14) (.ret)))) (.skip)))))))) (.seq (.ops r203_15) (.seq (.seq (.ops r203_16) (.cond (t 58) (.seq (.ops r203_17) (.ops r203_18)) (.skip))) (.seq (.seq (.ops r203_19) (.cond (t 74) (.seq (.ops r203_20) (.seq (.ops r203_21) (.seq (.ops r203_22) (.ret)))) (.skip))) (.seq (.ops r203_23) (.seq (.seq (.ops r203_24) (.cond (t 87) (.seq (.ops r203_25) (.seq (.ops r203_26) (.ret))) (.skip))) (.seq (.ops r203_27) (.seq (.ops r203_28) (.seq (.ops r203_29) (.ret))))))))))
theorem en203 : En ir203 97 [.cell 2 32] 203 := acalls_enter_b mixed Tryz.func203 Tryz.ntmps203 (by kernel_rfl) (by kernel_rfl)
theorem ca203 : Ca 203 := cal Tryz.func203
def r163_0 : L := [o 2 (.alloc 32)]
def r163_1 : L := [o 7 (m (t 0)),
  o 8 (.call ⟨.value (f 203), #[(t 7)], #[79]⟩),
  o 3 (.alloc 32),
  q (.store 32 (t 3) (t 8))]
def r163_2 : L := [o 9 (m (t 0)),
  o 10 (.nilCheck (t 9)),
  o 11 (fa 83 (t 10) 3),
  o 12 (l 39 (t 11)),
  o 13 (.binOp .eql 39 (t 12) (k 0) 39)]
def r163_3 : L := [o 14 (m (t 0)),
  o 15 (.call ⟨.value (f 47), #[(t 14)], #[79]⟩),
  o 16 (.field 92 (t 15) 2),
  o 4 (a (t 16))]
def r163_4 : L := [o 5 (a (k 0)),
  o 6 (a (k (-1)))]
def r163_5 : L := [o 19 (m (t 0)),
  o 20 (.call ⟨.value (f 39), #[(t 19), (s #[63])], #[79, 9]⟩),
  o 18 (a (t 20))]
def r163_6 : L := [o 6 (a (k 1))]
def r163_7 : L := [o 22 (m (t 0)),
  o 23 (.call ⟨.value (f 39), #[(t 22), (s #[42])], #[79, 9]⟩),
  o 21 (a (t 23))]
def r163_8 : L := [o 25 (m (t 0)),
  o 26 (.call ⟨.value (f 39), #[(t 25), (s #[43])], #[79, 9]⟩),
  o 24 (a (t 26))]
def r163_9 : L := [o 5 (a (k 1))]
def r163_10 : L := [o 28 (m (t 0)),
  o 29 (.call ⟨.value (f 39), #[(t 28), (s #[123])], #[79, 9]⟩),
  o 27 (a (t 29))]
def r163_11 : L := [o 30 (m (t 0)),
  o 31 (m (t 4)),
  o 32 (.call ⟨.value (f 204), #[(t 30), (k 16), (t 31)], #[79, 3, 3]⟩),
  o 5 (a (t 32))]
def r163_12 : L := [o 33 (m (t 5)),
  o 6 (a (t 33))]
def r163_13 : L := [o 34 (m (t 0)),
  o 35 (.call ⟨.value (f 39), #[(t 34), (s #[44])], #[79, 9]⟩)]
def r163_14 : L := [o 6 (a (k (-1)))]
def r163_15 : L := [o 36 (m (t 0)),
  o 37 (.nilCheck (t 36)),
  o 38 (fa 83 (t 37) 3),
  o 39 (l 39 (t 38)),
  o 40 (.binOp .eql 39 (t 39) (k 0) 39),
  o 41 (m (t 40)),
  y 42 (m (t 0)) 41 true,
  y 43 (.call ⟨.value (f 47), #[(t 42)], #[79]⟩) 41 true,
  y 44 (.field 92 (t 43) 0) 41 true,
  y 45 (.binOp .eql 5 (t 44) (.const (.int .u8 100)) 5) 41 true,
  o 46 (.pick (t 41) (t 45) (b false))]
def r163_16 : L := [o 47 (m (t 0)),
  o 48 (m (t 4)),
  o 49 (.call ⟨.value (f 204), #[(t 47), (k 16), (t 48)], #[79, 3, 3]⟩),
  o 6 (a (t 49))]
def r163_17 : L := [o 50 (m (t 6)),
  o 51 (m (t 5)),
  o 52 (.binOp .lss 3 (t 50) (t 51) 3)]
def r163_18 : L := [o 53 (m (t 0)),
  o 54 (m (t 4)),
  o 55 (.call ⟨.value (f 105), #[(t 53), (k 8), (t 54)], #[79, 39, 3]⟩)]
def r163_19 : L := [o 56 (m (t 0)),
  o 57 (.call ⟨.value (f 44), #[(t 56), (.const (.int .u8 111)), (s #[125])], #[79, 5, 9]⟩)]
def r163_20 : L := [o 17 (l 32 (t 3)),
  q (.store 32 (t 2) (t 17))]
def r163_21 : L := [o 58 (m (t 5)),
  o 59 (m (t 6)),
  o 60 (l 32 (t 3)),
  o 61 (.buildSlice 30 1 #[(0, (t 60))]),
  o 62 (.build 32 #[(0, (k 6)), (4, (t 58)), (5, (t 59)), (6, (t 61))]),
  q (.store 32 (t 3) (t 62))]
def r163_22 : L := [o 63 (l 32 (t 3)),
  q (.store 32 (t 2) (t 63))]
def ir163 : ACode := .seq (.ops r163_0) (.seq (.ops r163_1) (.seq (.block 0 (.loop (.seq (.seq (.ops r163_2) (.cond (t 13) (.skip) (.exit 0))) (.block 1 (.seq (.ops r163_3) (.seq (.ops r163_4) (.seq (.block 2 (.seq (.ops r163_5) (.cond (t 18) (.ops r163_6) (.seq (.ops r163_7) (.cond (t 21) (.skip) (.seq (.ops r163_8) (.cond (t 24) (.ops r163_9) (.seq (.ops r163_10) (.cond (t 27) (.seq (.ops r163_11) (.seq (.ops r163_12) (.seq (.seq (.ops r163_13) (.cond (t 35) (.seq (.ops r163_14) (.seq (.ops r163_15) (.cond (t 46) (.seq (.ops r163_16) (.seq (.ops r163_17) (.cond (t 52) (.ops r163_18) (.skip)))) (.skip)))) (.skip))) (.ops r163_19)))) (.seq (.ops r163_20) (.ret))))))))))) (.ops r163_21)))))))) (.seq (.ops r163_22) (.ret))))
theorem en163 : En ir163 64 [.cell 2 32] 163 := acalls_enter_b mixed Tryz.func163 Tryz.ntmps163 (by kernel_rfl) (by kernel_rfl)
theorem ca163 : Ca 163 := cal Tryz.func163
def r103_0 : L := [o 2 (.alloc 32)]
def r103_1 : L := [o 4 (m (t 0)),
  o 5 (.call ⟨.value (f 163), #[(t 4)], #[79]⟩),
  o 6 (.buildSlice 30 1 #[(0, (t 5))]),
  o 3 (a (t 6))]
def r103_2 : L := [o 7 (m (t 0)),
  o 8 (.call ⟨.value (f 164), #[(t 7)], #[79]⟩)]
def r103_3 : L := [o 9 (m (t 3)),
  o 10 (m (t 0)),
  o 11 (.call ⟨.value (f 163), #[(t 10)], #[79]⟩),
  o 12 (.buildSlice 30 1 #[(0, (t 11))]),
  o 13 (.call ⟨.builtin .append, #[(t 9), (t 12)], #[30, 30]⟩),
  o 3 (a (t 13))]
def r103_4 : L := [o 14 (m (t 3)),
  o 15 (ln (t 14) 30),
  o 16 (.binOp .eql 3 (t 15) (k 1) 3)]
def r103_5 : L := [o 17 (m (t 3)),
  o 18 (.indexAddr 30 (t 17) (k 0)),
  o 19 (l 32 (t 18)),
  q (.store 32 (t 2) (t 19))]
def r103_6 : L := [o 20 (m (t 3)),
  o 21 (.build 32 #[(0, (k 4)), (6, (t 20))]),
  q (.store 32 (t 2) (t 21))]
def ir103 : ACode := .seq (.ops r103_0) (.seq (.ops r103_1) (.seq (.block 0 (.loop (.seq (.seq (.ops r103_2) (.cond (t 8) (.skip) (.exit 0))) (.block 1 (.ops r103_3))))) (.seq (.seq (.ops r103_4) (.cond (t 16) (.seq (.ops r103_5) (.ret)) (.skip))) (.seq (.ops r103_6) (.ret)))))
theorem en103 : En ir103 22 [.cell 2 32] 103 := acalls_enter_b mixed Tryz.func103 Tryz.ntmps103 (by kernel_rfl) (by kernel_rfl)
theorem ca103 : Ca 103 := cal Tryz.func103
def r38_0 : L := [o 2 (.alloc 32)]
def r38_1 : L := [o 4 (m (t 0)),
  o 5 (.call ⟨.value (f 103), #[(t 4)], #[79]⟩),
  o 6 (.buildSlice 30 1 #[(0, (t 5))]),
  o 3 (a (t 6))]
def r38_2 : L := [o 7 (m (t 0)),
  o 8 (.call ⟨.value (f 39), #[(t 7), (s #[124])], #[79, 9]⟩)]
def r38_3 : L := [o 9 (m (t 3)),
  o 10 (m (t 0)),
  o 11 (.call ⟨.value (f 103), #[(t 10)], #[79]⟩),
  o 12 (.buildSlice 30 1 #[(0, (t 11))]),
  o 13 (.call ⟨.builtin .append, #[(t 9), (t 12)], #[30, 30]⟩),
  o 3 (a (t 13))]
def r38_4 : L := [o 14 (m (t 3)),
  o 15 (ln (t 14) 30),
  o 16 (.binOp .eql 3 (t 15) (k 1) 3)]
def r38_5 : L := [o 17 (m (t 3)),
  o 18 (.indexAddr 30 (t 17) (k 0)),
  o 19 (l 32 (t 18)),
  q (.store 32 (t 2) (t 19))]
def r38_6 : L := [o 20 (m (t 3)),
  o 21 (.build 32 #[(0, (k 5)), (6, (t 20))]),
  q (.store 32 (t 2) (t 21))]
def ir38 : ACode := .seq (.ops r38_0) (.seq (.ops r38_1) (.seq (.block 0 (.loop (.seq (.seq (.ops r38_2) (.cond (t 8) (.skip) (.exit 0))) (.block 1 (.ops r38_3))))) (.seq (.seq (.ops r38_4) (.cond (t 16) (.seq (.ops r38_5) (.ret)) (.skip))) (.seq (.ops r38_6) (.ret)))))
theorem en38 : En ir38 22 [.cell 2 32] 38 := acalls_enter_b mixed Tryz.func38 Tryz.ntmps38 (by kernel_rfl) (by kernel_rfl)
theorem ca38 : Ca 38 := cal Tryz.func38
end Go.Proofs

/- Patterns read by the reference: items. No conditions. -/
namespace Go.Proofs
open Go.Abs Go.Q
attribute [local irreducible] awp aops Run BodyQ ACalls Back
section
variable {G : Nat → Option Obj} {h : AHeap} {L : List Tok} {σ : PS L} {g : Nat} {d : Int}

def RAltOK (G : Nat → Option Obj) (L : List Tok) (n : Nat) : Prop := ∀ (h : AHeap) (σ : PS L) (g : Nat) (d : Int) (r : Pat × PS L), h.get g = some (par d σ) → 0 ≤ d ∧ d + n ≤ 300000 → rAlt n d σ = some r → ACalls Tryz.prog G 38 [.ptr g 0] h (PP g d h encPa r)
def RSeqOK (G : Nat → Option Obj) (L : List Tok) (n : Nat) : Prop := ∀ (h : AHeap) (σ : PS L) (g : Nat) (d : Int) (r : Pat × PS L), h.get g = some (par d σ) → 0 ≤ d ∧ d + n ≤ 300000 → rSeq n d σ = some r → ACalls Tryz.prog G 103 [.ptr g 0] h (PP g d h encPa r)
def RRepOK (G : Nat → Option Obj) (L : List Tok) (n : Nat) : Prop := ∀ (h : AHeap) (σ : PS L) (g : Nat) (d : Int) (r : Pat × PS L), h.get g = some (par d σ) → 0 ≤ d ∧ d + n ≤ 300000 → rRep n d σ = some r → ACalls Tryz.prog G 163 [.ptr g 0] h (PP g d h encPa r)
def RItemOK (G : Nat → Option Obj) (L : List Tok) (n : Nat) : Prop := ∀ (h : AHeap) (σ : PS L) (g : Nat) (d : Int) (r : Pat × PS L), h.get g = some (par d σ) → 0 ≤ d ∧ d + n ≤ 300000 → rItem n d σ = some r → ACalls Tryz.prog G 203 [.ptr g 0] h (PP g d h encPa r)



set_option maxHeartbeats 4000000 in
set_option maxRecDepth 10000 in
theorem ritem_step (hL : LOk L) (n : Nat) (hn : n ≤ 100000) (h1 : RAltOK G L n) : RItemOK G L (n + 1) := by
  intro h σ g d r hg hd H
  refine ACalls.fin (en203 (by simp) fun hw => ?_)
  have hgl := hw g _ hg
  simp only [rItem] at H
  refine g1 ?_
  refine s_alloc (tt rfl) fun b1 hb1 => ⟨trivial, ?_⟩
  try simp only [set_next, new_next] at hb1
  refine g1 ?_
  rcases Bool.eq_false_or_eq_true (is 111 [40] σ) with hx | hx <;> simp only [hx, sbb] at H
  · refine s_call rfl rfl rfl ca39 ?_
    refine (c39_t (σ := σ) hL [40] hx hpp).mono ?_
    rintro _ _ ⟨rfl, rfl⟩
    refine back trivial ?_
    refine g1 ?_
    refine s_call rfl rfl rfl ca38 ?_
    refine call_p (pbO_ne H) (fun r1 hr => h1 _ (adv σ) _ (d + 1) _ hpp (by omega) hr) fun a s1 hr => back trivial ?_
    rw [hr] at H; simp only [pbO_some, pb_mk, sbb] at H
    obtain ⟨op', ⟨o2, nm, ag, vl, lb, fd, kd2⟩, lab, reg, lo, hi, kd⟩ := a
    refine g1 ?_
    refine s_alloc (tt rfl) fun b2 hb2 => ⟨trivial, ?_⟩
    try simp only [set_next, new_next] at hb2
    refine g1 ?_
    simp only [Int.add_sub_cancel]
    refine s_call rfl rfl rfl ca44 ?_
    refine call_q (c44 (σ := s1) (d := d) hL 111 (by omega) [41] hpp) fun u s2 hr => back trivial ?_
    simp only [hr, pb_mk, Option.some.injEq] at H
    subst H
    refine g1 ?_
    refine fin_q atss wkk
  refine s_call rfl rfl rfl ca39 ?_
  refine (c39_f (σ := σ) hL [40] hx hpp).mono ?_
  rintro _ _ ⟨rfl, rfl⟩
  refine back trivial ?_
  refine g1 ?_
  rcases Bool.eq_false_or_eq_true (is 111 [60] σ) with hx | hx <;> simp only [hx, sbb] at H
  · refine s_call rfl rfl rfl ca39 ?_
    refine (c39_t (σ := σ) hL [60] hx hpp).mono ?_
    rintro _ _ ⟨rfl, rfl⟩
    refine back trivial ?_
    refine g1 ?_
    simp only [Option.some.injEq] at H
    subst H
    refine s_call rfl rfl rfl ca44 ?_
    refine call_q (c44 (σ := adv σ) hL 110 (by omega) [] hpp) fun rg s1 hr => back trivial ?_
    simp only [hr, pb_mk]
    refine g1 ?_
    refine s_alloc (tt rfl) fun b2 hb2 => ⟨trivial, ?_⟩
    try simp only [set_next, new_next] at hb2
    refine g1 ?_
    refine s_call rfl rfl rfl ca44 ?_
    refine call_q (c44 (σ := s1) hL 111 (by omega) [62] hpp) fun u s2 hr => back trivial ?_
    simp only [hr, pb_mk]
    refine g1 ?_
    refine fin_q atss wkk
  refine s_call rfl rfl rfl ca39 ?_
  refine (c39_f (σ := σ) hL [60] hx hpp).mono ?_
  rintro _ _ ⟨rfl, rfl⟩
  refine back trivial ?_
  refine g1 ?_
  rcases Bool.eq_false_or_eq_true (is 111 [60, 47] σ) with hx | hx <;> simp only [hx, sbb] at H
  · refine s_call rfl rfl rfl ca39 ?_
    refine (c39_t (σ := σ) hL [60, 47] hx hpp).mono ?_
    rintro _ _ ⟨rfl, rfl⟩
    refine back trivial ?_
    refine g1 ?_
    simp only [Option.some.injEq] at H
    subst H
    refine s_call rfl rfl rfl ca44 ?_
    refine call_q (c44 (σ := adv σ) hL 110 (by omega) [] hpp) fun rg s1 hr => back trivial ?_
    simp only [hr, pb_mk]
    refine g1 ?_
    refine s_alloc (tt rfl) fun b2 hb2 => ⟨trivial, ?_⟩
    try simp only [set_next, new_next] at hb2
    refine g1 ?_
    refine s_call rfl rfl rfl ca44 ?_
    refine call_q (c44 (σ := s1) hL 111 (by omega) [62] hpp) fun u s2 hr => back trivial ?_
    simp only [hr, pb_mk]
    refine g1 ?_
    refine fin_q atss wkk
  refine s_call rfl rfl rfl ca39 ?_
  refine (c39_f (σ := σ) hL [60, 47] hx hpp).mono ?_
  rintro _ _ ⟨rfl, rfl⟩
  refine back trivial ?_
  refine g1 ?_
  refine s_alloc (tt rfl) fun b2 hb2 => ⟨trivial, ?_⟩
  try simp only [set_next, new_next] at hb2
  unfold rLabel at H
  rcases kind_cases 110 110 rfl (σ) with ⟨hk, hk1, hk2⟩ | ⟨hk, hk1⟩ | ⟨hk, hk1, hk2⟩ <;> simp only [hk, sbb] at H
  · refine g1 ?_
    refine s_call rfl rfl rfl ca47 ?_
    refine (c47 (σ := σ) hL hpp).mono ?_
    rintro _ _ ⟨rfl, rfl⟩
    refine back trivial ?_
    refine g1 ?_
    refine s_call rfl rfl rfl ca44 ?_
    refine call_q (c44 (σ := σ) hL 110 (by omega) [] hpp) fun l s1 hr => back trivial ?_
    simp only [hr, pb_mk] at H
    refine g1 ?_
    refine s_call rfl rfl rfl ca44 ?_
    refine call_q (c44 (σ := s1) hL 111 (by omega) [58] hpp) fun u1 s2 hr => back trivial ?_
    simp only [hr, pb_mk] at H
    unfold rToken at H
    rcases kind_cases 115 115 rfl (s2) with ⟨hk, hk1, hk2⟩ | ⟨hk, hk1⟩ | ⟨hk, hk1, hk2⟩ <;> simp only [hk, sbb] at H
    · refine g1 ?_
      refine s_call rfl rfl rfl ca47 ?_
      refine (c47 (σ := s2) hL hpp).mono ?_
      rintro _ _ ⟨rfl, rfl⟩
      refine back trivial ?_
      refine g1 ?_
      simp only [Option.some.injEq] at H
      subst H
      refine s_call rfl rfl rfl ca44 ?_
      refine call_q (c44 (σ := s2) hL 115 (by omega) [] hpp) fun v s3 hr => back trivial ?_
      simp only [hr, pb_mk]
      refine g1 ?_
      refine s_call rfl rfl rfl ca208 ?_
      refine call_q (c208 (σ := s3) hL hpp) fun f s4 hr => back trivial ?_
      simp only [hr, pb_mk]
      refine g1 ?_
      refine fin_q atss wkk
    · refine g1 ?_
      refine s_call rfl rfl rfl ca44 ?_
      refine call_q (c44 (σ := s2) hL 111 (by omega) [91] hpp) fun u2 s3 hr => back trivial ?_
      simp only [hr, pb_mk] at H
      refine g1 ?_
      rcases Bool.eq_false_or_eq_true (is 111 [93] s3) with hx | hx <;> simp only [hx, sbb] at H
      · simp only [Option.some.injEq] at H
        subst H
        refine s_call rfl rfl rfl ca39 ?_
        refine (c39_t (σ := s3) hL [93] hx hpp).mono ?_
        rintro _ _ ⟨rfl, rfl⟩
        refine back trivial ?_
        refine g1 ?_
        refine fin_q atss wkk
      · refine s_call rfl rfl rfl ca39 ?_
        refine (c39_f (σ := s3) hL [93] hx hpp).mono ?_
        rintro _ _ ⟨rfl, rfl⟩
        refine back trivial ?_
        refine g1 ?_
        refine s_call rfl rfl rfl ca237 ?_
        refine call_p (pbO_ne H) (fun r1 hr => (rconds_ok hL n hn).2.2 _ s3 _ d _ hpp hr) fun c s4 hr => back trivial ?_
        rw [hr] at H; simp only [pbO_some, pb_mk, sbb] at H
        obtain ⟨o2, nm, ag, vl, lb, fd, kd2⟩ := c
        refine g1 ?_
        refine s_call rfl rfl rfl ca44 ?_
        refine call_q (c44 (σ := s4) hL 111 (by omega) [93] hpp) fun u3 s5 hr => back trivial ?_
        simp only [hr, pb_mk] at H
        simp only [Option.some.injEq] at H
        subst H
        refine g1 ?_
        refine fin_q atss wkk
    · refine g1 ?_
      refine s_call rfl rfl rfl ca47 ?_
      refine (c47 (σ := s2) hL hpp).mono ?_
      rintro _ _ ⟨rfl, rfl⟩
      refine back trivial ?_
      refine g1 ?_
      refine s_call rfl rfl rfl ca44 ?_
      refine call_q (c44 (σ := s2) hL 111 (by omega) [91] hpp) fun u2 s3 hr => back trivial ?_
      simp only [hr, pb_mk] at H
      refine g1 ?_
      rcases Bool.eq_false_or_eq_true (is 111 [93] s3) with hx | hx <;> simp only [hx, sbb] at H
      · simp only [Option.some.injEq] at H
        subst H
        refine s_call rfl rfl rfl ca39 ?_
        refine (c39_t (σ := s3) hL [93] hx hpp).mono ?_
        rintro _ _ ⟨rfl, rfl⟩
        refine back trivial ?_
        refine g1 ?_
        refine fin_q atss wkk
      · refine s_call rfl rfl rfl ca39 ?_
        refine (c39_f (σ := s3) hL [93] hx hpp).mono ?_
        rintro _ _ ⟨rfl, rfl⟩
        refine back trivial ?_
        refine g1 ?_
        refine s_call rfl rfl rfl ca237 ?_
        refine call_p (pbO_ne H) (fun r1 hr => (rconds_ok hL n hn).2.2 _ s3 _ d _ hpp hr) fun c s4 hr => back trivial ?_
        rw [hr] at H; simp only [pbO_some, pb_mk, sbb] at H
        obtain ⟨o2, nm, ag, vl, lb, fd, kd2⟩ := c
        refine g1 ?_
        refine s_call rfl rfl rfl ca44 ?_
        refine call_q (c44 (σ := s4) hL 111 (by omega) [93] hpp) fun u3 s5 hr => back trivial ?_
        simp only [hr, pb_mk] at H
        simp only [Option.some.injEq] at H
        subst H
        refine g1 ?_
        refine fin_q atss wkk
  · simp only [pb_mk] at H
    refine g1 ?_
    have he : kind 115 σ = false := by simp [kind, hk1]
    unfold rToken at H
    simp only [he, sbb] at H
    refine s_call rfl rfl rfl ca44 ?_
    refine call_q (c44 (σ := σ) hL 111 (by omega) [91] hpp) fun u2 s3 hr => back trivial ?_
    simp only [hr, pb_mk] at H
    refine g1 ?_
    rcases Bool.eq_false_or_eq_true (is 111 [93] s3) with hx | hx <;> simp only [hx, sbb] at H
    · simp only [Option.some.injEq] at H
      subst H
      refine s_call rfl rfl rfl ca39 ?_
      refine (c39_t (σ := s3) hL [93] hx hpp).mono ?_
      rintro _ _ ⟨rfl, rfl⟩
      refine back trivial ?_
      refine g1 ?_
      refine fin_q atss wkk
    · refine s_call rfl rfl rfl ca39 ?_
      refine (c39_f (σ := s3) hL [93] hx hpp).mono ?_
      rintro _ _ ⟨rfl, rfl⟩
      refine back trivial ?_
      refine g1 ?_
      refine s_call rfl rfl rfl ca237 ?_
      refine call_p (pbO_ne H) (fun r1 hr => (rconds_ok hL n hn).2.2 _ s3 _ d _ hpp hr) fun c s4 hr => back trivial ?_
      rw [hr] at H; simp only [pbO_some, pb_mk, sbb] at H
      obtain ⟨o2, nm, ag, vl, lb, fd, kd2⟩ := c
      refine g1 ?_
      refine s_call rfl rfl rfl ca44 ?_
      refine call_q (c44 (σ := s4) hL 111 (by omega) [93] hpp) fun u3 s5 hr => back trivial ?_
      simp only [hr, pb_mk] at H
      simp only [Option.some.injEq] at H
      subst H
      refine g1 ?_
      refine fin_q atss wkk
  · simp only [pb_mk] at H
    have he1 := hk1
    refine g1 ?_
    refine s_call rfl rfl rfl ca47 ?_
    refine (c47 (σ := σ) hL hpp).mono ?_
    rintro _ _ ⟨rfl, rfl⟩
    refine back trivial ?_
    unfold rToken at H
    rcases kind_cases 115 115 rfl (σ) with ⟨hk, hk1, hk2⟩ | ⟨hk, hk1⟩ | ⟨hk, hk1, hk2⟩ <;> simp only [hk, sbb] at H
    · refine g1 ?_
      refine s_call rfl rfl rfl ca47 ?_
      refine (c47 (σ := σ) hL hpp).mono ?_
      rintro _ _ ⟨rfl, rfl⟩
      refine back trivial ?_
      refine g1 ?_
      simp only [Option.some.injEq] at H
      subst H
      refine s_call rfl rfl rfl ca44 ?_
      refine call_q (c44 (σ := σ) hL 115 (by omega) [] hpp) fun v s3 hr => back trivial ?_
      simp only [hr, pb_mk]
      refine g1 ?_
      refine s_call rfl rfl rfl ca208 ?_
      refine call_q (c208 (σ := s3) hL hpp) fun f s4 hr => back trivial ?_
      simp only [hr, pb_mk]
      refine g1 ?_
      refine fin_q atss wkk
    · exact absurd (he1.symm.trans hk1) (by simp)
    · refine g1 ?_
      refine s_call rfl rfl rfl ca47 ?_
      refine (c47 (σ := σ) hL hpp).mono ?_
      rintro _ _ ⟨rfl, rfl⟩
      refine back trivial ?_
      refine g1 ?_
      refine s_call rfl rfl rfl ca44 ?_
      refine call_q (c44 (σ := σ) hL 111 (by omega) [91] hpp) fun u2 s3 hr => back trivial ?_
      simp only [hr, pb_mk] at H
      refine g1 ?_
      rcases Bool.eq_false_or_eq_true (is 111 [93] s3) with hx | hx <;> simp only [hx, sbb] at H
      · simp only [Option.some.injEq] at H
        subst H
        refine s_call rfl rfl rfl ca39 ?_
        refine (c39_t (σ := s3) hL [93] hx hpp).mono ?_
        rintro _ _ ⟨rfl, rfl⟩
        refine back trivial ?_
        refine g1 ?_
        refine fin_q atss wkk
      · refine s_call rfl rfl rfl ca39 ?_
        refine (c39_f (σ := s3) hL [93] hx hpp).mono ?_
        rintro _ _ ⟨rfl, rfl⟩
        refine back trivial ?_
        refine g1 ?_
        refine s_call rfl rfl rfl ca237 ?_
        refine call_p (pbO_ne H) (fun r1 hr => (rconds_ok hL n hn).2.2 _ s3 _ d _ hpp hr) fun c s4 hr => back trivial ?_
        rw [hr] at H; simp only [pbO_some, pb_mk, sbb] at H
        obtain ⟨o2, nm, ag, vl, lb, fd, kd2⟩ := c
        refine g1 ?_
        refine s_call rfl rfl rfl ca44 ?_
        refine call_q (c44 (σ := s4) hL 111 (by omega) [93] hpp) fun u3 s5 hr => back trivial ?_
        simp only [hr, pb_mk] at H
        simp only [Option.some.injEq] at H
        subst H
        refine g1 ?_
        refine fin_q atss wkk
end
end Go.Proofs
