/- Conditions read by the reader: not, and, or. No conditions. -/
import Derived.Test.YtjnkbjloabnopaaGreatDoorZ16
namespace Go.Proofs
open Go.Abs Go.Q
attribute [local irreducible] awp aops Run BodyQ ACalls Back
section
variable {G : Nat → Option Obj} {h : AHeap} {s : Str} {st : S} {g : Nat}

abbrev zC : List AVal := [.int .i64 0, .str [], .str [], .str [], .str [], .bool false, .sl 0 [] .nl]

set_option maxHeartbeats 1000000 in
theorem c301 (op : Int) (l : List Cond) (hl : l.length ≤ 1000000) : ACalls Tryz.prog G 301 [.int .i64 op, .sl 7 (encCs l) .frz] h (Gives (encCa (manyC op l)) h) := by
  refine ACalls.fin (en301 (by simp) fun hw => ?_)
  refine g1 ?_
  refine s_alloc (tt rfl) fun b1 hb1 => ⟨trivial, ?_⟩
  try simp only [set_next, new_next] at hb1
  have hlen := encCs_length l
  refine g2 ?_ ?_ <;> (repeat intro hb hc)
  · obtain ⟨c, rfl⟩ : ∃ c, l = [c] := List.length_eq_one_iff.1 (by omega)
    obtain ⟨op', nm, ag, vl, lb, fd, kd⟩ := c
    refine s_ia rfl (tt rfl) (tt rfl) rfl rfl rfl (fun _ => rfl) (by omega) rfl ?_
    refine g1 ?_
    refine fin_sub (out' := .ret (encCa (.mk op' nm ag vl lb fd kd))) (.setl (.new (.refl hw) hb1 _) hb1 _) (.ret _ _ ?_) ⟨rfl, rfl⟩
    exact wkk
  · have : manyC op l = .mk op [] [] [] [] false l := by
      rcases l with _ | ⟨c, _ | ⟨d, r⟩⟩
      · rfl
      · exact absurd rfl hc
      · rfl
    rw [this]
    refine fin_sub (out' := .ret (encCa (.mk op [] [] [] [] false l))) (.setl (.new (.refl hw) hb1 _) hb1 _) (.ret _ _ ?_) ⟨rfl, rfl⟩
    exact wkk

def NotOK (G : Nat → Option Obj) (s : Str) (n : Nat) : Prop := ∀ (h : AHeap) (st : S) (g : Nat) (r : R Cond), h.get g = some (rdr s st) → V s st → notP s n st = some r → ACalls Tryz.prog G 313 [.ptr g 0] h (RP s g h encCa r)
def AndOK (G : Nat → Option Obj) (s : Str) (n : Nat) : Prop := ∀ (h : AHeap) (st : S) (g : Nat) (r : R Cond), h.get g = some (rdr s st) → V s st → andP s n st = some r → ACalls Tryz.prog G 300 [.ptr g 0] h (RP s g h encCa r)
def OrOK (G : Nat → Option Obj) (s : Str) (n : Nat) : Prop := ∀ (h : AHeap) (st : S) (g : Nat) (r : R Cond), h.get g = some (rdr s st) → V s st → orP s n st = some r → ACalls Tryz.prog G 276 [.ptr g 0] h (RP s g h encCa r)

set_option maxHeartbeats 1000000 in
theorem not_step (hs : s.length ≤ 1000) (n : Nat) (h1 : NotOK G s n) (h2 : OrOK G s n) : NotOK G s (n + 1) := by
  intro h st g r hg hst H
  refine ACalls.fin (en313 (by simp) fun hw => ?_)
  have hgl := hw g _ hg
  simp only [notP] at H
  refine g1 ?_
  refine s_alloc (tt rfl) fun b1 hb1 => ⟨trivial, ?_⟩
  try simp only [set_next, new_next] at hb1
  refine g1 ?_
  rcases Bool.eq_false_or_eq_true (isSign [33] st) with hx | hx <;> simp only [hx, sbb] at H
  · refine s_call rfl rfl rfl ca93 ?_
    refine (c93_t [33] (st := st) hpp vvv hs hx).mono ?_
    rintro _ _ ⟨rfl, rfl⟩
    refine back trivial ?_
    refine g1 ?_
    refine s_call rfl rfl rfl ca313 ?_
    refine call_o (bindO_ne H) (fun r1 hr => h1 _ (nxt s st) _ _ hpp vvv hr) (fun a s1 hr hl => back trivial ?_) (fun p x st1 hr => ?_)
    rotate_left
    · apply z_p
      rw [hr] at H; simp only [sbb1, Option.some.injEq] at H; subst H
      exact fin_bad atss
    rw [hr] at H; simp only [sbb] at H
    simp only [Option.some.injEq] at H
    subst H
    obtain ⟨op', nm, ag, vl, lb, fd, kd⟩ := a
    refine g1 ?_
    refine fin_ok atss vvv wkk
  · refine s_call rfl rfl rfl ca93 ?_
    refine (c93_f [33] (st := st) hpp vvv hs hx).mono ?_
    rintro _ _ ⟨rfl, rfl⟩
    refine back trivial ?_
    refine g1 ?_
    rcases Bool.eq_false_or_eq_true (isSign [40] st) with hx | hx <;> simp only [hx, sbb] at H
    · refine s_call rfl rfl rfl ca93 ?_
      refine (c93_t [40] (st := st) hpp vvv hs hx).mono ?_
      rintro _ _ ⟨rfl, rfl⟩
      refine back trivial ?_
      refine g1 ?_
      refine s_call rfl rfl rfl ca276 ?_
      refine call_o (bindO_ne H) (fun r1 hr => h2 _ (nxt s st) _ _ hpp vvv hr) (fun a s1 hr hl => back trivial ?_) (fun p x st1 hr => ?_)
      rotate_left
      · apply z_p
        rw [hr] at H; simp only [sbb1, Option.some.injEq] at H; subst H
        exact fin_bad atss
      rw [hr] at H; simp only [sbb] at H
      simp only [Option.some.injEq] at H
      subst H
      obtain ⟨op', nm, ag, vl, lb, fd, kd⟩ := a
      refine g1 ?_
      refine s_alloc (tt rfl) fun b2 hb2 => ⟨trivial, ?_⟩
      try simp only [set_next, new_next] at hb2
      refine g1 ?_
      refine s_call rfl rfl rfl ca234 ?_
      refine call_r ((c234 [41] (st := s1) hpp vvv hs).args (must_args g [41])) (fun u s2 hr hl => back trivial ?_) (fun p x st1 hr => ?_)
      rotate_left
      · apply z_p
        simp only [hr, sbb]
        exact fin_bad atss
      simp only [hr, sbb]
      refine g1 ?_
      refine fin_ok atss vvv wkk
    · refine s_call rfl rfl rfl ca93 ?_
      refine (c93_f [40] (st := st) hpp vvv hs hx).mono ?_
      rintro _ _ ⟨rfl, rfl⟩
      refine back trivial ?_
      refine g1 ?_
      simp only [Option.some.injEq] at H
      subst H
      refine s_call rfl rfl rfl ca320 ?_
      refine call_r (c320 (st := st) hpp vvv hs) (fun a s1 hr hl => back trivial ?_) (fun p x st1 hr => ?_)
      rotate_left
      · apply z_p
        simp only [hr, sbb]
        exact fin_bad atss
      simp only [hr, sbb]
      obtain ⟨op', nm, ag, vl, lb, fd, kd⟩ := a
      refine g1 ?_
      refine fin_ok atss vvv wkk

theorem append_room {h0 h : AHeap} {E n m : Nat} {tg : Tag} (hr : Room h0 h E n tg) (hm : n = m) : Room h0 h E m tg := by rw [← hm]; exact hr

set_option maxHeartbeats 2000000 in
theorem and_step (hs : s.length ≤ 1000) (n : Nat) (hn : n ≤ 100000) (h1 : ∀ m, m ≤ n → NotOK G s m) : AndOK G s (n + 1) := by
  intro h st g r hg hst H
  refine ACalls.fin (en300 (by simp) fun hw => ?_)
  have hgl := hw g _ hg
  simp only [andP] at H
  refine g1 ?_
  refine s_alloc (tt rfl) fun b1 hb1 => ⟨trivial, ?_⟩
  try simp only [set_next, new_next] at hb1
  refine g1 ?_
  refine s_call rfl rfl rfl ca313 ?_
  refine call_o (bindO_ne H) (fun r1 hr => h1 n (Nat.le_refl n) _ st _ _ hpp vvv hr) (fun a s1 hr hl => back trivial ?_) (fun p x st1 hr => ?_)
  rotate_left
  · apply z_p
    rw [hr] at H; simp only [sbb1, Option.some.injEq] at H; subst H
    exact fin_bad atss
  rw [hr] at H; simp only [sbb] at H
  obtain ⟨op', nm, ag, vl, lb, fd, kd⟩ := a
  refine g1 ?_
  refine w_loop (fun e h' k => ∃ (acc : List Cond) (st' : S) (tg : Tag), V s st' ∧ andL s k acc st' = some r ∧ acc.length + k ≤ n + 1 ∧ k ≤ n ∧ At h g (rdr s st') h' ∧ Room (h.new b1 (.box 29 zC)) h' 29 (acc.length * 7) tg ∧ h'.get b1 = some (.box 29 zC) ∧ b1 + 1 ≤ h'.next ∧
      e = [(0, true, .ptr g 0), (2, true, .ptr b1 0), (3, true, .sl 7 (encCs acc) tg)])
    _ _ (.cons rfl (.cons rfl (.cons rfl (.nil _)))) ⟨[.mk op' nm ag vl lb fd kd], s1, .full, by exact vvv, H, by simp; omega, Nat.le_refl _, by exact atss, trivial, by exact hpp, by simp [set_next, new_next], rfl⟩ ?_
  rintro _ h' k ⟨acc, st', tg, hv, H, hak, hkn, hat, hroom, hbx, hnx, rfl⟩
  cases k with
  | zero => cases H
  | succ k =>
    simp only [andL] at H
    have hgx := hat.get
    refine g1 ?_
    rcases Bool.eq_false_or_eq_true (isSign [38] st') with hx | hx <;> simp only [hx, sbb] at H
    · refine s_call rfl rfl rfl ca93 ?_
      refine (c93_t [38] (st := st') hpp vvv hs hx).mono ?_
      rintro _ _ ⟨rfl, rfl⟩
      refine back trivial ?_
      refine g1 ?_
      refine s_call rfl rfl rfl ca313 ?_
      refine call_o (bindO_ne H) (fun r1 hr => h1 k (by omega) _ (nxt s st') _ _ hpp vvv hr) (fun a s2 hr hl => back trivial ?_) (fun p x st1 hr => ?_)
      rotate_left
      · apply z_p
        rw [hr] at H; simp only [sbb1, Option.some.injEq] at H; subst H
        exact fin_bad atss
      rw [hr] at H; simp only [sbb] at H
      obtain ⟨op', nm, ag, vl, lb, fd, kd⟩ := a
      refine g1 ?_
      have hgb : g < (h.new b1 (.box 29 zC)).next := by simp only [new_next]; omega
      refine s_append (h.new b1 (.box 29 zC)) rfl rfl (tt rfl) (tt rfl) rfl (.inl rfl) hnx (append_room (Room.set (Room.set hroom hgb) hgb) (by rw [encCs_length])) (by simp only [encCs_length, List.length_cons, List.length_nil]; omega) fun tg' h2 hr2 hx2 => ⟨trivial, ?_⟩
      refine g1 ?_
      refine l_n _ _ ?_ ?_ ⟨acc ++ [.mk op' nm ag vl lb fd kd], s2, tg', by exact vvv, H, by simp; omega, by omega, ?_, ?_, ?_, Nat.le_trans hnx hx2.next, rfl⟩
      · omega
      · refine .cons rfl (.cons rfl (.cons ?_ (.nil _)))
        rw [encCs_append]
        rfl
      · refine At.ext ?_ (Ext.le (h1 := h) (by simp only [new_next]; omega) hx2)
        exact atss
      · exact append_room hr2 (by simp [encCs_length])
      · rw [hx2.get b1 (by simp only [new_next]; omega)]
        exact hpp
    · refine s_call rfl rfl rfl ca93 ?_
      refine (c93_f [38] (st := st') hpp vvv hs hx).mono ?_
      rintro _ _ ⟨rfl, rfl⟩
      refine back trivial ?_
      refine g1 ?_
      simp only [Option.some.injEq] at H
      subst H
      refine s_call rfl rfl rfl ca301 ?_
      refine ((c301 7 acc (by omega)).args (.cons (.refl _) (.cons weak_frz .nil))).mono ?_
      rintro _ _ ⟨rfl, rfl⟩
      refine back trivial ?_
      obtain ⟨c, hc⟩ : ∃ c, c = manyC 7 acc := ⟨_, rfl⟩
      rw [← hc]
      obtain ⟨op', nm, ag, vl, lb, fd, kd⟩ := c
      refine g1 ?_
      refine fin_ok atss vvv wkk
set_option maxHeartbeats 2000000 in
theorem or_step (hs : s.length ≤ 1000) (n : Nat) (hn : n ≤ 100000) (h1 : ∀ m, m ≤ n → AndOK G s m) : OrOK G s (n + 1) := by
  intro h st g r hg hst H
  refine ACalls.fin (en276 (by simp) fun hw => ?_)
  have hgl := hw g _ hg
  simp only [orP] at H
  refine g1 ?_
  refine s_alloc (tt rfl) fun b1 hb1 => ⟨trivial, ?_⟩
  try simp only [set_next, new_next] at hb1
  refine g1 ?_
  refine s_call rfl rfl rfl ca300 ?_
  refine call_o (bindO_ne H) (fun r1 hr => h1 n (Nat.le_refl n) _ st _ _ hpp vvv hr) (fun a s1 hr hl => back trivial ?_) (fun p x st1 hr => ?_)
  rotate_left
  · apply z_p
    rw [hr] at H; simp only [sbb1, Option.some.injEq] at H; subst H
    exact fin_bad atss
  rw [hr] at H; simp only [sbb] at H
  obtain ⟨op', nm, ag, vl, lb, fd, kd⟩ := a
  refine g1 ?_
  refine w_loop (fun e h' k => ∃ (acc : List Cond) (st' : S) (tg : Tag), V s st' ∧ orL s k acc st' = some r ∧ acc.length + k ≤ n + 1 ∧ k ≤ n ∧ At h g (rdr s st') h' ∧ Room (h.new b1 (.box 29 zC)) h' 29 (acc.length * 7) tg ∧ h'.get b1 = some (.box 29 zC) ∧ b1 + 1 ≤ h'.next ∧
      e = [(0, true, .ptr g 0), (2, true, .ptr b1 0), (3, true, .sl 7 (encCs acc) tg)])
    _ _ (.cons rfl (.cons rfl (.cons rfl (.nil _)))) ⟨[.mk op' nm ag vl lb fd kd], s1, .full, by exact vvv, H, by simp; omega, Nat.le_refl _, by exact atss, trivial, by exact hpp, by simp [set_next, new_next], rfl⟩ ?_
  rintro _ h' k ⟨acc, st', tg, hv, H, hak, hkn, hat, hroom, hbx, hnx, rfl⟩
  cases k with
  | zero => cases H
  | succ k =>
    simp only [orL] at H
    have hgx := hat.get
    refine g1 ?_
    rcases Bool.eq_false_or_eq_true (isSign [124] st') with hx | hx <;> simp only [hx, sbb] at H
    · refine s_call rfl rfl rfl ca93 ?_
      refine (c93_t [124] (st := st') hpp vvv hs hx).mono ?_
      rintro _ _ ⟨rfl, rfl⟩
      refine back trivial ?_
      refine g1 ?_
      refine s_call rfl rfl rfl ca300 ?_
      refine call_o (bindO_ne H) (fun r1 hr => h1 k (by omega) _ (nxt s st') _ _ hpp vvv hr) (fun a s2 hr hl => back trivial ?_) (fun p x st1 hr => ?_)
      rotate_left
      · apply z_p
        rw [hr] at H; simp only [sbb1, Option.some.injEq] at H; subst H
        exact fin_bad atss
      rw [hr] at H; simp only [sbb] at H
      obtain ⟨op', nm, ag, vl, lb, fd, kd⟩ := a
      refine g1 ?_
      have hgb : g < (h.new b1 (.box 29 zC)).next := by simp only [new_next]; omega
      refine s_append (h.new b1 (.box 29 zC)) rfl rfl (tt rfl) (tt rfl) rfl (.inl rfl) hnx (append_room (Room.set (Room.set hroom hgb) hgb) (by rw [encCs_length])) (by simp only [encCs_length, List.length_cons, List.length_nil]; omega) fun tg' h2 hr2 hx2 => ⟨trivial, ?_⟩
      refine g1 ?_
      refine l_n _ _ ?_ ?_ ⟨acc ++ [.mk op' nm ag vl lb fd kd], s2, tg', by exact vvv, H, by simp; omega, by omega, ?_, ?_, ?_, Nat.le_trans hnx hx2.next, rfl⟩
      · omega
      · refine .cons rfl (.cons rfl (.cons ?_ (.nil _)))
        rw [encCs_append]
        rfl
      · refine At.ext ?_ (Ext.le (h1 := h) (by simp only [new_next]; omega) hx2)
        exact atss
      · exact append_room hr2 (by simp [encCs_length])
      · rw [hx2.get b1 (by simp only [new_next]; omega)]
        exact hpp
    · refine s_call rfl rfl rfl ca93 ?_
      refine (c93_f [124] (st := st') hpp vvv hs hx).mono ?_
      rintro _ _ ⟨rfl, rfl⟩
      refine back trivial ?_
      refine g1 ?_
      simp only [Option.some.injEq] at H
      subst H
      refine s_call rfl rfl rfl ca301 ?_
      refine ((c301 8 acc (by omega)).args (.cons (.refl _) (.cons weak_frz .nil))).mono ?_
      rintro _ _ ⟨rfl, rfl⟩
      refine back trivial ?_
      obtain ⟨c, hc⟩ : ∃ c, c = manyC 8 acc := ⟨_, rfl⟩
      rw [← hc]
      obtain ⟨op', nm, ag, vl, lb, fd, kd⟩ := c
      refine g1 ?_
      refine fin_ok atss vvv wkk

theorem conds_ok (hs : s.length ≤ 1000) : ∀ n, n ≤ 100000 → NotOK G s n ∧ AndOK G s n ∧ OrOK G s n := by
  intro n
  induction n using Nat.strongRecOn with
  | _ n ih =>
    intro hn
    cases n with
    | zero => exact ⟨fun h st g r _ _ H => by simp [notP] at H, fun h st g r _ _ H => by simp [andP] at H, fun h st g r _ _ H => by simp [orP] at H⟩
    | succ n =>
      have k := fun m (hm : m ≤ n) => ih m (by omega) (by omega)
      exact ⟨not_step hs n (k n (Nat.le_refl n)).1 (k n (Nat.le_refl n)).2.2, and_step hs n (by omega) fun m hm => (k m hm).1, or_step hs n (by omega) fun m hm => (k m hm).2.1⟩
theorem c276 (hs : s.length ≤ 1000) {n : Nat} (hn : n ≤ 100000) {r : R Cond} (hg : h.get g = some (rdr s st)) (hst : V s st) (H : orP s n st = some r) : ACalls Tryz.prog G 276 [.ptr g 0] h (RP s g h encCa r) := (conds_ok hs n hn).2.2 h st g r hg hst H
end
end Go.Proofs

/- The codes of some functions, tied to the loaded program. No conditions. -/
namespace Go.Proofs
open Go.Abs Go.Abs.I
def r161_0 : L := [o 4 (.alloc 35)]
def r161_1 : L := [o 5 (m (t 1)),
  o 6 (ln (t 5) 33),
  o 7 (.binOp .eql 3 (t 6) (k 1) 3)]
def r161_2 : L := [o 8 (m (t 1)),
  o 9 (.indexAddr 33 (t 8) (k 0)),
  o 10 (l 35 (t 9)),
  q (.store 35 (t 4) (t 10))]
def r161_3 : L := [o 11 (m (t 0)),
  o 12 (m (t 1)),
  o 13 (.build 35 #[(0, (t 11)), (10, (t 12))]),
  q (.store 35 (t 4) (t 13))]
def ir161 : ACode := .seq (.ops r161_0) (.seq (.seq (.ops r161_1) (.cond (t 7) (.seq (.ops r161_2) (.ret)) (.skip))) (.seq (.ops r161_3) (.ret)))
theorem en161 : En ir161 14 [.cell 4 35] 161 := acalls_enter_b mixed Tryz.func161 Tryz.ntmps161 (by kernel_rfl) (by kernel_rfl)
theorem ca161 : Ca 161 := cal Tryz.func161
def r177_0 : L := [o 2 (a (k 0))]
def r177_1 : L := [o 3 (m (t 0))]
def r177_2 : L := [o 5 (.binOp .eql 9 (t 3) (s #[98, 111, 117, 110, 100]) 9),
  o 4 (a (t 5))]
def r177_3 : L := [o 2 (a (k 1))]
def r177_4 : L := [o 7 (.binOp .eql 9 (t 3) (s #[100, 105, 115, 116, 97, 110, 99, 101]) 9),
  o 6 (a (t 7))]
def r177_5 : L := [o 2 (a (k 4))]
def r177_6 : L := [o 9 (.binOp .eql 9 (t 3) (s #[115, 97, 109, 101]) 9),
  o 8 (a (t 9))]
def r177_7 : L := [o 2 (a (k 5))]
def r177_8 : L := [o 11 (.binOp .eql 9 (t 3) (s #[104, 101, 97, 100]) 9),
  o 10 (a (t 11))]
def r177_9 : L := [o 2 (a (k 6))]
def r177_10 : L := [o 13 (.binOp .eql 9 (t 3) (s #[97, 110, 99, 101, 115, 116, 111, 114]) 9),
  o 12 (a (t 13))]
def r177_11 : L := [o 2 (a (k 7))]
def r177_12 : L := [o 15 (.binOp .eql 9 (t 3) (s #[112, 97, 116, 104]) 9),
  o 14 (a (t 15))]
def r177_13 : L := [o 2 (a (k 8))]
def r177_14 : L := [o 17 (.binOp .eql 9 (t 3) (s #[110, 111, 100, 101]) 9),
  o 16 (a (t 17))]
def r177_15 : L := [o 2 (a (k 9))]
def r177_16 : L := [o 19 (.binOp .eql 9 (t 3) (s #[100, 101, 112, 116, 104]) 9),
  o 18 (a (t 19))]
def r177_17 : L := [o 2 (a (k 10))]
def r177_18 : L := [o 2 (a (k 0))]
def ir177 : ACode := .seq (.ops r177_0) (.seq (.seq (.ops r177_1) (.block 0 (.seq (.ops r177_2) (.cond (t 4) (.seq (.ops r177_3) (.ret)) (.seq (.ops r177_4) (.cond (t 6) (.seq (.ops r177_5) (.ret)) (.seq (.ops r177_6) (.cond (t 8) (.seq (.ops r177_7) (.ret)) (.seq (.ops r177_8) (.cond (t 10) (.seq (.ops r177_9) (.ret)) (.seq (.ops r177_10) (.cond (t 12) (.seq (.ops r177_11) (.ret)) (.seq (.ops r177_12) (.cond (t 14) (.seq (.ops r177_13) (.ret)) (.seq (.ops r177_14) (.cond (t 16) (.seq (.ops r177_15) (.ret)) (.seq (.ops r177_16) (.cond (t 18) (.seq (.ops r177_17) (.ret)) (.skip))))))))))))))))))) (.seq (.ops r177_18) (.ret)))
theorem en177 : En ir177 20 [.tmp 2] 177 := acalls_enter_b mixed Tryz.func177 Tryz.ntmps177 (by kernel_rfl) (by kernel_rfl)
theorem ca177 : Ca 177 := cal Tryz.func177
def r254_0 : L := [o 3 (.box 35 (t 1)),
  o 4 (.alloc 35)]
def r254_1 : L := [o 5 (fa 35 (t 3) 0),
  o 6 (l 3 (t 5))]
def r254_2 : L := [o 8 (.binOp .eql 3 (t 6) (k 1) 3),
  o 7 (a (t 8))]
def r254_3 : L := [o 9 (l 35 (t 3)),
  q (.store 35 (t 4) (t 9))]
def r254_4 : L := [o 11 (.binOp .eql 3 (t 6) (k 10) 3),
  o 10 (a (t 11))]
def r254_5 : L := [o 12 (m (t 0)),
  o 13 (.buildSlice 23 1 #[(0, (s #[44]))]),
  o 14 (.call ⟨.value (f 234), #[(t 12), (t 13)], #[73, 23]⟩)]
def r254_6 : L := [o 15 (m (t 0)),
  o 16 (.call ⟨.value (f 281), #[(t 15)], #[73]⟩),
  o 17 (fa 35 (t 3) 7),
  q (.store 3 (t 17) (t 16))]
def r254_7 : L := [o 18 (m (t 0)),
  o 19 (.buildSlice 23 1 #[(0, (s #[44]))]),
  o 20 (.call ⟨.value (f 234), #[(t 18), (t 19)], #[73, 23]⟩)]
def r254_8 : L := [o 21 (m (t 0)),
  o 22 (.call ⟨.value (f 281), #[(t 21)], #[73]⟩),
  o 23 (fa 35 (t 3) 8),
  q (.store 3 (t 23) (t 22))]
def r254_9 : L := [o 24 (l 35 (t 3)),
  q (.store 35 (t 4) (t 24))]
def r254_10 : L := [o 25 (m (t 0)),
  o 26 (.call ⟨.value (f 282), #[(t 25)], #[73]⟩),
  o 27 (fa 35 (t 3) 2),
  q (.store 9 (t 27) (t 26))]
def r254_11 : L := [o 28 (fa 35 (t 3) 0),
  o 29 (l 3 (t 28))]
def r254_12 : L := [o 31 (.binOp .eql 3 (t 29) (k 4) 3),
  o 30 (a (t 31))]
def r254_13 : L := [o 32 (m (t 0)),
  o 33 (.buildSlice 23 1 #[(0, (s #[44]))]),
  o 34 (.call ⟨.value (f 234), #[(t 32), (t 33)], #[73, 23]⟩)]
def r254_14 : L := [o 35 (m (t 0)),
  o 36 (.call ⟨.value (f 283), #[(t 35)], #[73]⟩),
  o 37 (fa 35 (t 3) 7),
  q (.store 3 (t 37) (t 36))]
def r254_15 : L := [o 38 (m (t 0)),
  o 39 (.buildSlice 23 1 #[(0, (s #[44]))]),
  o 40 (.call ⟨.value (f 234), #[(t 38), (t 39)], #[73, 23]⟩)]
def r254_16 : L := [o 41 (m (t 0)),
  o 42 (.call ⟨.value (f 283), #[(t 41)], #[73]⟩),
  o 43 (fa 35 (t 3) 8),
  q (.store 3 (t 43) (t 42))]
def r254_17 : L := [o 45 (.binOp .eql 3 (t 29) (k 5) 3),
  o 44 (a (t 45))]
def r254_18 : L := [o 46 (.binOp .eql 3 (t 29) (k 9) 3),
  o 44 (a (t 46))]
def r254_19 : L := [o 47 (m (t 0)),
  o 48 (.call ⟨.value (f 282), #[(t 47)], #[73]⟩),
  o 49 (fa 35 (t 3) 3),
  q (.store 9 (t 49) (t 48))]
def r254_20 : L := [o 51 (.binOp .eql 3 (t 29) (k 8) 3),
  o 50 (a (t 51))]
def r254_21 : L := [o 52 (m (t 0)),
  o 53 (.call ⟨.value (f 93), #[(t 52), (s #[44])], #[73, 9]⟩)]
def r254_22 : L := [o 54 (fa 35 (t 3) 9),
  o 55 (l 23 (t 54)),
  o 56 (m (t 0)),
  oc 57 (.call ⟨.value (f 162), #[(t 56), (k 4)], #[73, 3]⟩) [c 55 (l 23 (t 54))],
  o 58 (.buildSlice 23 1 #[(0, (t 57))]),
  o 59 (.call ⟨.builtin .append, #[(t 55), (t 58)], #[23, 23]⟩),
  o 60 (fa 35 (t 3) 9),
  q (.store 23 (t 60) (t 59))]
def r254_23 : L := [o 61 (l 35 (t 3)),
  q (.store 35 (t 4) (t 61))]
def ir254 : ACode := .seq (.ops r254_0) (.seq (.seq (.ops r254_1) (.block 0 (.seq (.ops r254_2) (.cond (t 7) (.seq (.ops r254_3) (.ret)) (.seq (.ops r254_4) (.cond (t 10) (.seq (.ops r254_5) (.seq (.ops r254_6) (.seq (.ops r254_7) (.seq (.ops r254_8) (.seq (.ops r254_9) (.ret)))))) (.skip))))))) (.seq (.ops r254_10) (.seq (.seq (.ops r254_11) (.block 1 (.seq (.ops r254_12) (.cond (t 30) (.seq (.ops r254_13) (.seq (.ops r254_14) (.seq (.ops r254_15) (.ops r254_16)))) (.seq (.seq (.ops r254_17) (.cond (t 44) (.skip) (.ops r254_18))) (.cond (t 44) (.ops r254_19) (.seq (.ops r254_20) (.cond (t 50) (.block 2 (.loop (.seq (.seq (.ops r254_21) (.cond (t 53) (.skip) (.exit 2))) (.block 3 (.ops r254_22))))) (.skip))))))))) (.seq (.ops r254_23) (.ret)))))
theorem en254 : En ir254 62 [.cell 4 35] 254 := acalls_enter_b mixed Tryz.func254 Tryz.ntmps254 (by kernel_rfl) (by kernel_rfl)
theorem ca254 : Ca 254 := cal Tryz.func254
def r236_0 : L := [o 2 (.alloc 35)]
def r236_1 : L := [o 7 (m (t 0)),
  o 8 (.call ⟨.value (f 99), #[(t 7)], #[73]⟩),
  o 3 (a (t 8))]
def r236_2 : L := [o 9 (m (t 3)),
  o 10 (.call ⟨.value (f 177), #[(t 9)], #[9]⟩),
  o 4 (a (t 10))]
def r236_3 : L := [o 11 (m (t 4)),
  o 12 (.binOp .gtr 3 (t 11) (k 0) 3),
  o 13 (m (t 12)),
  y 14 (m (t 0)) 13 true,
  y 15 (.call ⟨.value (f 93), #[(t 14), (s #[40])], #[73, 9]⟩) 13 true,
  o 16 (.pick (t 13) (t 15) (b false))]
def r236_4 : L := [o 17 (m (t 0)),
  o 18 (m (t 4)),
  o 19 (m (t 0)),
  o 20 (.call ⟨.value (f 99), #[(t 19)], #[73]⟩),
  o 21 (.build 35 #[(0, (t 18)), (1, (t 20))]),
  o 22 (.call ⟨.value (f 254), #[(t 17), (t 21)], #[73, 35]⟩),
  o 5 (.alloc 35),
  q (.store 35 (t 5) (t 22))]
def r236_5 : L := [o 23 (m (t 0)),
  o 24 (.buildSlice 23 1 #[(0, (s #[41]))]),
  o 25 (.call ⟨.value (f 234), #[(t 23), (t 24)], #[73, 23]⟩)]
def r236_6 : L := [o 26 (l 35 (t 5)),
  q (.store 35 (t 2) (t 26))]
def r236_7 : L := [o 27 (m (t 0)),
  o 28 (.buildSlice 23 1 #[(0, (s #[46]))]),
  o 29 (.call ⟨.value (f 234), #[(t 27), (t 28)], #[73, 23]⟩)]
def r236_8 : L := [o 30 (m (t 3)),
  o 31 (m (t 0)),
  o 32 (.call ⟨.value (f 99), #[(t 31)], #[73]⟩),
  o 33 (.build 35 #[(0, (k 2)), (1, (t 30)), (3, (t 32))]),
  o 6 (.alloc 35),
  q (.store 35 (t 6) (t 33))]
def r236_9 : L := [o 34 (m (t 0)),
  o 35 (.buildSlice 23 1 #[(0, (s #[61]))]),
  o 36 (.call ⟨.value (f 234), #[(t 34), (t 35)], #[73, 23]⟩)]
def r236_10 : L := [o 37 (m (t 0)),
  o 38 (.nilCheck (t 37)),
  o 39 (fa 77 (t 38) 2),
  o 40 (fa 75 (t 39) 0),
  o 41 (l 3 (t 40)),
  o 42 (.binOp .eql 3 (t 41) (k 2) 3)]
def r236_11 : L := [o 43 (m (t 0)),
  o 44 (.call ⟨.value (f 99), #[(t 43)], #[73]⟩),
  o 45 (fa 35 (t 6) 0),
  q (.store 3 (t 45) (k 3)),
  o 46 (fa 35 (t 6) 2),
  q (.store 9 (t 46) (t 44))]
def r236_12 : L := [o 47 (m (t 0)),
  o 48 (.buildSlice 23 1 #[(0, (s #[46]))]),
  o 49 (.call ⟨.value (f 234), #[(t 47), (t 48)], #[73, 23]⟩)]
def r236_13 : L := [o 50 (m (t 0)),
  o 51 (.call ⟨.value (f 99), #[(t 50)], #[73]⟩),
  o 52 (fa 35 (t 6) 4),
  q (.store 9 (t 52) (t 51))]
def r236_14 : L := [o 53 (l 35 (t 6)),
  q (.store 35 (t 2) (t 53))]
def r236_15 : L := [o 54 (m (t 0)),
  o 55 (.call ⟨.value (f 162), #[(t 54), (k 4)], #[73, 3]⟩),
  o 56 (fa 35 (t 6) 5),
  q (.store 9 (t 56) (t 55))]
def r236_16 : L := [o 57 (m (t 0)),
  o 58 (.call ⟨.value (f 255), #[(t 57)], #[73]⟩),
  o 59 (fa 35 (t 6) 6),
  q (.store 4 (t 59) (t 58))]
def r236_17 : L := [o 60 (l 35 (t 6)),
  q (.store 35 (t 2) (t 60))]
def ir236 : ACode := .seq (.ops r236_0) (.seq (.ops r236_1) (.seq (.seq (.ops r236_2) (.seq (.ops r236_3) (.cond (t 16) (.seq (.ops r236_4) (.seq (.ops r236_5) (.seq (.ops r236_6) (.ret)))) (.skip)))) (.seq (.ops r236_7) (.seq (.ops r236_8) (.seq (.ops r236_9) (.seq (.seq (.ops r236_10) (.cond (t 42) (.seq (.ops r236_11) (.seq (.ops r236_12) (.seq (.ops r236_13) (.seq (.ops r236_14) (.ret))))) (.skip))) (.seq (.ops r236_15) (.seq (.ops r236_16) (.seq (.ops r236_17) (.ret))))))))))
theorem en236 : En ir236 61 [.cell 2 35] 236 := acalls_enter_b mixed Tryz.func236 Tryz.ntmps236 (by kernel_rfl) (by kernel_rfl)
theorem ca236 : Ca 236 := cal Tryz.func236
def r202_0 : L := [o 2 (.alloc 35)]
def r202_1 : L := [o 5 (m (t 0)),
  o 6 (.call ⟨.value (f 93), #[(t 5), (s #[33])], #[73, 9]⟩),
  o 4 (a (t 6))]
def r202_2 : L := [o 7 (m (t 0)),
  o 8 (.call ⟨.value (f 202), #[(t 7)], #[73]⟩),
  o 9 (.buildSlice 33 1 #[(0, (t 8))]),
  o 10 (.build 35 #[(0, (k 11)), (10, (t 9))]),
  q (.store 35 (t 2) (t 10))]
def r202_3 : L := [o 12 (m (t 0)),
  o 13 (.call ⟨.value (f 93), #[(t 12), (s #[40])], #[73, 9]⟩),
  o 11 (a (t 13))]
def r202_4 : L := [o 14 (m (t 0)),
  o 15 (.call ⟨.value (f 94), #[(t 14)], #[73]⟩),
  o 3 (.alloc 35),
  q (.store 35 (t 3) (t 15))]
def r202_5 : L := [o 16 (m (t 0)),
  o 17 (.buildSlice 23 1 #[(0, (s #[41]))]),
  o 18 (.call ⟨.value (f 234), #[(t 16), (t 17)], #[73, 23]⟩)]
def r202_6 : L := [o 19 (l 35 (t 3)),
  q (.store 35 (t 2) (t 19))]
def r202_7 : L := [o 20 (m (t 0)),
  o 21 (.call ⟨.value (f 236), #[(t 20)], #[73]⟩),
  q (.store 35 (t 2) (t 21))]
def ir202 : ACode := .seq (.ops r202_0) (.seq (.block 0 (.seq (.ops r202_1) (.cond (t 4) (.seq (.ops r202_2) (.ret)) (.seq (.ops r202_3) (.cond (t 11) (.seq (.ops r202_4) (.seq (.ops r202_5) (.seq (.ops r202_6) (.ret)))) (.skip)))))) (.seq (.ops r202_7) (.ret)))
theorem en202 : En ir202 22 [.cell 2 35] 202 := acalls_enter_b mixed Tryz.func202 Tryz.ntmps202 (by kernel_rfl) (by kernel_rfl)
theorem ca202 : Ca 202 := cal Tryz.func202
def r160_0 : L := [o 2 (.alloc 35)]
def r160_1 : L := [o 4 (m (t 0)),
  o 5 (.call ⟨.value (f 202), #[(t 4)], #[73]⟩),
  o 6 (.buildSlice 33 1 #[(0, (t 5))]),
  o 3 (a (t 6))]
def r160_2 : L := [o 7 (m (t 0)),
  o 8 (.call ⟨.value (f 93), #[(t 7), (s #[38])], #[73, 9]⟩)]
def r160_3 : L := [o 9 (m (t 3)),
  o 10 (m (t 0)),
  o 11 (.call ⟨.value (f 202), #[(t 10)], #[73]⟩),
  o 12 (.buildSlice 33 1 #[(0, (t 11))]),
  o 13 (.call ⟨.builtin .append, #[(t 9), (t 12)], #[33, 33]⟩),
  o 3 (a (t 13))]
def r160_4 : L := [o 14 (m (t 3)),
  o 15 (.call ⟨.value (f 161), #[(k 12), (t 14)], #[3, 33]⟩),
  q (.store 35 (t 2) (t 15))]
def ir160 : ACode := .seq (.ops r160_0) (.seq (.ops r160_1) (.seq (.block 0 (.loop (.seq (.seq (.ops r160_2) (.cond (t 8) (.skip) (.exit 0))) (.block 1 (.ops r160_3))))) (.seq (.ops r160_4) (.ret))))
theorem en160 : En ir160 16 [.cell 2 35] 160 := acalls_enter_b mixed Tryz.func160 Tryz.ntmps160 (by kernel_rfl) (by kernel_rfl)
theorem ca160 : Ca 160 := cal Tryz.func160
def r94_0 : L := [o 2 (.alloc 35)]
def r94_1 : L := [o 4 (m (t 0)),
  o 5 (.call ⟨.value (f 160), #[(t 4)], #[73]⟩),
  o 6 (.buildSlice 33 1 #[(0, (t 5))]),
  o 3 (a (t 6))]
def r94_2 : L := [o 7 (m (t 0)),
  o 8 (.call ⟨.value (f 93), #[(t 7), (s #[124])], #[73, 9]⟩)]
def r94_3 : L := [o 9 (m (t 3)),
  o 10 (m (t 0)),
  o 11 (.call ⟨.value (f 160), #[(t 10)], #[73]⟩),
  o 12 (.buildSlice 33 1 #[(0, (t 11))]),
  o 13 (.call ⟨.builtin .append, #[(t 9), (t 12)], #[33, 33]⟩),
  o 3 (a (t 13))]
def r94_4 : L := [o 14 (m (t 3)),
  o 15 (.call ⟨.value (f 161), #[(k 13), (t 14)], #[3, 33]⟩),
  q (.store 35 (t 2) (t 15))]
def ir94 : ACode := .seq (.ops r94_0) (.seq (.ops r94_1) (.seq (.block 0 (.loop (.seq (.seq (.ops r94_2) (.cond (t 8) (.skip) (.exit 0))) (.block 1 (.ops r94_3))))) (.seq (.ops r94_4) (.ret))))
theorem en94 : En ir94 16 [.cell 2 35] 94 := acalls_enter_b mixed Tryz.func94 Tryz.ntmps94 (by kernel_rfl) (by kernel_rfl)
theorem ca94 : Ca 94 := cal Tryz.func94
end Go.Proofs

/- Constraints read by the reader. No conditions. -/
namespace Go.Proofs
open Go.Abs Go.Q
attribute [local irreducible] awp aops Run BodyQ ACalls Back
section
variable {G : Nat → Option Obj} {h : AHeap} {s : Str} {st : S} {g : Nat}

abbrev encGa (c : Con) : AVal := .agg (encG c)
abbrev zG : List AVal := [.int .i64 0, .str [], .str [], .str [], .str [], .str [], .bool false, .int .i64 0, .int .i64 0, .sl 0 [] .nl, .sl 0 [] .nl]

set_option maxHeartbeats 1000000 in
theorem c161 (op : Int) (l : List Con) (hl : l.length ≤ 1000000) : ACalls Tryz.prog G 161 [.int .i64 op, .sl 11 (encGs l) .frz] h (Gives (encGa (manyG op l)) h) := by
  refine ACalls.fin (en161 (by simp) fun hw => ?_)
  refine g1 ?_
  refine s_alloc (tt rfl) fun b1 hb1 => ⟨trivial, ?_⟩
  try simp only [set_next, new_next] at hb1
  have hlen := encGs_length l
  refine g2 ?_ ?_ <;> (repeat intro hb hc)
  · obtain ⟨c, rfl⟩ : ∃ c, l = [c] := List.length_eq_one_iff.1 (by omega)
    obtain ⟨op', a1, a2, a3, a4, a5, fd, lo, hi, ag, kd⟩ := c
    refine s_ia rfl (tt rfl) (tt rfl) rfl rfl rfl (fun _ => rfl) (by omega) rfl ?_
    refine g1 ?_
    refine fin_sub (out' := .ret (encGa (.mk op' a1 a2 a3 a4 a5 fd lo hi ag kd))) (.setl (.new (.refl hw) hb1 _) hb1 _) (.ret _ _ ?_) ⟨rfl, rfl⟩
    exact wkk
  · have : manyG op l = .mk op [] [] [] [] [] false 0 0 [] l := by
      rcases l with _ | ⟨c, _ | ⟨d, r⟩⟩
      · rfl
      · exact absurd rfl hc
      · rfl
    rw [this]
    refine fin_sub (out' := .ret (encGa (.mk op [] [] [] [] [] false 0 0 [] l))) (.setl (.new (.refl hw) hb1 _) hb1 _) (.ret _ _ ?_) ⟨rfl, rfl⟩
    exact wkk

set_option maxHeartbeats 1000000 in
theorem c177 (x : Str) : ACalls Tryz.prog G 177 [.str x] h (Gives (.int .i64 (funcOp x)) h) := by
  refine en177 (by simp) fun hw => ?_
  refine g9 ?_ ?_ ?_ ?_ ?_ ?_ ?_ ?_ ?_ <;> (repeat intro hb hc)
  all_goals refine ⟨?_, rfl⟩
  all_goals simp_all [funcOp]

/-- A heap of nothing, with its end. -/
abbrev nx (n : Nat) : AHeap := ⟨fun _ => none, n⟩

set_option maxHeartbeats 4000000 in
set_option maxRecDepth 10000 in
theorem c254 (hs : s.length ≤ 1000) (n : Nat) (hn : n ≤ 100000) (op : Int) (a : Str) {r : R Con} (hg : h.get g = some (rdr s st)) (hst : V s st) (H : argsP s n op a st = some r) :
    ACalls Tryz.prog G 254 [.ptr g 0, .agg [.int .i64 op, .str a, .str [], .str [], .str [], .str [], .bool false, .int .i64 0, .int .i64 0, .sl 0 [] .nl, .sl 0 [] .nl]] h (RP s g h encGa r) := by
  refine ACalls.fin (en254 (by simp) fun hw => ?_)
  have hgl := hw g _ hg
  unfold argsP at H
  refine g1 ?_
  refine s_box rfl rfl fun b1 hb1 => ⟨trivial, ?_⟩
  try simp only [set_next, new_next] at hb1
  refine g1 ?_
  refine s_alloc (tt rfl) fun b2 hb2 => ⟨trivial, ?_⟩
  try simp only [set_next, new_next] at hb2
  refine g3 ?_ ?_ ?_ <;> (repeat intro hb hc)
  · rw [if_pos hc] at H
    injection H with H
    subst H
    refine fin_ok atss vvv wkk
  · rw [if_neg (by omega), if_pos hc] at H
    injection H with H
    subst H
    refine s_call rfl rfl rfl ca234 ?_
    refine call_r ((c234 [44] (st := st) hpp vvv hs).args (must_args g [44])) (fun u s1 hr hl => back trivial ?_) (fun p x st1 hr => ?_)
    rotate_left
    · apply z_p
      simp only [hr, sbb]
      exact fin_bad atss
    simp only [hr, sbb]
    refine g1 ?_
    refine s_call rfl rfl rfl ca281 ?_
    refine call_r (c281 (st := s1) hpp vvv hs) (fun lo s2 hr hl => back trivial ?_) (fun p x st1 hr => ?_)
    rotate_left
    · apply z_p
      simp only [hr, sbb]
      exact fin_bad atss
    simp only [hr, sbb]
    refine g1 ?_
    refine s_call rfl rfl rfl ca234 ?_
    refine call_r ((c234 [44] (st := s2) hpp vvv hs).args (must_args g [44])) (fun u s3 hr hl => back trivial ?_) (fun p x st1 hr => ?_)
    rotate_left
    · apply z_p
      simp only [hr, sbb]
      exact fin_bad atss
    simp only [hr, sbb]
    refine g1 ?_
    refine s_call rfl rfl rfl ca281 ?_
    refine call_r (c281 (st := s3) hpp vvv hs) (fun hi s4 hr hl => back trivial ?_) (fun p x st1 hr => ?_)
    rotate_left
    · apply z_p
      simp only [hr, sbb]
      exact fin_bad atss
    simp only [hr, sbb]
    refine g1 ?_
    refine fin_ok atss vvv wkk
  · rw [if_neg (by omega), if_neg hc] at H
    refine s_call rfl rfl rfl ca282 ?_
    refine call_o (bindO_ne H) (fun r1 hr => (Option.some.inj hr) ▸ c282 (st := st) hpp vvv hs) (fun b s1 hr hl => back trivial ?_) (fun p x st1 hr => ?_)
    rotate_left
    · apply z_p
      rw [hr] at H; simp only [sbb1, Option.some.injEq] at H; subst H
      exact fin_bad atss
    rw [hr] at H; simp only [sbb] at H
    refine g5 ?_ ?_ ?_ ?_ ?_ <;> (repeat intro hb hc)
    · rw [if_pos hc] at H
      injection H with H
      subst H
      refine s_call rfl rfl rfl ca234 ?_
      refine call_r ((c234 [44] (st := s1) hpp vvv hs).args (must_args g [44])) (fun u s2 hr hl => back trivial ?_) (fun p x st1 hr => ?_)
      rotate_left
      · apply z_p
        simp only [hr, sbb]
        exact fin_bad atss
      simp only [hr, sbb]
      refine g1 ?_
      refine s_call rfl rfl rfl ca283 ?_
      refine call_r (c283 (st := s2) hpp vvv hs) (fun lo s3 hr hl => back trivial ?_) (fun p x st1 hr => ?_)
      rotate_left
      · apply z_p
        simp only [hr, sbb]
        exact fin_bad atss
      simp only [hr, sbb]
      refine g1 ?_
      refine s_call rfl rfl rfl ca234 ?_
      refine call_r ((c234 [44] (st := s3) hpp vvv hs).args (must_args g [44])) (fun u s4 hr hl => back trivial ?_) (fun p x st1 hr => ?_)
      rotate_left
      · apply z_p
        simp only [hr, sbb]
        exact fin_bad atss
      simp only [hr, sbb]
      refine g1 ?_
      refine s_call rfl rfl rfl ca283 ?_
      refine call_r (c283 (st := s4) hpp vvv hs) (fun hi s5 hr hl => back trivial ?_) (fun p x st1 hr => ?_)
      rotate_left
      · apply z_p
        simp only [hr, sbb]
        exact fin_bad atss
      simp only [hr, sbb]
      refine g1 ?_
      refine fin_ok atss vvv wkk
    · rw [if_neg (by omega), if_pos (.inl hc)] at H
      injection H with H
      subst H
      refine s_call rfl rfl rfl ca282 ?_
      refine call_r (c282 (st := s1) hpp vvv hs) (fun nm s2 hr hl => back trivial ?_) (fun p x st1 hr => ?_)
      rotate_left
      · apply z_p
        simp only [hr, sbb]
        exact fin_bad atss
      simp only [hr, sbb]
      refine g1 ?_
      refine fin_ok atss vvv wkk
    · rw [if_neg (by omega), if_pos (.inr hc)] at H
      injection H with H
      subst H
      refine s_call rfl rfl rfl ca282 ?_
      refine call_r (c282 (st := s1) hpp vvv hs) (fun nm s2 hr hl => back trivial ?_) (fun p x st1 hr => ?_)
      rotate_left
      · apply z_p
        simp only [hr, sbb]
        exact fin_bad atss
      simp only [hr, sbb]
      refine g1 ?_
      refine fin_ok atss vvv wkk
    · rw [if_neg (by omega), if_neg (by omega), if_pos hc] at H
      refine w_loop (fun e h' k => ∃ (acc : List Str) (st' : S) (tg : Tag) (sz : Nat), V s st' ∧ bindO (argsL s k acc st') (fun l st => some (R.ok (Con.mk op a b [] [] [] false 0 0 l []) st)) = some r ∧ (sz = 1 ∨ (acc = [] ∧ tg = .nl)) ∧ acc.length + k ≤ n ∧ At h g (rdr s st') h' ∧ Room (nx (b2 + 1)) h' 9 acc.length tg ∧
          h'.get b1 = some (.box 35 [.int .i64 op, .str a, .str b, .str [], .str [], .str [], .bool false, .int .i64 0, .int .i64 0, .sl sz (encSs acc) tg, .sl 0 [] .nl]) ∧ h'.get b2 = some (.box 35 zG) ∧ b2 + 1 ≤ h'.next ∧
          e = [(0, true, .ptr g 0), (3, true, .ptr b1 0), (4, true, .ptr b2 0)])
        _ _ (.cons rfl (.cons rfl (.cons rfl (.nil _)))) ⟨[], s1, .nl, 0, by exact vvv, H, .inr ⟨rfl, rfl⟩, by simp, by exact atss, trivial, by exact hpp, by exact hpp, by simp [set_next, new_next], rfl⟩ ?_
      rintro _ h' k ⟨acc, st', tg, sz, hv, H, hsz, hak, hat, hroom, hbx, hbz, hnx, rfl⟩
      cases k with
      | zero => simp only [argsL, bindO] at H; cases H
      | succ k =>
        simp only [argsL] at H
        have hgx := hat.get
        have hlen : (encSs acc).length = acc.length := List.length_map ..
        refine g1 ?_
        rcases Bool.eq_false_or_eq_true (isSign [44] st') with hx | hx <;> simp only [hx, sbb] at H
        · refine s_call rfl rfl rfl ca93 ?_
          refine (c93_t [44] (st := st') hpp vvv hs hx).mono ?_
          rintro _ _ ⟨rfl, rfl⟩
          refine back trivial ?_
          refine g1 ?_
          refine s_call rfl rfl rfl ca162 ?_
          refine call_r (c162 4 (by omega) (st := nxt s st') hpp vvv hs) (fun x s2 hr hl => back ⟨rk_load (tt rfl) rfl rfl hpp rfl rfl rfl, trivial⟩ ?_) (fun p x st1 hr => ?_)
          rotate_left
          · apply z_p
            rw [hr] at H
            simp only [sbb1, Option.some.injEq] at H
            subst H
            exact fin_bad atss
          rw [hr] at H
          simp only [sbb] at H
          refine g1 ?_
          refine s_append (nx (b2 + 1)) rfl rfl (tt rfl) (tt rfl) rfl (hsz.imp id (·.2)) hnx (append_room (Room.set (Room.set hroom (show g < b2 + 1 by omega)) (show g < b2 + 1 by omega)) (by omega)) (by simp only [hlen, List.length_cons, List.length_nil]; omega) fun tg' h2 hr2 hx2 => ⟨trivial, ?_⟩
          have k1 : h2.get b1 = some (.box 35 [.int .i64 op, .str a, .str b, .str [], .str [], .str [], .bool false, .int .i64 0, .int .i64 0, .sl sz (encSs acc) tg, .sl 0 [] .nl]) := by
            rw [hx2.get b1 (show b1 < b2 + 1 by omega)]; exact hpp
          have k2 : h2.get b2 = some (.box 35 zG) := by
            rw [hx2.get b2 (show b2 < b2 + 1 by omega)]; exact hpp
          have k3 : At h g (rdr s s2) h2 := by
            refine At.ext ?_ (Ext.le (h1 := h) (show h.next ≤ b2 + 1 by omega) hx2)
            exact atss
          have k4 := Nat.le_trans hnx hx2.next
          refine g1 ?_
          refine l_n _ _ ?_ ?_ ⟨acc ++ [x], s2, tg', 1, by exact vvv, H, .inl rfl, by simp; omega, .setl (by omega) k3, ?_, ?_, ?_, k4, rfl⟩
          · omega
          · exact envv
          · exact append_room (Room.set hr2 (show b1 < b2 + 1 by omega)) (by simp [hlen])
          · rw [hs_self]
            simp [setCells, encSs, AVal.cells]
          · exact hpp
        · refine s_call rfl rfl rfl ca93 ?_
          refine (c93_f [44] (st := st') hpp vvv hs hx).mono ?_
          rintro _ _ ⟨rfl, rfl⟩
          refine back trivial ?_
          refine g1 ?_
          simp only [Option.some.injEq] at H
          subst H
          rcases hsz with rfl | ⟨rfl, rfl⟩
          · refine fin_ok atss vvv wkk
          · refine fin_ok atss vvv wkk
    · rw [if_neg (by omega), if_neg (by omega), if_neg hc] at H
      injection H with H
      subst H
      refine fin_ok atss vvv wkk
end
end Go.Proofs

/- Constraints read by the reader: complete. No conditions. -/
namespace Go.Proofs
open Go.Abs Go.Q
attribute [local irreducible] awp aops Run BodyQ ACalls Back
section
variable {G : Nat → Option Obj} {h : AHeap} {s : Str} {st : S} {g : Nat}

set_option maxHeartbeats 4000000 in
set_option maxRecDepth 10000 in
theorem c236 (hs : s.length ≤ 1000) (n : Nat) (hn : n ≤ 100000) {r : R Con} (hg : h.get g = some (rdr s st)) (hst : V s st) (H : gatomP s n st = some r) : ACalls Tryz.prog G 236 [.ptr g 0] h (RP s g h encGa r) := by
  refine ACalls.fin (en236 (by simp) fun hw => ?_)
  have hgl := hw g _ hg
  unfold gatomP at H
  refine g1 ?_
  refine s_alloc (tt rfl) fun b1 hb1 => ⟨trivial, ?_⟩
  try simp only [set_next, new_next] at hb1
  refine g1 ?_
  refine s_call rfl rfl rfl ca99 ?_
  refine call_o (bindO_ne H) (fun r1 hr => (Option.some.inj hr) ▸ c99 (st := st) hpp vvv hs) (fun name s1 hr hl => back trivial ?_) (fun p x st1 hr => ?_)
  rotate_left
  · apply z_p
    rw [hr] at H; simp only [sbb1, Option.some.injEq] at H; subst H
    exact fin_bad atss
  rw [hr] at H; simp only [sbb] at H
  refine g1 ?_
  refine s_call rfl rfl rfl ca177 ?_
  refine (c177 name).mono ?_
  rintro _ _ ⟨rfl, rfl⟩
  refine back trivial ?_
  refine g2 ?_ ?_ <;> (repeat intro hb hc)
  · rcases Bool.eq_false_or_eq_true (isSign [40] s1) with hx | hx
    · rw [if_pos ⟨by omega, hx⟩] at H
      refine s_call rfl rfl rfl ca93 ?_
      refine (c93_t [40] (st := s1) hpp vvv hs hx).mono ?_
      rintro _ _ ⟨rfl, rfl⟩
      refine back trivial ?_
      refine g1 ?_
      refine s_call rfl rfl rfl ca99 ?_
      refine call_o (bindO_ne H) (fun r1 hr => (Option.some.inj hr) ▸ c99 (st := nxt s s1) hpp vvv hs) (fun a s2 hr hl => back trivial ?_) (fun p x st1 hr => ?_)
      rotate_left
      · apply z_p
        rw [hr] at H; simp only [sbb1, Option.some.injEq] at H; subst H
        exact fin_bad atss
      rw [hr] at H; simp only [sbb] at H
      refine g1 ?_
      refine s_call rfl rfl rfl ca254 ?_
      refine call_o (bindO_ne H) (fun r1 hr => (c254 hs n hn (funcOp name) a (st := s2) hpp vvv hr)) (fun c s3 hr hl => back trivial ?_) (fun p x st1 hr => ?_)
      rotate_left
      · apply z_p
        rw [hr] at H; simp only [sbb1, Option.some.injEq] at H; subst H
        exact fin_bad atss
      rw [hr] at H; simp only [sbb] at H
      simp only [Option.some.injEq] at H
      subst H
      obtain ⟨op', a1, a2, a3, a4, a5, fd, lo, hi, ag, kd⟩ := c
      refine g1 ?_
      refine s_alloc (tt rfl) fun b2 hb2 => ⟨trivial, ?_⟩
      try simp only [set_next, new_next] at hb2
      refine g1 ?_
      refine s_call rfl rfl rfl ca234 ?_
      refine call_r ((c234 [41] (st := s3) hpp vvv hs).args (must_args g [41])) (fun u s4 hr hl => back trivial ?_) (fun p x st1 hr => ?_)
      rotate_left
      · apply z_p
        simp only [hr, sbb]
        exact fin_bad atss
      simp only [hr, sbb]
      refine g1 ?_
      refine fin_ok atss vvv wkk
    · rw [if_neg (by rw [hx]; simp)] at H
      refine s_call rfl rfl rfl ca93 ?_
      refine (c93_f [40] (st := s1) hpp vvv hs hx).mono ?_
      rintro _ _ ⟨rfl, rfl⟩
      refine back trivial ?_
      refine g1 ?_
      simp only [Option.some.injEq] at H
      subst H
      refine s_call rfl rfl rfl ca234 ?_
      refine call_r ((c234 [46] (st := s1) hpp vvv hs).args (must_args g [46])) (fun u s2 hr hl => back trivial ?_) (fun p x st1 hr => ?_)
      rotate_left
      · apply z_p
        simp only [hr, sbb]
        exact fin_bad atss
      simp only [hr, sbb]
      refine g1 ?_
      refine s_call rfl rfl rfl ca99 ?_
      refine call_r (c99 (st := s2) hpp vvv hs) (fun at1 s3 hr hl => back trivial ?_) (fun p x st1 hr => ?_)
      rotate_left
      · apply z_p
        simp only [hr, sbb]
        exact fin_bad atss
      simp only [hr, sbb]
      refine g1 ?_
      refine s_alloc (tt rfl) fun b2 hb2 => ⟨trivial, ?_⟩
      try simp only [set_next, new_next] at hb2
      refine g1 ?_
      refine s_call rfl rfl rfl ca234 ?_
      refine call_r ((c234 [61] (st := s3) hpp vvv hs).args (must_args g [61])) (fun u s4 hr hl => back trivial ?_) (fun p x st1 hr => ?_)
      rotate_left
      · apply z_p
        simp only [hr, sbb]
        exact fin_bad atss
      simp only [hr, sbb]
      refine g2 ?_ ?_ <;> (repeat intro hb hc)
      · have hk : s4.1.kind = 2 := by omega
        simp only [hk, sbb]
        refine s_call rfl rfl rfl ca99 ?_
        refine call_r (c99 (st := s4) hpp vvv hs) (fun b s5 hr hl => back trivial ?_) (fun p x st1 hr => ?_)
        rotate_left
        · apply z_p
          simp only [hr, sbb]
          exact fin_bad atss
        simp only [hr, sbb]
        refine g1 ?_
        refine s_call rfl rfl rfl ca234 ?_
        refine call_r ((c234 [46] (st := s5) hpp vvv hs).args (must_args g [46])) (fun u s6 hr hl => back trivial ?_) (fun p x st1 hr => ?_)
        rotate_left
        · apply z_p
          simp only [hr, sbb]
          exact fin_bad atss
        simp only [hr, sbb]
        refine g1 ?_
        refine s_call rfl rfl rfl ca99 ?_
        refine call_r (c99 (st := s6) hpp vvv hs) (fun arg s7 hr hl => back trivial ?_) (fun p x st1 hr => ?_)
        rotate_left
        · apply z_p
          simp only [hr, sbb]
          exact fin_bad atss
        simp only [hr, sbb]
        refine g1 ?_
        refine fin_ok atss vvv wkk
      · have hk : ¬ s4.1.kind = 2 := by omega
        simp only [hk, sbb]
        refine s_call rfl rfl rfl ca162 ?_
        refine call_r (c162 4 (by omega) (st := s4) hpp vvv hs) (fun v s5 hr hl => back trivial ?_) (fun p x st1 hr => ?_)
        rotate_left
        · apply z_p
          simp only [hr, sbb]
          exact fin_bad atss
        simp only [hr, sbb]
        refine g1 ?_
        refine s_call rfl rfl rfl ca255 ?_
        refine call_r (c255 (st := s5) hpp vvv hs) (fun f s6 hr hl => back trivial ?_) (fun p x st1 hr => ?_)
        rotate_left
        · apply z_p
          simp only [hr, sbb]
          exact fin_bad atss
        simp only [hr, sbb]
        refine g1 ?_
        refine fin_ok atss vvv wkk
  · rw [if_neg (by omega)] at H
    simp only [Option.some.injEq] at H
    subst H
    refine s_call rfl rfl rfl ca234 ?_
    refine call_r ((c234 [46] (st := s1) hpp vvv hs).args (must_args g [46])) (fun u s2 hr hl => back trivial ?_) (fun p x st1 hr => ?_)
    rotate_left
    · apply z_p
      simp only [hr, sbb]
      exact fin_bad atss
    simp only [hr, sbb]
    refine g1 ?_
    refine s_call rfl rfl rfl ca99 ?_
    refine call_r (c99 (st := s2) hpp vvv hs) (fun at1 s3 hr hl => back trivial ?_) (fun p x st1 hr => ?_)
    rotate_left
    · apply z_p
      simp only [hr, sbb]
      exact fin_bad atss
    simp only [hr, sbb]
    refine g1 ?_
    refine s_alloc (tt rfl) fun b2 hb2 => ⟨trivial, ?_⟩
    try simp only [set_next, new_next] at hb2
    refine g1 ?_
    refine s_call rfl rfl rfl ca234 ?_
    refine call_r ((c234 [61] (st := s3) hpp vvv hs).args (must_args g [61])) (fun u s4 hr hl => back trivial ?_) (fun p x st1 hr => ?_)
    rotate_left
    · apply z_p
      simp only [hr, sbb]
      exact fin_bad atss
    simp only [hr, sbb]
    refine g2 ?_ ?_ <;> (repeat intro hb hc)
    · have hk : s4.1.kind = 2 := by omega
      simp only [hk, sbb]
      refine s_call rfl rfl rfl ca99 ?_
      refine call_r (c99 (st := s4) hpp vvv hs) (fun b s5 hr hl => back trivial ?_) (fun p x st1 hr => ?_)
      rotate_left
      · apply z_p
        simp only [hr, sbb]
        exact fin_bad atss
      simp only [hr, sbb]
      refine g1 ?_
      refine s_call rfl rfl rfl ca234 ?_
      refine call_r ((c234 [46] (st := s5) hpp vvv hs).args (must_args g [46])) (fun u s6 hr hl => back trivial ?_) (fun p x st1 hr => ?_)
      rotate_left
      · apply z_p
        simp only [hr, sbb]
        exact fin_bad atss
      simp only [hr, sbb]
      refine g1 ?_
      refine s_call rfl rfl rfl ca99 ?_
      refine call_r (c99 (st := s6) hpp vvv hs) (fun arg s7 hr hl => back trivial ?_) (fun p x st1 hr => ?_)
      rotate_left
      · apply z_p
        simp only [hr, sbb]
        exact fin_bad atss
      simp only [hr, sbb]
      refine g1 ?_
      refine fin_ok atss vvv wkk
    · have hk : ¬ s4.1.kind = 2 := by omega
      simp only [hk, sbb]
      refine s_call rfl rfl rfl ca162 ?_
      refine call_r (c162 4 (by omega) (st := s4) hpp vvv hs) (fun v s5 hr hl => back trivial ?_) (fun p x st1 hr => ?_)
      rotate_left
      · apply z_p
        simp only [hr, sbb]
        exact fin_bad atss
      simp only [hr, sbb]
      refine g1 ?_
      refine s_call rfl rfl rfl ca255 ?_
      refine call_r (c255 (st := s5) hpp vvv hs) (fun f s6 hr hl => back trivial ?_) (fun p x st1 hr => ?_)
      rotate_left
      · apply z_p
        simp only [hr, sbb]
        exact fin_bad atss
      simp only [hr, sbb]
      refine g1 ?_
      refine fin_ok atss vvv wkk

def GnotOK (G : Nat → Option Obj) (s : Str) (n : Nat) : Prop := ∀ (h : AHeap) (st : S) (g : Nat) (r : R Con), h.get g = some (rdr s st) → V s st → gnotP s n st = some r → ACalls Tryz.prog G 202 [.ptr g 0] h (RP s g h encGa r)
def GandOK (G : Nat → Option Obj) (s : Str) (n : Nat) : Prop := ∀ (h : AHeap) (st : S) (g : Nat) (r : R Con), h.get g = some (rdr s st) → V s st → gandP s n st = some r → ACalls Tryz.prog G 160 [.ptr g 0] h (RP s g h encGa r)
def GorOK (G : Nat → Option Obj) (s : Str) (n : Nat) : Prop := ∀ (h : AHeap) (st : S) (g : Nat) (r : R Con), h.get g = some (rdr s st) → V s st → gorP s n st = some r → ACalls Tryz.prog G 94 [.ptr g 0] h (RP s g h encGa r)

set_option maxHeartbeats 1000000 in
theorem gnot_step (hs : s.length ≤ 1000) (n : Nat) (hn : n ≤ 100000) (h1 : GnotOK G s n) (h2 : GorOK G s n) : GnotOK G s (n + 1) := by
  intro h st g r hg hst H
  refine ACalls.fin (en202 (by simp) fun hw => ?_)
  have hgl := hw g _ hg
  simp only [gnotP] at H
  refine g1 ?_
  refine s_alloc (tt rfl) fun b1 hb1 => ⟨trivial, ?_⟩
  try simp only [set_next, new_next] at hb1
  refine g1 ?_
  rcases Bool.eq_false_or_eq_true (isSign [33] st) with hx | hx <;> simp only [hx, sbb] at H
  · refine s_call rfl rfl rfl ca93 ?_
    refine (c93_t [33] (st := st) hpp vvv hs hx).mono ?_
    rintro _ _ ⟨rfl, rfl⟩
    refine back trivial ?_
    refine g1 ?_
    refine s_call rfl rfl rfl ca202 ?_
    refine call_o (bindO_ne H) (fun r1 hr => h1 _ (nxt s st) _ _ hpp vvv hr) (fun a s1 hr hl => back trivial ?_) (fun p x st1 hr => ?_)
    rotate_left
    · apply z_p
      rw [hr] at H; simp only [sbb1, Option.some.injEq] at H; subst H
      exact fin_bad atss
    rw [hr] at H; simp only [sbb] at H
    simp only [Option.some.injEq] at H
    subst H
    obtain ⟨op', a1, a2, a3, a4, a5, fd, lo, hi, ag, kd⟩ := a
    refine g1 ?_
    refine fin_ok atss vvv wkk
  · refine s_call rfl rfl rfl ca93 ?_
    refine (c93_f [33] (st := st) hpp vvv hs hx).mono ?_
    rintro _ _ ⟨rfl, rfl⟩
    refine back trivial ?_
    refine g1 ?_
    rcases Bool.eq_false_or_eq_true (isSign [40] st) with hx | hx <;> simp only [hx, sbb] at H
    · refine s_call rfl rfl rfl ca93 ?_
      refine (c93_t [40] (st := st) hpp vvv hs hx).mono ?_
      rintro _ _ ⟨rfl, rfl⟩
      refine back trivial ?_
      refine g1 ?_
      refine s_call rfl rfl rfl ca94 ?_
      refine call_o (bindO_ne H) (fun r1 hr => h2 _ (nxt s st) _ _ hpp vvv hr) (fun a s1 hr hl => back trivial ?_) (fun p x st1 hr => ?_)
      rotate_left
      · apply z_p
        rw [hr] at H; simp only [sbb1, Option.some.injEq] at H; subst H
        exact fin_bad atss
      rw [hr] at H; simp only [sbb] at H
      simp only [Option.some.injEq] at H
      subst H
      obtain ⟨op', a1, a2, a3, a4, a5, fd, lo, hi, ag, kd⟩ := a
      refine g1 ?_
      refine s_alloc (tt rfl) fun b2 hb2 => ⟨trivial, ?_⟩
      try simp only [set_next, new_next] at hb2
      refine g1 ?_
      refine s_call rfl rfl rfl ca234 ?_
      refine call_r ((c234 [41] (st := s1) hpp vvv hs).args (must_args g [41])) (fun u s2 hr hl => back trivial ?_) (fun p x st1 hr => ?_)
      rotate_left
      · apply z_p
        simp only [hr, sbb]
        exact fin_bad atss
      simp only [hr, sbb]
      refine g1 ?_
      refine fin_ok atss vvv wkk
    · refine s_call rfl rfl rfl ca93 ?_
      refine (c93_f [40] (st := st) hpp vvv hs hx).mono ?_
      rintro _ _ ⟨rfl, rfl⟩
      refine back trivial ?_
      refine g1 ?_
      refine s_call rfl rfl rfl ca236 ?_
      refine call_r (c236 hs n hn (st := st) hpp vvv H) (fun a s1 hr hl => back trivial ?_) (fun p x st1 hr => ?_)
      rotate_left
      · apply z_p
        rw [hr]
        exact fin_bad atss
      rw [hr]
      obtain ⟨op', a1, a2, a3, a4, a5, fd, lo, hi, ag, kd⟩ := a
      refine g1 ?_
      refine fin_ok atss vvv wkk

set_option maxHeartbeats 2000000 in
theorem gand_step (hs : s.length ≤ 1000) (n : Nat) (hn : n ≤ 100000) (h1 : ∀ m, m ≤ n → GnotOK G s m) : GandOK G s (n + 1) := by
  intro h st g r hg hst H
  refine ACalls.fin (en160 (by simp) fun hw => ?_)
  have hgl := hw g _ hg
  simp only [gandP] at H
  refine g1 ?_
  refine s_alloc (tt rfl) fun b1 hb1 => ⟨trivial, ?_⟩
  try simp only [set_next, new_next] at hb1
  refine g1 ?_
  refine s_call rfl rfl rfl ca202 ?_
  refine call_o (bindO_ne H) (fun r1 hr => h1 n (Nat.le_refl n) _ st _ _ hpp vvv hr) (fun a s1 hr hl => back trivial ?_) (fun p x st1 hr => ?_)
  rotate_left
  · apply z_p
    rw [hr] at H; simp only [sbb1, Option.some.injEq] at H; subst H
    exact fin_bad atss
  rw [hr] at H; simp only [sbb] at H
  obtain ⟨op', a1, a2, a3, a4, a5, fd, lo, hi, ag, kd⟩ := a
  refine g1 ?_
  refine w_loop (fun e h' k => ∃ (acc : List Con) (st' : S) (tg : Tag), V s st' ∧ gandL s k acc st' = some r ∧ acc.length + k ≤ n + 1 ∧ k ≤ n ∧ At h g (rdr s st') h' ∧ Room (h.new b1 (.box 35 zG)) h' 35 (acc.length * 11) tg ∧ h'.get b1 = some (.box 35 zG) ∧ b1 + 1 ≤ h'.next ∧
      e = [(0, true, .ptr g 0), (2, true, .ptr b1 0), (3, true, .sl 11 (encGs acc) tg)])
    _ _ (.cons rfl (.cons rfl (.cons rfl (.nil _)))) ⟨[.mk op' a1 a2 a3 a4 a5 fd lo hi ag kd], s1, .full, by exact vvv, H, by simp; omega, Nat.le_refl _, by exact atss, trivial, by exact hpp, by simp [set_next, new_next], rfl⟩ ?_
  rintro _ h' k ⟨acc, st', tg, hv, H, hak, hkn, hat, hroom, hbx, hnx, rfl⟩
  cases k with
  | zero => cases H
  | succ k =>
    simp only [gandL] at H
    have hgx := hat.get
    refine g1 ?_
    rcases Bool.eq_false_or_eq_true (isSign [38] st') with hx | hx <;> simp only [hx, sbb] at H
    · refine s_call rfl rfl rfl ca93 ?_
      refine (c93_t [38] (st := st') hpp vvv hs hx).mono ?_
      rintro _ _ ⟨rfl, rfl⟩
      refine back trivial ?_
      refine g1 ?_
      refine s_call rfl rfl rfl ca202 ?_
      refine call_o (bindO_ne H) (fun r1 hr => h1 k (by omega) _ (nxt s st') _ _ hpp vvv hr) (fun a s2 hr hl => back trivial ?_) (fun p x st1 hr => ?_)
      rotate_left
      · apply z_p
        rw [hr] at H; simp only [sbb1, Option.some.injEq] at H; subst H
        exact fin_bad atss
      rw [hr] at H; simp only [sbb] at H
      obtain ⟨op', a1, a2, a3, a4, a5, fd, lo, hi, ag, kd⟩ := a
      refine g1 ?_
      have hgb : g < (h.new b1 (.box 35 zG)).next := by simp only [new_next]; omega
      refine s_append (h.new b1 (.box 35 zG)) rfl rfl (tt rfl) (tt rfl) rfl (.inl rfl) hnx (append_room (Room.set (Room.set hroom hgb) hgb) (by rw [encGs_length])) (by simp only [encGs_length, List.length_cons, List.length_nil]; omega) fun tg' h2 hr2 hx2 => ⟨trivial, ?_⟩
      refine g1 ?_
      refine l_n _ _ ?_ ?_ ⟨acc ++ [.mk op' a1 a2 a3 a4 a5 fd lo hi ag kd], s2, tg', by exact vvv, H, by simp; omega, by omega, ?_, ?_, ?_, Nat.le_trans hnx hx2.next, rfl⟩
      · omega
      · refine .cons rfl (.cons rfl (.cons ?_ (.nil _)))
        rw [encGs_append]
        rfl
      · refine At.ext ?_ (Ext.le (h1 := h) (by simp only [new_next]; omega) hx2)
        exact atss
      · exact append_room hr2 (by simp [encGs_length])
      · rw [hx2.get b1 (by simp only [new_next]; omega)]
        exact hpp
    · refine s_call rfl rfl rfl ca93 ?_
      refine (c93_f [38] (st := st') hpp vvv hs hx).mono ?_
      rintro _ _ ⟨rfl, rfl⟩
      refine back trivial ?_
      refine g1 ?_
      simp only [Option.some.injEq] at H
      subst H
      refine s_call rfl rfl rfl ca161 ?_
      refine ((c161 12 acc (by omega)).args (.cons (.refl _) (.cons weak_frz .nil))).mono ?_
      rintro _ _ ⟨rfl, rfl⟩
      refine back trivial ?_
      obtain ⟨c, hc⟩ : ∃ c, c = manyG 12 acc := ⟨_, rfl⟩
      rw [← hc]
      obtain ⟨op', a1, a2, a3, a4, a5, fd, lo, hi, ag, kd⟩ := c
      refine g1 ?_
      refine fin_ok atss vvv wkk
set_option maxHeartbeats 2000000 in
theorem gor_step (hs : s.length ≤ 1000) (n : Nat) (hn : n ≤ 100000) (h1 : ∀ m, m ≤ n → GandOK G s m) : GorOK G s (n + 1) := by
  intro h st g r hg hst H
  refine ACalls.fin (en94 (by simp) fun hw => ?_)
  have hgl := hw g _ hg
  simp only [gorP] at H
  refine g1 ?_
  refine s_alloc (tt rfl) fun b1 hb1 => ⟨trivial, ?_⟩
  try simp only [set_next, new_next] at hb1
  refine g1 ?_
  refine s_call rfl rfl rfl ca160 ?_
  refine call_o (bindO_ne H) (fun r1 hr => h1 n (Nat.le_refl n) _ st _ _ hpp vvv hr) (fun a s1 hr hl => back trivial ?_) (fun p x st1 hr => ?_)
  rotate_left
  · apply z_p
    rw [hr] at H; simp only [sbb1, Option.some.injEq] at H; subst H
    exact fin_bad atss
  rw [hr] at H; simp only [sbb] at H
  obtain ⟨op', a1, a2, a3, a4, a5, fd, lo, hi, ag, kd⟩ := a
  refine g1 ?_
  refine w_loop (fun e h' k => ∃ (acc : List Con) (st' : S) (tg : Tag), V s st' ∧ gorL s k acc st' = some r ∧ acc.length + k ≤ n + 1 ∧ k ≤ n ∧ At h g (rdr s st') h' ∧ Room (h.new b1 (.box 35 zG)) h' 35 (acc.length * 11) tg ∧ h'.get b1 = some (.box 35 zG) ∧ b1 + 1 ≤ h'.next ∧
      e = [(0, true, .ptr g 0), (2, true, .ptr b1 0), (3, true, .sl 11 (encGs acc) tg)])
    _ _ (.cons rfl (.cons rfl (.cons rfl (.nil _)))) ⟨[.mk op' a1 a2 a3 a4 a5 fd lo hi ag kd], s1, .full, by exact vvv, H, by simp; omega, Nat.le_refl _, by exact atss, trivial, by exact hpp, by simp [set_next, new_next], rfl⟩ ?_
  rintro _ h' k ⟨acc, st', tg, hv, H, hak, hkn, hat, hroom, hbx, hnx, rfl⟩
  cases k with
  | zero => cases H
  | succ k =>
    simp only [gorL] at H
    have hgx := hat.get
    refine g1 ?_
    rcases Bool.eq_false_or_eq_true (isSign [124] st') with hx | hx <;> simp only [hx, sbb] at H
    · refine s_call rfl rfl rfl ca93 ?_
      refine (c93_t [124] (st := st') hpp vvv hs hx).mono ?_
      rintro _ _ ⟨rfl, rfl⟩
      refine back trivial ?_
      refine g1 ?_
      refine s_call rfl rfl rfl ca160 ?_
      refine call_o (bindO_ne H) (fun r1 hr => h1 k (by omega) _ (nxt s st') _ _ hpp vvv hr) (fun a s2 hr hl => back trivial ?_) (fun p x st1 hr => ?_)
      rotate_left
      · apply z_p
        rw [hr] at H; simp only [sbb1, Option.some.injEq] at H; subst H
        exact fin_bad atss
      rw [hr] at H; simp only [sbb] at H
      obtain ⟨op', a1, a2, a3, a4, a5, fd, lo, hi, ag, kd⟩ := a
      refine g1 ?_
      have hgb : g < (h.new b1 (.box 35 zG)).next := by simp only [new_next]; omega
      refine s_append (h.new b1 (.box 35 zG)) rfl rfl (tt rfl) (tt rfl) rfl (.inl rfl) hnx (append_room (Room.set (Room.set hroom hgb) hgb) (by rw [encGs_length])) (by simp only [encGs_length, List.length_cons, List.length_nil]; omega) fun tg' h2 hr2 hx2 => ⟨trivial, ?_⟩
      refine g1 ?_
      refine l_n _ _ ?_ ?_ ⟨acc ++ [.mk op' a1 a2 a3 a4 a5 fd lo hi ag kd], s2, tg', by exact vvv, H, by simp; omega, by omega, ?_, ?_, ?_, Nat.le_trans hnx hx2.next, rfl⟩
      · omega
      · refine .cons rfl (.cons rfl (.cons ?_ (.nil _)))
        rw [encGs_append]
        rfl
      · refine At.ext ?_ (Ext.le (h1 := h) (by simp only [new_next]; omega) hx2)
        exact atss
      · exact append_room hr2 (by simp [encGs_length])
      · rw [hx2.get b1 (by simp only [new_next]; omega)]
        exact hpp
    · refine s_call rfl rfl rfl ca93 ?_
      refine (c93_f [124] (st := st') hpp vvv hs hx).mono ?_
      rintro _ _ ⟨rfl, rfl⟩
      refine back trivial ?_
      refine g1 ?_
      simp only [Option.some.injEq] at H
      subst H
      refine s_call rfl rfl rfl ca161 ?_
      refine ((c161 13 acc (by omega)).args (.cons (.refl _) (.cons weak_frz .nil))).mono ?_
      rintro _ _ ⟨rfl, rfl⟩
      refine back trivial ?_
      obtain ⟨c, hc⟩ : ∃ c, c = manyG 13 acc := ⟨_, rfl⟩
      rw [← hc]
      obtain ⟨op', a1, a2, a3, a4, a5, fd, lo, hi, ag, kd⟩ := c
      refine g1 ?_
      refine fin_ok atss vvv wkk
theorem globs_ok (hs : s.length ≤ 1000) : ∀ n, n ≤ 100000 → GnotOK G s n ∧ GandOK G s n ∧ GorOK G s n := by
  intro n
  induction n using Nat.strongRecOn with
  | _ n ih =>
    intro hn
    cases n with
    | zero => exact ⟨fun h st g r _ _ H => by simp [gnotP] at H, fun h st g r _ _ H => by simp [gandP] at H, fun h st g r _ _ H => by simp [gorP] at H⟩
    | succ n =>
      have k := fun m (hm : m ≤ n) => ih m (by omega) (by omega)
      exact ⟨gnot_step hs n (by omega) (k n (Nat.le_refl n)).1 (k n (Nat.le_refl n)).2.2, gand_step hs n (by omega) fun m hm => (k m hm).1, gor_step hs n (by omega) fun m hm => (k m hm).2.1⟩
theorem c94 (hs : s.length ≤ 1000) {n : Nat} (hn : n ≤ 100000) {r : R Con} (hg : h.get g = some (rdr s st)) (hst : V s st) (H : gorP s n st = some r) : ACalls Tryz.prog G 94 [.ptr g 0] h (RP s g h encGa r) := (globs_ok hs n hn).2.2 h st g r hg hst H
end
end Go.Proofs
