/- The statements' generator, walked: tokens' conditions, patterns. No conditions. -/
import Derived.Test.YtjnkbjloabnopaaGreatDoorZ20
namespace Go.Proofs
open Go.Abs Go.Q
attribute [local irreducible] awp aops Run BodyQ ACalls Back
section
variable {G : Nat → Option Obj} {h : AHeap}

theorem ty125 : tyi Tryz.prog 125 = some ⟨2, 16, .arr 2 3, some [.int .i64 0, .int .i64 0]⟩ := by kernel_rfl
theorem ty126 : tyi Tryz.prog 126 = some ⟨1, 24, .sl 125, some [.sl 0 [] .nl]⟩ := by kernel_rfl
def tab2 : Nat → Option TI
  | 125 => some ⟨2, 16, .arr 2 3, some [.int .i64 0, .int .i64 0]⟩
  | 126 => some ⟨1, 24, .sl 125, some [.sl 0 [] .nl]⟩
  | T => tab T
theorem tt2 {T : Nat} {i : TI} (h : tab2 T = some i) : tyi Tryz.prog T = some i := by
  unfold tab2 at h
  split at h
  · rw [← h]; exact ty125
  · rw [← h]; exact ty126
  · exact tt h
theorem rep_row {m : Nat} (hm : m < 7) : ∃ lo hi : Int, (lo, hi) ∈ reps7 ∧ (([[.int .i64 0, .int .i64 1], [.int .i64 0, .int .i64 (-1)], [.int .i64 1, .int .i64 (-1)], [.int .i64 2, .int .i64 2], [.int .i64 0, .int .i64 2], [.int .i64 1, .int .i64 3], [.int .i64 0, .int .i64 0]] : List (List AVal)))[(m : Int).toNat]? = some [.int .i64 lo, .int .i64 hi] := by
  rw [n0]
  rcases (show m = 0 ∨ m = 1 ∨ m = 2 ∨ m = 3 ∨ m = 4 ∨ m = 5 ∨ m = 6 by omega) with rfl | rfl | rfl | rfl | rfl | rfl | rfl
  · exact ⟨0, 1, by decide, rfl⟩
  · exact ⟨0, -1, by decide, rfl⟩
  · exact ⟨1, -1, by decide, rfl⟩
  · exact ⟨2, 2, by decide, rfl⟩
  · exact ⟨0, 2, by decide, rfl⟩
  · exact ⟨1, 3, by decide, rfl⟩
  · exact ⟨0, 0, by decide, rfl⟩

set_option maxHeartbeats 2000000 in
theorem c77 {lab : Str → Prop} {g sz : Nat} {l : List Int} {tg tl : Tag} {ls : List Str} (hlab : ∀ x, x ∈ ls → lab x) (hl : l.length ≤ 120) (hls : ls.length ≤ 1000) (hsz : sz = 1 ∨ ls = [])
    (h : AHeap) (k : Nat) (hk : k ≤ l.length) (hg : h.get g = some (tape l k tg)) :
      ACalls Tryz.prog G 77 [.ptr g 0, .int .i64 1, .sl sz (encSs ls) tl] h (Gen g l tg (fun v => ∃ c, GT lab c ∧ v = encCa c) h) := by
  refine ACalls.fin (en77 (by simp) fun hw => ?_)
  have hgl := hw _ _ hg
  refine g1 ?_
  refine s_alloc (tt rfl) fun b6 hb6 => ⟨trivial, ?_⟩
  try simp only [set_next, new_next] at hb6
  refine g1 ?_
  refine s_call rfl rfl rfl ca12 ?_
  refine (c12 8 ⟨by first | decide | omega, by first | decide | omega⟩ hl hk (k := k) (tg := tg) hpp).mono ?_
  rintro _ _ ⟨m, k1, hm, hk1, rfl, rfl⟩
  refine back trivial ?_
  rcases (show m = 0 ∨ m = 1 ∨ m = 2 ∨ m = 3 ∨ m = 4 ∨ m = 5 ∨ m = 6 ∨ m = 7 by omega) with rfl | rfl | rfl | rfl | rfl | rfl | rfl | rfl
  · refine g1 ?_
    exact fin_at atss (.ret _ _ wkk) ⟨_, k1, ⟨_, .any, rfl⟩, hk1, rfl, rfl⟩
  · refine g1 ?_
    refine s_call rfl rfl rfl ca12 ?_
    refine (c12 4 ⟨by first | decide | omega, by first | decide | omega⟩ hl hk1 (k := k1) (tg := tg) hpp).mono ?_
    rintro _ _ ⟨m2, k2, hm2, hk2, rfl, rfl⟩
    refine back trivial ?_
    refine g1 ?_
    obtain ⟨y1, hy1, hrow1⟩ := str_row (l := [[97], [98], [97, 46, 42], [91, 97, 98, 93]]) (m := m2) (show m2 < 4 by omega)
    refine s_ia rfl (tt rfl) (tt rfl) rfl rfl rfl (fun _ => rfl) (by omega) hrow1 ?_
    refine g1 ?_
    refine s_call rfl rfl rfl ca12 ?_
    refine (c12 3 ⟨by first | decide | omega, by first | decide | omega⟩ hl hk2 (k := k2) (tg := tg) hpp).mono ?_
    rintro _ _ ⟨m3, k3, hm3, hk3, rfl, rfl⟩
    refine back ⟨rk_loadc (tt rfl) rfl rfl rfl rfl, trivial⟩ ?_
    refine g1 ?_
    exact fin_at atss (.ret _ _ wkk) ⟨_, k3, ⟨_, .plain y1 _ (memV4 _ hy1), rfl⟩, hk3, rfl, rfl⟩
  · refine g1 ?_
    refine s_call rfl rfl rfl ca12 ?_
    refine (c12 4 ⟨by first | decide | omega, by first | decide | omega⟩ hl hk1 (k := k1) (tg := tg) hpp).mono ?_
    rintro _ _ ⟨m2, k2, hm2, hk2, rfl, rfl⟩
    refine back trivial ?_
    refine g1 ?_
    obtain ⟨y1, hy1, hrow1⟩ := str_row (l := [[97], [98], [97, 46, 42], [91, 97, 98, 93]]) (m := m2) (show m2 < 4 by omega)
    refine s_ia rfl (tt rfl) (tt rfl) rfl rfl rfl (fun _ => rfl) (by omega) hrow1 ?_
    refine g1 ?_
    refine s_call rfl rfl rfl ca12 ?_
    refine (c12 3 ⟨by first | decide | omega, by first | decide | omega⟩ hl hk2 (k := k2) (tg := tg) hpp).mono ?_
    rintro _ _ ⟨m3, k3, hm3, hk3, rfl, rfl⟩
    refine back ⟨rk_loadc (tt rfl) rfl rfl rfl rfl, trivial⟩ ?_
    refine g1 ?_
    exact fin_at atss (.ret _ _ wkk) ⟨_, k3, ⟨_, .plain y1 _ (memV4 _ hy1), rfl⟩, hk3, rfl, rfl⟩
  · refine g1 ?_
    refine s_call rfl rfl rfl ca145 ?_
    refine (c145 hlab hl hls hsz 1 (by decide) _ k1 hk1 hpp).mono ?_
    rintro _ _ ⟨_, k2, ⟨c, hc, rfl⟩, hk2, rfl, rfl⟩
    obtain ⟨o1, n1, a1, v1, l1, f1, kd1⟩ := c
    refine back trivial ?_
    refine g1 ?_
    exact fin_at atss (.ret _ _ wkk) ⟨_, k2, ⟨_, .inner _ hc, rfl⟩, hk2, rfl, rfl⟩
  · refine g1 ?_
    refine s_call rfl rfl rfl ca145 ?_
    refine (c145 hlab hl hls hsz 1 (by decide) _ k1 hk1 hpp).mono ?_
    rintro _ _ ⟨_, k2, ⟨c, hc, rfl⟩, hk2, rfl, rfl⟩
    obtain ⟨o1, n1, a1, v1, l1, f1, kd1⟩ := c
    refine back trivial ?_
    refine g1 ?_
    exact fin_at atss (.ret _ _ wkk) ⟨_, k2, ⟨_, .inner _ hc, rfl⟩, hk2, rfl, rfl⟩
  · refine g1 ?_
    refine s_call rfl rfl rfl ca145 ?_
    refine (c145 hlab hl hls hsz 1 (by decide) _ k1 hk1 hpp).mono ?_
    rintro _ _ ⟨_, k2, ⟨c, hc, rfl⟩, hk2, rfl, rfl⟩
    obtain ⟨o1, n1, a1, v1, l1, f1, kd1⟩ := c
    refine back trivial ?_
    refine g1 ?_
    exact fin_at atss (.ret _ _ wkk) ⟨_, k2, ⟨_, .inner _ hc, rfl⟩, hk2, rfl, rfl⟩
  · refine g1 ?_
    refine s_call rfl rfl rfl ca145 ?_
    refine (c145 hlab hl hls hsz 1 (by decide) _ k1 hk1 hpp).mono ?_
    rintro _ _ ⟨_, k2, ⟨c, hc, rfl⟩, hk2, rfl, rfl⟩
    obtain ⟨o1, n1, a1, v1, l1, f1, kd1⟩ := c
    refine back trivial ?_
    refine g1 ?_
    exact fin_at atss (.ret _ _ wkk) ⟨_, k2, ⟨_, .inner _ hc, rfl⟩, hk2, rfl, rfl⟩
  · refine g1 ?_
    refine s_call rfl rfl rfl ca145 ?_
    refine (c145 hlab hl hls hsz 1 (by decide) _ k1 hk1 hpp).mono ?_
    rintro _ _ ⟨_, k2, ⟨c, hc, rfl⟩, hk2, rfl, rfl⟩
    obtain ⟨o1, n1, a1, v1, l1, f1, kd1⟩ := c
    refine back trivial ?_
    refine g1 ?_
    exact fin_at atss (.ret _ _ wkk) ⟨_, k2, ⟨_, .inner _ hc, rfl⟩, hk2, rfl, rfl⟩

set_option maxHeartbeats 8000000 in
theorem c26 {lab : Str → Prop} {g sz : Nat} {l : List Int} {tg tl : Tag} {ls : List Str} (hlab : ∀ x, x ∈ ls → lab x) (hl : l.length ≤ 120) (hls : ls.length ≤ 1000) (hsz : sz = 1 ∨ ls = []) :
    ∀ (d : Nat), d ≤ 10 → ∀ (h : AHeap) (k : Nat), k ≤ l.length → h.get g = some (tape l k tg) →
      ACalls Tryz.prog G 26 [.ptr g 0, .int .i64 d, .sl sz (encSs ls) tl] h (Gen g l tg (fun v => ∃ p, GP lab d p ∧ v = encPa p) h) := by
  have hls0 : ls = [] ∨ 0 < ls.length := by
    cases ls with
    | nil => exact .inl rfl
    | cons a b => exact .inr (by simp)
  intro d
  induction d with
  | zero =>
    intro hd h k hk hg
    refine ACalls.fin (en26 (by simp) fun hw => ?_)
    have hgl := hw _ _ hg
    refine g1 ?_
    refine s_alloc (tt rfl) fun b6 hb6 => ⟨trivial, ?_⟩
    try simp only [set_next, new_next] at hb6
    refine g1 ?_
    refine s_call rfl rfl rfl ca12 ?_
    refine (c12 14 ⟨by first | decide | omega, by first | decide | omega⟩ hl hk (k := k) (tg := tg) hpp).mono ?_
    rintro _ _ ⟨m, k1, hm, hk1, rfl, rfl⟩
    refine back trivial ?_
    rcases (show m = 0 ∨ m = 1 ∨ m = 2 ∨ m = 3 ∨ m = 4 ∨ m = 5 ∨ m = 6 ∨ m = 7 ∨ m = 8 ∨ m = 9 ∨ m = 10 ∨ m = 11 ∨ m = 12 ∨ m = 13 by omega) with rfl | rfl | rfl | rfl | rfl | rfl | rfl | rfl | rfl | rfl | rfl | rfl | rfl | rfl
    · refine g1 ?_
      refine s_call rfl rfl rfl ca77 ?_
      refine (c77 hlab hl hls hsz _ k1 hk1 hpp).mono ?_
      rintro _ _ ⟨_, k2, ⟨c, hct, rfl⟩, hk2, rfl, rfl⟩
      obtain ⟨o1, n1, a1, v1, l1, f1, kd1⟩ := c
      refine back trivial ?_
      refine g1 ?_
      refine s_alloc (tt rfl) fun b8 hb8 => ⟨trivial, ?_⟩
      try simp only [set_next, new_next] at hb8
      rcases hls0 with hls0 | hls0
      · subst hls0
        refine g1 ?_
        exact fin_at atss (.ret _ _ wkk) ⟨_, k2, ⟨_, .token _ _ _ hct (.inl rfl), rfl⟩, hk2, rfl, rfl⟩
      · obtain rfl : sz = 1 := hsz.resolve_right (fun e => by rw [e] at hls0; simp at hls0)
        have hlsl : (encSs ls).length = ls.length := encSs_len ls
        have e1 : decide (((encSs ls).length : Int) > 0) = true := by simp; omega
        refine g1 ?_
        refine s_call rfl rfl rfl ca12 ?_
        refine (c12 2 ⟨by first | decide | omega, by first | decide | omega⟩ hl hk2 (k := k2) (tg := tg) hpp).mono ?_
        rintro _ _ ⟨m3, k3, hm3, hk3, rfl, rfl⟩
        refine back trivial ?_
        rcases (show m3 = 0 ∨ m3 = 1 by omega) with rfl | rfl
        · refine g1 ?_
          exact fin_at atss (.ret _ _ wkk) ⟨_, k3, ⟨_, .token _ _ _ hct (.inl rfl), rfl⟩, hk3, rfl, rfl⟩
        · refine g1 ?_
          refine s_call rfl rfl rfl ca12 ?_
          refine (c12 _ ⟨by first | decide | omega, by first | decide | omega⟩ hl hk3 (k := k3) (tg := tg) hpp).mono ?_
          rintro _ _ ⟨m4, k4, hm4, hk4, rfl, rfl⟩
          refine back trivial ?_
          refine g1 ?_
          obtain ⟨y1, hy1, hrow1⟩ := str_row (l := ls) (m := m4) (by omega)
          refine s_ia rfl (tt rfl) (tt rfl) rfl rfl rfl (fun _ => rfl) (by omega) hrow1 ?_
          refine g1 ?_
          exact fin_at atss (.ret _ _ wkk) ⟨_, k4, ⟨_, .token _ _ _ hct (.inr (hlab _ hy1)), rfl⟩, hk4, rfl, rfl⟩
    · refine g1 ?_
      refine s_call rfl rfl rfl ca77 ?_
      refine (c77 hlab hl hls hsz _ k1 hk1 hpp).mono ?_
      rintro _ _ ⟨_, k2, ⟨c, hct, rfl⟩, hk2, rfl, rfl⟩
      obtain ⟨o1, n1, a1, v1, l1, f1, kd1⟩ := c
      refine back trivial ?_
      refine g1 ?_
      refine s_alloc (tt rfl) fun b8 hb8 => ⟨trivial, ?_⟩
      try simp only [set_next, new_next] at hb8
      rcases hls0 with hls0 | hls0
      · subst hls0
        refine g1 ?_
        exact fin_at atss (.ret _ _ wkk) ⟨_, k2, ⟨_, .token _ _ _ hct (.inl rfl), rfl⟩, hk2, rfl, rfl⟩
      · obtain rfl : sz = 1 := hsz.resolve_right (fun e => by rw [e] at hls0; simp at hls0)
        have hlsl : (encSs ls).length = ls.length := encSs_len ls
        have e1 : decide (((encSs ls).length : Int) > 0) = true := by simp; omega
        refine g1 ?_
        refine s_call rfl rfl rfl ca12 ?_
        refine (c12 2 ⟨by first | decide | omega, by first | decide | omega⟩ hl hk2 (k := k2) (tg := tg) hpp).mono ?_
        rintro _ _ ⟨m3, k3, hm3, hk3, rfl, rfl⟩
        refine back trivial ?_
        rcases (show m3 = 0 ∨ m3 = 1 by omega) with rfl | rfl
        · refine g1 ?_
          exact fin_at atss (.ret _ _ wkk) ⟨_, k3, ⟨_, .token _ _ _ hct (.inl rfl), rfl⟩, hk3, rfl, rfl⟩
        · refine g1 ?_
          refine s_call rfl rfl rfl ca12 ?_
          refine (c12 _ ⟨by first | decide | omega, by first | decide | omega⟩ hl hk3 (k := k3) (tg := tg) hpp).mono ?_
          rintro _ _ ⟨m4, k4, hm4, hk4, rfl, rfl⟩
          refine back trivial ?_
          refine g1 ?_
          obtain ⟨y1, hy1, hrow1⟩ := str_row (l := ls) (m := m4) (by omega)
          refine s_ia rfl (tt rfl) (tt rfl) rfl rfl rfl (fun _ => rfl) (by omega) hrow1 ?_
          refine g1 ?_
          exact fin_at atss (.ret _ _ wkk) ⟨_, k4, ⟨_, .token _ _ _ hct (.inr (hlab _ hy1)), rfl⟩, hk4, rfl, rfl⟩
    · refine g1 ?_
      refine s_call rfl rfl rfl ca77 ?_
      refine (c77 hlab hl hls hsz _ k1 hk1 hpp).mono ?_
      rintro _ _ ⟨_, k2, ⟨c, hct, rfl⟩, hk2, rfl, rfl⟩
      obtain ⟨o1, n1, a1, v1, l1, f1, kd1⟩ := c
      refine back trivial ?_
      refine g1 ?_
      refine s_alloc (tt rfl) fun b8 hb8 => ⟨trivial, ?_⟩
      try simp only [set_next, new_next] at hb8
      rcases hls0 with hls0 | hls0
      · subst hls0
        refine g1 ?_
        exact fin_at atss (.ret _ _ wkk) ⟨_, k2, ⟨_, .token _ _ _ hct (.inl rfl), rfl⟩, hk2, rfl, rfl⟩
      · obtain rfl : sz = 1 := hsz.resolve_right (fun e => by rw [e] at hls0; simp at hls0)
        have hlsl : (encSs ls).length = ls.length := encSs_len ls
        have e1 : decide (((encSs ls).length : Int) > 0) = true := by simp; omega
        refine g1 ?_
        refine s_call rfl rfl rfl ca12 ?_
        refine (c12 2 ⟨by first | decide | omega, by first | decide | omega⟩ hl hk2 (k := k2) (tg := tg) hpp).mono ?_
        rintro _ _ ⟨m3, k3, hm3, hk3, rfl, rfl⟩
        refine back trivial ?_
        rcases (show m3 = 0 ∨ m3 = 1 by omega) with rfl | rfl
        · refine g1 ?_
          exact fin_at atss (.ret _ _ wkk) ⟨_, k3, ⟨_, .token _ _ _ hct (.inl rfl), rfl⟩, hk3, rfl, rfl⟩
        · refine g1 ?_
          refine s_call rfl rfl rfl ca12 ?_
          refine (c12 _ ⟨by first | decide | omega, by first | decide | omega⟩ hl hk3 (k := k3) (tg := tg) hpp).mono ?_
          rintro _ _ ⟨m4, k4, hm4, hk4, rfl, rfl⟩
          refine back trivial ?_
          refine g1 ?_
          obtain ⟨y1, hy1, hrow1⟩ := str_row (l := ls) (m := m4) (by omega)
          refine s_ia rfl (tt rfl) (tt rfl) rfl rfl rfl (fun _ => rfl) (by omega) hrow1 ?_
          refine g1 ?_
          exact fin_at atss (.ret _ _ wkk) ⟨_, k4, ⟨_, .token _ _ _ hct (.inr (hlab _ hy1)), rfl⟩, hk4, rfl, rfl⟩
    · refine g1 ?_
      refine s_call rfl rfl rfl ca77 ?_
      refine (c77 hlab hl hls hsz _ k1 hk1 hpp).mono ?_
      rintro _ _ ⟨_, k2, ⟨c, hct, rfl⟩, hk2, rfl, rfl⟩
      obtain ⟨o1, n1, a1, v1, l1, f1, kd1⟩ := c
      refine back trivial ?_
      refine g1 ?_
      refine s_alloc (tt rfl) fun b8 hb8 => ⟨trivial, ?_⟩
      try simp only [set_next, new_next] at hb8
      rcases hls0 with hls0 | hls0
      · subst hls0
        refine g1 ?_
        exact fin_at atss (.ret _ _ wkk) ⟨_, k2, ⟨_, .token _ _ _ hct (.inl rfl), rfl⟩, hk2, rfl, rfl⟩
      · obtain rfl : sz = 1 := hsz.resolve_right (fun e => by rw [e] at hls0; simp at hls0)
        have hlsl : (encSs ls).length = ls.length := encSs_len ls
        have e1 : decide (((encSs ls).length : Int) > 0) = true := by simp; omega
        refine g1 ?_
        refine s_call rfl rfl rfl ca12 ?_
        refine (c12 2 ⟨by first | decide | omega, by first | decide | omega⟩ hl hk2 (k := k2) (tg := tg) hpp).mono ?_
        rintro _ _ ⟨m3, k3, hm3, hk3, rfl, rfl⟩
        refine back trivial ?_
        rcases (show m3 = 0 ∨ m3 = 1 by omega) with rfl | rfl
        · refine g1 ?_
          exact fin_at atss (.ret _ _ wkk) ⟨_, k3, ⟨_, .token _ _ _ hct (.inl rfl), rfl⟩, hk3, rfl, rfl⟩
        · refine g1 ?_
          refine s_call rfl rfl rfl ca12 ?_
          refine (c12 _ ⟨by first | decide | omega, by first | decide | omega⟩ hl hk3 (k := k3) (tg := tg) hpp).mono ?_
          rintro _ _ ⟨m4, k4, hm4, hk4, rfl, rfl⟩
          refine back trivial ?_
          refine g1 ?_
          obtain ⟨y1, hy1, hrow1⟩ := str_row (l := ls) (m := m4) (by omega)
          refine s_ia rfl (tt rfl) (tt rfl) rfl rfl rfl (fun _ => rfl) (by omega) hrow1 ?_
          refine g1 ?_
          exact fin_at atss (.ret _ _ wkk) ⟨_, k4, ⟨_, .token _ _ _ hct (.inr (hlab _ hy1)), rfl⟩, hk4, rfl, rfl⟩
    · refine g1 ?_
      refine s_call rfl rfl rfl ca77 ?_
      refine (c77 hlab hl hls hsz _ k1 hk1 hpp).mono ?_
      rintro _ _ ⟨_, k2, ⟨c, hct, rfl⟩, hk2, rfl, rfl⟩
      obtain ⟨o1, n1, a1, v1, l1, f1, kd1⟩ := c
      refine back trivial ?_
      refine g1 ?_
      refine s_alloc (tt rfl) fun b8 hb8 => ⟨trivial, ?_⟩
      try simp only [set_next, new_next] at hb8
      rcases hls0 with hls0 | hls0
      · subst hls0
        refine g1 ?_
        exact fin_at atss (.ret _ _ wkk) ⟨_, k2, ⟨_, .token _ _ _ hct (.inl rfl), rfl⟩, hk2, rfl, rfl⟩
      · obtain rfl : sz = 1 := hsz.resolve_right (fun e => by rw [e] at hls0; simp at hls0)
        have hlsl : (encSs ls).length = ls.length := encSs_len ls
        have e1 : decide (((encSs ls).length : Int) > 0) = true := by simp; omega
        refine g1 ?_
        refine s_call rfl rfl rfl ca12 ?_
        refine (c12 2 ⟨by first | decide | omega, by first | decide | omega⟩ hl hk2 (k := k2) (tg := tg) hpp).mono ?_
        rintro _ _ ⟨m3, k3, hm3, hk3, rfl, rfl⟩
        refine back trivial ?_
        rcases (show m3 = 0 ∨ m3 = 1 by omega) with rfl | rfl
        · refine g1 ?_
          exact fin_at atss (.ret _ _ wkk) ⟨_, k3, ⟨_, .token _ _ _ hct (.inl rfl), rfl⟩, hk3, rfl, rfl⟩
        · refine g1 ?_
          refine s_call rfl rfl rfl ca12 ?_
          refine (c12 _ ⟨by first | decide | omega, by first | decide | omega⟩ hl hk3 (k := k3) (tg := tg) hpp).mono ?_
          rintro _ _ ⟨m4, k4, hm4, hk4, rfl, rfl⟩
          refine back trivial ?_
          refine g1 ?_
          obtain ⟨y1, hy1, hrow1⟩ := str_row (l := ls) (m := m4) (by omega)
          refine s_ia rfl (tt rfl) (tt rfl) rfl rfl rfl (fun _ => rfl) (by omega) hrow1 ?_
          refine g1 ?_
          exact fin_at atss (.ret _ _ wkk) ⟨_, k4, ⟨_, .token _ _ _ hct (.inr (hlab _ hy1)), rfl⟩, hk4, rfl, rfl⟩
    · refine g1 ?_
      refine s_call rfl rfl rfl ca12 ?_
      refine (c12 3 ⟨by first | decide | omega, by first | decide | omega⟩ hl hk1 (k := k1) (tg := tg) hpp).mono ?_
      rintro _ _ ⟨m2, k2, hm2, hk2, rfl, rfl⟩
      refine back trivial ?_
      refine g1 ?_
      refine s_call rfl rfl rfl ca78 ?_
      refine (c78 _).mono ?_
      rintro _ _ ⟨ty, hty, rfl, hh⟩
      obtain rfl := hh.symm
      refine back trivial ?_
      refine g1 ?_
      exact fin_at atss (.ret _ _ wkk) ⟨_, k2, ⟨_, .edge _ _ ty (.inl (by decide)) hty, rfl⟩, hk2, rfl, rfl⟩
    · refine g1 ?_
      refine s_call rfl rfl rfl ca12 ?_
      refine (c12 3 ⟨by first | decide | omega, by first | decide | omega⟩ hl hk1 (k := k1) (tg := tg) hpp).mono ?_
      rintro _ _ ⟨m2, k2, hm2, hk2, rfl, rfl⟩
      refine back trivial ?_
      refine g1 ?_
      refine s_call rfl rfl rfl ca78 ?_
      refine (c78 _).mono ?_
      rintro _ _ ⟨ty, hty, rfl, hh⟩
      obtain rfl := hh.symm
      refine back trivial ?_
      refine g1 ?_
      exact fin_at atss (.ret _ _ wkk) ⟨_, k2, ⟨_, .edge _ _ ty (.inr (by decide)) hty, rfl⟩, hk2, rfl, rfl⟩
    · refine g1 ?_
      refine s_call rfl rfl rfl ca77 ?_
      refine (c77 hlab hl hls hsz _ k1 hk1 hpp).mono ?_
      rintro _ _ ⟨_, k2, ⟨c, hct, rfl⟩, hk2, rfl, rfl⟩
      obtain ⟨o1, n1, a1, v1, l1, f1, kd1⟩ := c
      refine back trivial ?_
      refine g1 ?_
      refine s_alloc (tt rfl) fun b8 hb8 => ⟨trivial, ?_⟩
      try simp only [set_next, new_next] at hb8
      rcases hls0 with hls0 | hls0
      · subst hls0
        refine g1 ?_
        exact fin_at atss (.ret _ _ wkk) ⟨_, k2, ⟨_, .token _ _ _ hct (.inl rfl), rfl⟩, hk2, rfl, rfl⟩
      · obtain rfl : sz = 1 := hsz.resolve_right (fun e => by rw [e] at hls0; simp at hls0)
        have hlsl : (encSs ls).length = ls.length := encSs_len ls
        have e1 : decide (((encSs ls).length : Int) > 0) = true := by simp; omega
        refine g1 ?_
        refine s_call rfl rfl rfl ca12 ?_
        refine (c12 2 ⟨by first | decide | omega, by first | decide | omega⟩ hl hk2 (k := k2) (tg := tg) hpp).mono ?_
        rintro _ _ ⟨m3, k3, hm3, hk3, rfl, rfl⟩
        refine back trivial ?_
        rcases (show m3 = 0 ∨ m3 = 1 by omega) with rfl | rfl
        · refine g1 ?_
          exact fin_at atss (.ret _ _ wkk) ⟨_, k3, ⟨_, .token _ _ _ hct (.inl rfl), rfl⟩, hk3, rfl, rfl⟩
        · refine g1 ?_
          refine s_call rfl rfl rfl ca12 ?_
          refine (c12 _ ⟨by first | decide | omega, by first | decide | omega⟩ hl hk3 (k := k3) (tg := tg) hpp).mono ?_
          rintro _ _ ⟨m4, k4, hm4, hk4, rfl, rfl⟩
          refine back trivial ?_
          refine g1 ?_
          obtain ⟨y1, hy1, hrow1⟩ := str_row (l := ls) (m := m4) (by omega)
          refine s_ia rfl (tt rfl) (tt rfl) rfl rfl rfl (fun _ => rfl) (by omega) hrow1 ?_
          refine g1 ?_
          exact fin_at atss (.ret _ _ wkk) ⟨_, k4, ⟨_, .token _ _ _ hct (.inr (hlab _ hy1)), rfl⟩, hk4, rfl, rfl⟩
    · refine g1 ?_
      refine s_call rfl rfl rfl ca77 ?_
      refine (c77 hlab hl hls hsz _ k1 hk1 hpp).mono ?_
      rintro _ _ ⟨_, k2, ⟨c, hct, rfl⟩, hk2, rfl, rfl⟩
      obtain ⟨o1, n1, a1, v1, l1, f1, kd1⟩ := c
      refine back trivial ?_
      refine g1 ?_
      refine s_alloc (tt rfl) fun b8 hb8 => ⟨trivial, ?_⟩
      try simp only [set_next, new_next] at hb8
      rcases hls0 with hls0 | hls0
      · subst hls0
        refine g1 ?_
        exact fin_at atss (.ret _ _ wkk) ⟨_, k2, ⟨_, .token _ _ _ hct (.inl rfl), rfl⟩, hk2, rfl, rfl⟩
      · obtain rfl : sz = 1 := hsz.resolve_right (fun e => by rw [e] at hls0; simp at hls0)
        have hlsl : (encSs ls).length = ls.length := encSs_len ls
        have e1 : decide (((encSs ls).length : Int) > 0) = true := by simp; omega
        refine g1 ?_
        refine s_call rfl rfl rfl ca12 ?_
        refine (c12 2 ⟨by first | decide | omega, by first | decide | omega⟩ hl hk2 (k := k2) (tg := tg) hpp).mono ?_
        rintro _ _ ⟨m3, k3, hm3, hk3, rfl, rfl⟩
        refine back trivial ?_
        rcases (show m3 = 0 ∨ m3 = 1 by omega) with rfl | rfl
        · refine g1 ?_
          exact fin_at atss (.ret _ _ wkk) ⟨_, k3, ⟨_, .token _ _ _ hct (.inl rfl), rfl⟩, hk3, rfl, rfl⟩
        · refine g1 ?_
          refine s_call rfl rfl rfl ca12 ?_
          refine (c12 _ ⟨by first | decide | omega, by first | decide | omega⟩ hl hk3 (k := k3) (tg := tg) hpp).mono ?_
          rintro _ _ ⟨m4, k4, hm4, hk4, rfl, rfl⟩
          refine back trivial ?_
          refine g1 ?_
          obtain ⟨y1, hy1, hrow1⟩ := str_row (l := ls) (m := m4) (by omega)
          refine s_ia rfl (tt rfl) (tt rfl) rfl rfl rfl (fun _ => rfl) (by omega) hrow1 ?_
          refine g1 ?_
          exact fin_at atss (.ret _ _ wkk) ⟨_, k4, ⟨_, .token _ _ _ hct (.inr (hlab _ hy1)), rfl⟩, hk4, rfl, rfl⟩
    · refine g1 ?_
      refine s_call rfl rfl rfl ca77 ?_
      refine (c77 hlab hl hls hsz _ k1 hk1 hpp).mono ?_
      rintro _ _ ⟨_, k2, ⟨c, hct, rfl⟩, hk2, rfl, rfl⟩
      obtain ⟨o1, n1, a1, v1, l1, f1, kd1⟩ := c
      refine back trivial ?_
      refine g1 ?_
      refine s_alloc (tt rfl) fun b8 hb8 => ⟨trivial, ?_⟩
      try simp only [set_next, new_next] at hb8
      rcases hls0 with hls0 | hls0
      · subst hls0
        refine g1 ?_
        exact fin_at atss (.ret _ _ wkk) ⟨_, k2, ⟨_, .token _ _ _ hct (.inl rfl), rfl⟩, hk2, rfl, rfl⟩
      · obtain rfl : sz = 1 := hsz.resolve_right (fun e => by rw [e] at hls0; simp at hls0)
        have hlsl : (encSs ls).length = ls.length := encSs_len ls
        have e1 : decide (((encSs ls).length : Int) > 0) = true := by simp; omega
        refine g1 ?_
        refine s_call rfl rfl rfl ca12 ?_
        refine (c12 2 ⟨by first | decide | omega, by first | decide | omega⟩ hl hk2 (k := k2) (tg := tg) hpp).mono ?_
        rintro _ _ ⟨m3, k3, hm3, hk3, rfl, rfl⟩
        refine back trivial ?_
        rcases (show m3 = 0 ∨ m3 = 1 by omega) with rfl | rfl
        · refine g1 ?_
          exact fin_at atss (.ret _ _ wkk) ⟨_, k3, ⟨_, .token _ _ _ hct (.inl rfl), rfl⟩, hk3, rfl, rfl⟩
        · refine g1 ?_
          refine s_call rfl rfl rfl ca12 ?_
          refine (c12 _ ⟨by first | decide | omega, by first | decide | omega⟩ hl hk3 (k := k3) (tg := tg) hpp).mono ?_
          rintro _ _ ⟨m4, k4, hm4, hk4, rfl, rfl⟩
          refine back trivial ?_
          refine g1 ?_
          obtain ⟨y1, hy1, hrow1⟩ := str_row (l := ls) (m := m4) (by omega)
          refine s_ia rfl (tt rfl) (tt rfl) rfl rfl rfl (fun _ => rfl) (by omega) hrow1 ?_
          refine g1 ?_
          exact fin_at atss (.ret _ _ wkk) ⟨_, k4, ⟨_, .token _ _ _ hct (.inr (hlab _ hy1)), rfl⟩, hk4, rfl, rfl⟩
    · refine g1 ?_
      refine s_call rfl rfl rfl ca77 ?_
      refine (c77 hlab hl hls hsz _ k1 hk1 hpp).mono ?_
      rintro _ _ ⟨_, k2, ⟨c, hct, rfl⟩, hk2, rfl, rfl⟩
      obtain ⟨o1, n1, a1, v1, l1, f1, kd1⟩ := c
      refine back trivial ?_
      refine g1 ?_
      refine s_alloc (tt rfl) fun b8 hb8 => ⟨trivial, ?_⟩
      try simp only [set_next, new_next] at hb8
      rcases hls0 with hls0 | hls0
      · subst hls0
        refine g1 ?_
        exact fin_at atss (.ret _ _ wkk) ⟨_, k2, ⟨_, .token _ _ _ hct (.inl rfl), rfl⟩, hk2, rfl, rfl⟩
      · obtain rfl : sz = 1 := hsz.resolve_right (fun e => by rw [e] at hls0; simp at hls0)
        have hlsl : (encSs ls).length = ls.length := encSs_len ls
        have e1 : decide (((encSs ls).length : Int) > 0) = true := by simp; omega
        refine g1 ?_
        refine s_call rfl rfl rfl ca12 ?_
        refine (c12 2 ⟨by first | decide | omega, by first | decide | omega⟩ hl hk2 (k := k2) (tg := tg) hpp).mono ?_
        rintro _ _ ⟨m3, k3, hm3, hk3, rfl, rfl⟩
        refine back trivial ?_
        rcases (show m3 = 0 ∨ m3 = 1 by omega) with rfl | rfl
        · refine g1 ?_
          exact fin_at atss (.ret _ _ wkk) ⟨_, k3, ⟨_, .token _ _ _ hct (.inl rfl), rfl⟩, hk3, rfl, rfl⟩
        · refine g1 ?_
          refine s_call rfl rfl rfl ca12 ?_
          refine (c12 _ ⟨by first | decide | omega, by first | decide | omega⟩ hl hk3 (k := k3) (tg := tg) hpp).mono ?_
          rintro _ _ ⟨m4, k4, hm4, hk4, rfl, rfl⟩
          refine back trivial ?_
          refine g1 ?_
          obtain ⟨y1, hy1, hrow1⟩ := str_row (l := ls) (m := m4) (by omega)
          refine s_ia rfl (tt rfl) (tt rfl) rfl rfl rfl (fun _ => rfl) (by omega) hrow1 ?_
          refine g1 ?_
          exact fin_at atss (.ret _ _ wkk) ⟨_, k4, ⟨_, .token _ _ _ hct (.inr (hlab _ hy1)), rfl⟩, hk4, rfl, rfl⟩
    · refine g1 ?_
      refine s_call rfl rfl rfl ca77 ?_
      refine (c77 hlab hl hls hsz _ k1 hk1 hpp).mono ?_
      rintro _ _ ⟨_, k2, ⟨c, hct, rfl⟩, hk2, rfl, rfl⟩
      obtain ⟨o1, n1, a1, v1, l1, f1, kd1⟩ := c
      refine back trivial ?_
      refine g1 ?_
      refine s_alloc (tt rfl) fun b8 hb8 => ⟨trivial, ?_⟩
      try simp only [set_next, new_next] at hb8
      rcases hls0 with hls0 | hls0
      · subst hls0
        refine g1 ?_
        exact fin_at atss (.ret _ _ wkk) ⟨_, k2, ⟨_, .token _ _ _ hct (.inl rfl), rfl⟩, hk2, rfl, rfl⟩
      · obtain rfl : sz = 1 := hsz.resolve_right (fun e => by rw [e] at hls0; simp at hls0)
        have hlsl : (encSs ls).length = ls.length := encSs_len ls
        have e1 : decide (((encSs ls).length : Int) > 0) = true := by simp; omega
        refine g1 ?_
        refine s_call rfl rfl rfl ca12 ?_
        refine (c12 2 ⟨by first | decide | omega, by first | decide | omega⟩ hl hk2 (k := k2) (tg := tg) hpp).mono ?_
        rintro _ _ ⟨m3, k3, hm3, hk3, rfl, rfl⟩
        refine back trivial ?_
        rcases (show m3 = 0 ∨ m3 = 1 by omega) with rfl | rfl
        · refine g1 ?_
          exact fin_at atss (.ret _ _ wkk) ⟨_, k3, ⟨_, .token _ _ _ hct (.inl rfl), rfl⟩, hk3, rfl, rfl⟩
        · refine g1 ?_
          refine s_call rfl rfl rfl ca12 ?_
          refine (c12 _ ⟨by first | decide | omega, by first | decide | omega⟩ hl hk3 (k := k3) (tg := tg) hpp).mono ?_
          rintro _ _ ⟨m4, k4, hm4, hk4, rfl, rfl⟩
          refine back trivial ?_
          refine g1 ?_
          obtain ⟨y1, hy1, hrow1⟩ := str_row (l := ls) (m := m4) (by omega)
          refine s_ia rfl (tt rfl) (tt rfl) rfl rfl rfl (fun _ => rfl) (by omega) hrow1 ?_
          refine g1 ?_
          exact fin_at atss (.ret _ _ wkk) ⟨_, k4, ⟨_, .token _ _ _ hct (.inr (hlab _ hy1)), rfl⟩, hk4, rfl, rfl⟩
    · refine g1 ?_
      refine s_call rfl rfl rfl ca12 ?_
      refine (c12 3 ⟨by first | decide | omega, by first | decide | omega⟩ hl hk1 (k := k1) (tg := tg) hpp).mono ?_
      rintro _ _ ⟨m2, k2, hm2, hk2, rfl, rfl⟩
      refine back trivial ?_
      refine g1 ?_
      refine s_call rfl rfl rfl ca78 ?_
      refine (c78 _).mono ?_
      rintro _ _ ⟨ty, hty, rfl, hh⟩
      obtain rfl := hh.symm
      refine back trivial ?_
      refine g1 ?_
      exact fin_at atss (.ret _ _ wkk) ⟨_, k2, ⟨_, .edge _ _ ty (.inl (by decide)) hty, rfl⟩, hk2, rfl, rfl⟩
    · refine g1 ?_
      refine s_call rfl rfl rfl ca12 ?_
      refine (c12 3 ⟨by first | decide | omega, by first | decide | omega⟩ hl hk1 (k := k1) (tg := tg) hpp).mono ?_
      rintro _ _ ⟨m2, k2, hm2, hk2, rfl, rfl⟩
      refine back trivial ?_
      refine g1 ?_
      refine s_call rfl rfl rfl ca78 ?_
      refine (c78 _).mono ?_
      rintro _ _ ⟨ty, hty, rfl, hh⟩
      obtain rfl := hh.symm
      refine back trivial ?_
      refine g1 ?_
      exact fin_at atss (.ret _ _ wkk) ⟨_, k2, ⟨_, .edge _ _ ty (.inr (by decide)) hty, rfl⟩, hk2, rfl, rfl⟩
  | succ d ih =>
    intro hd h k hk hg
    have hd1 : ((d + 1 : Nat) : Int) - 1 = d := by omega
    have ih' : ∀ h k, k ≤ l.length → h.get g = some (tape l k tg) → ACalls Tryz.prog G 26 [.ptr g 0, .int .i64 (((d + 1 : Nat) : Int) - 1), .sl sz (encSs ls) tl] h (Gen g l tg (fun v => ∃ p, GP lab d p ∧ v = encPa p) h) :=
      fun h k hk hg => by rw [hd1]; exact ih (by omega) h k hk hg
    refine ACalls.fin (en26 (by simp) fun hw => ?_)
    have hgl := hw _ _ hg
    have e0 : decide (((d + 1 : Nat) : Int) < 1) = false := by simp; omega
    refine g1 ?_
    refine s_alloc (tt rfl) fun b6 hb6 => ⟨trivial, ?_⟩
    try simp only [set_next, new_next] at hb6
    refine g1 ?_
    refine s_call rfl rfl rfl ca12 ?_
    refine (c12 14 ⟨by first | decide | omega, by first | decide | omega⟩ hl hk (k := k) (tg := tg) hpp).mono ?_
    rintro _ _ ⟨m, k1, hm, hk1, rfl, rfl⟩
    refine back trivial ?_
    rcases (show m = 0 ∨ m = 1 ∨ m = 2 ∨ m = 3 ∨ m = 4 ∨ m = 5 ∨ m = 6 ∨ m = 7 ∨ m = 8 ∨ m = 9 ∨ m = 10 ∨ m = 11 ∨ m = 12 ∨ m = 13 by omega) with rfl | rfl | rfl | rfl | rfl | rfl | rfl | rfl | rfl | rfl | rfl | rfl | rfl | rfl
    · refine g1 ?_
      refine s_call rfl rfl rfl ca77 ?_
      refine (c77 hlab hl hls hsz _ k1 hk1 hpp).mono ?_
      rintro _ _ ⟨_, k2, ⟨c, hct, rfl⟩, hk2, rfl, rfl⟩
      obtain ⟨o1, n1, a1, v1, l1, f1, kd1⟩ := c
      refine back trivial ?_
      refine g1 ?_
      refine s_alloc (tt rfl) fun b8 hb8 => ⟨trivial, ?_⟩
      try simp only [set_next, new_next] at hb8
      rcases hls0 with hls0 | hls0
      · subst hls0
        refine g1 ?_
        exact fin_at atss (.ret _ _ wkk) ⟨_, k2, ⟨_, .token _ _ _ hct (.inl rfl), rfl⟩, hk2, rfl, rfl⟩
      · obtain rfl : sz = 1 := hsz.resolve_right (fun e => by rw [e] at hls0; simp at hls0)
        have hlsl : (encSs ls).length = ls.length := encSs_len ls
        have e1 : decide (((encSs ls).length : Int) > 0) = true := by simp; omega
        refine g1 ?_
        refine s_call rfl rfl rfl ca12 ?_
        refine (c12 2 ⟨by first | decide | omega, by first | decide | omega⟩ hl hk2 (k := k2) (tg := tg) hpp).mono ?_
        rintro _ _ ⟨m3, k3, hm3, hk3, rfl, rfl⟩
        refine back trivial ?_
        rcases (show m3 = 0 ∨ m3 = 1 by omega) with rfl | rfl
        · refine g1 ?_
          exact fin_at atss (.ret _ _ wkk) ⟨_, k3, ⟨_, .token _ _ _ hct (.inl rfl), rfl⟩, hk3, rfl, rfl⟩
        · refine g1 ?_
          refine s_call rfl rfl rfl ca12 ?_
          refine (c12 _ ⟨by first | decide | omega, by first | decide | omega⟩ hl hk3 (k := k3) (tg := tg) hpp).mono ?_
          rintro _ _ ⟨m4, k4, hm4, hk4, rfl, rfl⟩
          refine back trivial ?_
          refine g1 ?_
          obtain ⟨y1, hy1, hrow1⟩ := str_row (l := ls) (m := m4) (by omega)
          refine s_ia rfl (tt rfl) (tt rfl) rfl rfl rfl (fun _ => rfl) (by omega) hrow1 ?_
          refine g1 ?_
          exact fin_at atss (.ret _ _ wkk) ⟨_, k4, ⟨_, .token _ _ _ hct (.inr (hlab _ hy1)), rfl⟩, hk4, rfl, rfl⟩
    · refine g1 ?_
      refine s_call rfl rfl rfl ca77 ?_
      refine (c77 hlab hl hls hsz _ k1 hk1 hpp).mono ?_
      rintro _ _ ⟨_, k2, ⟨c, hct, rfl⟩, hk2, rfl, rfl⟩
      obtain ⟨o1, n1, a1, v1, l1, f1, kd1⟩ := c
      refine back trivial ?_
      refine g1 ?_
      refine s_alloc (tt rfl) fun b8 hb8 => ⟨trivial, ?_⟩
      try simp only [set_next, new_next] at hb8
      rcases hls0 with hls0 | hls0
      · subst hls0
        refine g1 ?_
        exact fin_at atss (.ret _ _ wkk) ⟨_, k2, ⟨_, .token _ _ _ hct (.inl rfl), rfl⟩, hk2, rfl, rfl⟩
      · obtain rfl : sz = 1 := hsz.resolve_right (fun e => by rw [e] at hls0; simp at hls0)
        have hlsl : (encSs ls).length = ls.length := encSs_len ls
        have e1 : decide (((encSs ls).length : Int) > 0) = true := by simp; omega
        refine g1 ?_
        refine s_call rfl rfl rfl ca12 ?_
        refine (c12 2 ⟨by first | decide | omega, by first | decide | omega⟩ hl hk2 (k := k2) (tg := tg) hpp).mono ?_
        rintro _ _ ⟨m3, k3, hm3, hk3, rfl, rfl⟩
        refine back trivial ?_
        rcases (show m3 = 0 ∨ m3 = 1 by omega) with rfl | rfl
        · refine g1 ?_
          exact fin_at atss (.ret _ _ wkk) ⟨_, k3, ⟨_, .token _ _ _ hct (.inl rfl), rfl⟩, hk3, rfl, rfl⟩
        · refine g1 ?_
          refine s_call rfl rfl rfl ca12 ?_
          refine (c12 _ ⟨by first | decide | omega, by first | decide | omega⟩ hl hk3 (k := k3) (tg := tg) hpp).mono ?_
          rintro _ _ ⟨m4, k4, hm4, hk4, rfl, rfl⟩
          refine back trivial ?_
          refine g1 ?_
          obtain ⟨y1, hy1, hrow1⟩ := str_row (l := ls) (m := m4) (by omega)
          refine s_ia rfl (tt rfl) (tt rfl) rfl rfl rfl (fun _ => rfl) (by omega) hrow1 ?_
          refine g1 ?_
          exact fin_at atss (.ret _ _ wkk) ⟨_, k4, ⟨_, .token _ _ _ hct (.inr (hlab _ hy1)), rfl⟩, hk4, rfl, rfl⟩
    · refine g1 ?_
      refine s_call rfl rfl rfl ca77 ?_
      refine (c77 hlab hl hls hsz _ k1 hk1 hpp).mono ?_
      rintro _ _ ⟨_, k2, ⟨c, hct, rfl⟩, hk2, rfl, rfl⟩
      obtain ⟨o1, n1, a1, v1, l1, f1, kd1⟩ := c
      refine back trivial ?_
      refine g1 ?_
      refine s_alloc (tt rfl) fun b8 hb8 => ⟨trivial, ?_⟩
      try simp only [set_next, new_next] at hb8
      rcases hls0 with hls0 | hls0
      · subst hls0
        refine g1 ?_
        exact fin_at atss (.ret _ _ wkk) ⟨_, k2, ⟨_, .token _ _ _ hct (.inl rfl), rfl⟩, hk2, rfl, rfl⟩
      · obtain rfl : sz = 1 := hsz.resolve_right (fun e => by rw [e] at hls0; simp at hls0)
        have hlsl : (encSs ls).length = ls.length := encSs_len ls
        have e1 : decide (((encSs ls).length : Int) > 0) = true := by simp; omega
        refine g1 ?_
        refine s_call rfl rfl rfl ca12 ?_
        refine (c12 2 ⟨by first | decide | omega, by first | decide | omega⟩ hl hk2 (k := k2) (tg := tg) hpp).mono ?_
        rintro _ _ ⟨m3, k3, hm3, hk3, rfl, rfl⟩
        refine back trivial ?_
        rcases (show m3 = 0 ∨ m3 = 1 by omega) with rfl | rfl
        · refine g1 ?_
          exact fin_at atss (.ret _ _ wkk) ⟨_, k3, ⟨_, .token _ _ _ hct (.inl rfl), rfl⟩, hk3, rfl, rfl⟩
        · refine g1 ?_
          refine s_call rfl rfl rfl ca12 ?_
          refine (c12 _ ⟨by first | decide | omega, by first | decide | omega⟩ hl hk3 (k := k3) (tg := tg) hpp).mono ?_
          rintro _ _ ⟨m4, k4, hm4, hk4, rfl, rfl⟩
          refine back trivial ?_
          refine g1 ?_
          obtain ⟨y1, hy1, hrow1⟩ := str_row (l := ls) (m := m4) (by omega)
          refine s_ia rfl (tt rfl) (tt rfl) rfl rfl rfl (fun _ => rfl) (by omega) hrow1 ?_
          refine g1 ?_
          exact fin_at atss (.ret _ _ wkk) ⟨_, k4, ⟨_, .token _ _ _ hct (.inr (hlab _ hy1)), rfl⟩, hk4, rfl, rfl⟩
    · refine g1 ?_
      refine s_call rfl rfl rfl ca77 ?_
      refine (c77 hlab hl hls hsz _ k1 hk1 hpp).mono ?_
      rintro _ _ ⟨_, k2, ⟨c, hct, rfl⟩, hk2, rfl, rfl⟩
      obtain ⟨o1, n1, a1, v1, l1, f1, kd1⟩ := c
      refine back trivial ?_
      refine g1 ?_
      refine s_alloc (tt rfl) fun b8 hb8 => ⟨trivial, ?_⟩
      try simp only [set_next, new_next] at hb8
      rcases hls0 with hls0 | hls0
      · subst hls0
        refine g1 ?_
        exact fin_at atss (.ret _ _ wkk) ⟨_, k2, ⟨_, .token _ _ _ hct (.inl rfl), rfl⟩, hk2, rfl, rfl⟩
      · obtain rfl : sz = 1 := hsz.resolve_right (fun e => by rw [e] at hls0; simp at hls0)
        have hlsl : (encSs ls).length = ls.length := encSs_len ls
        have e1 : decide (((encSs ls).length : Int) > 0) = true := by simp; omega
        refine g1 ?_
        refine s_call rfl rfl rfl ca12 ?_
        refine (c12 2 ⟨by first | decide | omega, by first | decide | omega⟩ hl hk2 (k := k2) (tg := tg) hpp).mono ?_
        rintro _ _ ⟨m3, k3, hm3, hk3, rfl, rfl⟩
        refine back trivial ?_
        rcases (show m3 = 0 ∨ m3 = 1 by omega) with rfl | rfl
        · refine g1 ?_
          exact fin_at atss (.ret _ _ wkk) ⟨_, k3, ⟨_, .token _ _ _ hct (.inl rfl), rfl⟩, hk3, rfl, rfl⟩
        · refine g1 ?_
          refine s_call rfl rfl rfl ca12 ?_
          refine (c12 _ ⟨by first | decide | omega, by first | decide | omega⟩ hl hk3 (k := k3) (tg := tg) hpp).mono ?_
          rintro _ _ ⟨m4, k4, hm4, hk4, rfl, rfl⟩
          refine back trivial ?_
          refine g1 ?_
          obtain ⟨y1, hy1, hrow1⟩ := str_row (l := ls) (m := m4) (by omega)
          refine s_ia rfl (tt rfl) (tt rfl) rfl rfl rfl (fun _ => rfl) (by omega) hrow1 ?_
          refine g1 ?_
          exact fin_at atss (.ret _ _ wkk) ⟨_, k4, ⟨_, .token _ _ _ hct (.inr (hlab _ hy1)), rfl⟩, hk4, rfl, rfl⟩
    · refine g1 ?_
      refine s_call rfl rfl rfl ca77 ?_
      refine (c77 hlab hl hls hsz _ k1 hk1 hpp).mono ?_
      rintro _ _ ⟨_, k2, ⟨c, hct, rfl⟩, hk2, rfl, rfl⟩
      obtain ⟨o1, n1, a1, v1, l1, f1, kd1⟩ := c
      refine back trivial ?_
      refine g1 ?_
      refine s_alloc (tt rfl) fun b8 hb8 => ⟨trivial, ?_⟩
      try simp only [set_next, new_next] at hb8
      rcases hls0 with hls0 | hls0
      · subst hls0
        refine g1 ?_
        exact fin_at atss (.ret _ _ wkk) ⟨_, k2, ⟨_, .token _ _ _ hct (.inl rfl), rfl⟩, hk2, rfl, rfl⟩
      · obtain rfl : sz = 1 := hsz.resolve_right (fun e => by rw [e] at hls0; simp at hls0)
        have hlsl : (encSs ls).length = ls.length := encSs_len ls
        have e1 : decide (((encSs ls).length : Int) > 0) = true := by simp; omega
        refine g1 ?_
        refine s_call rfl rfl rfl ca12 ?_
        refine (c12 2 ⟨by first | decide | omega, by first | decide | omega⟩ hl hk2 (k := k2) (tg := tg) hpp).mono ?_
        rintro _ _ ⟨m3, k3, hm3, hk3, rfl, rfl⟩
        refine back trivial ?_
        rcases (show m3 = 0 ∨ m3 = 1 by omega) with rfl | rfl
        · refine g1 ?_
          exact fin_at atss (.ret _ _ wkk) ⟨_, k3, ⟨_, .token _ _ _ hct (.inl rfl), rfl⟩, hk3, rfl, rfl⟩
        · refine g1 ?_
          refine s_call rfl rfl rfl ca12 ?_
          refine (c12 _ ⟨by first | decide | omega, by first | decide | omega⟩ hl hk3 (k := k3) (tg := tg) hpp).mono ?_
          rintro _ _ ⟨m4, k4, hm4, hk4, rfl, rfl⟩
          refine back trivial ?_
          refine g1 ?_
          obtain ⟨y1, hy1, hrow1⟩ := str_row (l := ls) (m := m4) (by omega)
          refine s_ia rfl (tt rfl) (tt rfl) rfl rfl rfl (fun _ => rfl) (by omega) hrow1 ?_
          refine g1 ?_
          exact fin_at atss (.ret _ _ wkk) ⟨_, k4, ⟨_, .token _ _ _ hct (.inr (hlab _ hy1)), rfl⟩, hk4, rfl, rfl⟩
    · refine g1 ?_
      refine s_call rfl rfl rfl ca12 ?_
      refine (c12 3 ⟨by first | decide | omega, by first | decide | omega⟩ hl hk1 (k := k1) (tg := tg) hpp).mono ?_
      rintro _ _ ⟨m2, k2, hm2, hk2, rfl, rfl⟩
      refine back trivial ?_
      refine g1 ?_
      refine s_call rfl rfl rfl ca78 ?_
      refine (c78 _).mono ?_
      rintro _ _ ⟨ty, hty, rfl, hh⟩
      obtain rfl := hh.symm
      refine back trivial ?_
      refine g1 ?_
      exact fin_at atss (.ret _ _ wkk) ⟨_, k2, ⟨_, .edge _ _ ty (.inl (by decide)) hty, rfl⟩, hk2, rfl, rfl⟩
    · refine g1 ?_
      refine s_call rfl rfl rfl ca12 ?_
      refine (c12 3 ⟨by first | decide | omega, by first | decide | omega⟩ hl hk1 (k := k1) (tg := tg) hpp).mono ?_
      rintro _ _ ⟨m2, k2, hm2, hk2, rfl, rfl⟩
      refine back trivial ?_
      refine g1 ?_
      refine s_call rfl rfl rfl ca78 ?_
      refine (c78 _).mono ?_
      rintro _ _ ⟨ty, hty, rfl, hh⟩
      obtain rfl := hh.symm
      refine back trivial ?_
      refine g1 ?_
      exact fin_at atss (.ret _ _ wkk) ⟨_, k2, ⟨_, .edge _ _ ty (.inr (by decide)) hty, rfl⟩, hk2, rfl, rfl⟩
    · refine g1 ?_
      refine s_call rfl rfl rfl ca26 ?_
      refine (ih' _ k1 hk1 hpp).mono ?_
      rintro _ _ ⟨_, k2, ⟨c, hc, rfl⟩, hk2, rfl, rfl⟩
      obtain ⟨o1, ⟨p1, p2, p3, p4, p5, p6, p7⟩, r1, r2, r3, r4, r5⟩ := c
      refine back trivial ?_
      refine g1 ?_
      refine s_call rfl rfl rfl ca26 ?_
      refine (ih' _ k2 hk2 hpp).mono ?_
      rintro _ _ ⟨_, k3, ⟨c', hc', rfl⟩, hk3, rfl, rfl⟩
      obtain ⟨o1', ⟨p1', p2', p3', p4', p5', p6', p7'⟩, r1', r2', r3', r4', r5'⟩ := c'
      refine back trivial ?_
      refine g1 ?_
      exact fin_at atss (.ret _ _ wkk) ⟨_, k3, ⟨_, .two _ _ _ _ (.inl rfl) hc hc', rfl⟩, hk3, rfl, rfl⟩
    · refine g1 ?_
      refine s_call rfl rfl rfl ca26 ?_
      refine (ih' _ k1 hk1 hpp).mono ?_
      rintro _ _ ⟨_, k2, ⟨c, hc, rfl⟩, hk2, rfl, rfl⟩
      obtain ⟨o1, ⟨p1, p2, p3, p4, p5, p6, p7⟩, r1, r2, r3, r4, r5⟩ := c
      refine back trivial ?_
      refine g1 ?_
      refine s_call rfl rfl rfl ca26 ?_
      refine (ih' _ k2 hk2 hpp).mono ?_
      rintro _ _ ⟨_, k3, ⟨c', hc', rfl⟩, hk3, rfl, rfl⟩
      obtain ⟨o1', ⟨p1', p2', p3', p4', p5', p6', p7'⟩, r1', r2', r3', r4', r5'⟩ := c'
      refine back trivial ?_
      refine g1 ?_
      exact fin_at atss (.ret _ _ wkk) ⟨_, k3, ⟨_, .two _ _ _ _ (.inl rfl) hc hc', rfl⟩, hk3, rfl, rfl⟩
    · refine g1 ?_
      refine s_call rfl rfl rfl ca26 ?_
      refine (ih' _ k1 hk1 hpp).mono ?_
      rintro _ _ ⟨_, k2, ⟨c, hc, rfl⟩, hk2, rfl, rfl⟩
      obtain ⟨o1, ⟨p1, p2, p3, p4, p5, p6, p7⟩, r1, r2, r3, r4, r5⟩ := c
      refine back trivial ?_
      refine g1 ?_
      refine s_call rfl rfl rfl ca26 ?_
      refine (ih' _ k2 hk2 hpp).mono ?_
      rintro _ _ ⟨_, k3, ⟨c', hc', rfl⟩, hk3, rfl, rfl⟩
      obtain ⟨o1', ⟨p1', p2', p3', p4', p5', p6', p7'⟩, r1', r2', r3', r4', r5'⟩ := c'
      refine back trivial ?_
      refine g1 ?_
      exact fin_at atss (.ret _ _ wkk) ⟨_, k3, ⟨_, .two _ _ _ _ (.inl rfl) hc hc', rfl⟩, hk3, rfl, rfl⟩
    · refine g1 ?_
      refine s_call rfl rfl rfl ca26 ?_
      refine (ih' _ k1 hk1 hpp).mono ?_
      rintro _ _ ⟨_, k2, ⟨c, hc, rfl⟩, hk2, rfl, rfl⟩
      obtain ⟨o1, ⟨p1, p2, p3, p4, p5, p6, p7⟩, r1, r2, r3, r4, r5⟩ := c
      refine back trivial ?_
      refine g1 ?_
      refine s_call rfl rfl rfl ca26 ?_
      refine (ih' _ k2 hk2 hpp).mono ?_
      rintro _ _ ⟨_, k3, ⟨c', hc', rfl⟩, hk3, rfl, rfl⟩
      obtain ⟨o1', ⟨p1', p2', p3', p4', p5', p6', p7'⟩, r1', r2', r3', r4', r5'⟩ := c'
      refine back trivial ?_
      refine g1 ?_
      exact fin_at atss (.ret _ _ wkk) ⟨_, k3, ⟨_, .two _ _ _ _ (.inr rfl) hc hc', rfl⟩, hk3, rfl, rfl⟩
    · refine g1 ?_
      refine s_call rfl rfl rfl ca26 ?_
      refine (ih' _ k1 hk1 hpp).mono ?_
      rintro _ _ ⟨_, k2, ⟨c, hc, rfl⟩, hk2, rfl, rfl⟩
      obtain ⟨o1, ⟨p1, p2, p3, p4, p5, p6, p7⟩, r1, r2, r3, r4, r5⟩ := c
      refine back trivial ?_
      refine g1 ?_
      refine s_call rfl rfl rfl ca26 ?_
      refine (ih' _ k2 hk2 hpp).mono ?_
      rintro _ _ ⟨_, k3, ⟨c', hc', rfl⟩, hk3, rfl, rfl⟩
      obtain ⟨o1', ⟨p1', p2', p3', p4', p5', p6', p7'⟩, r1', r2', r3', r4', r5'⟩ := c'
      refine back trivial ?_
      refine g1 ?_
      exact fin_at atss (.ret _ _ wkk) ⟨_, k3, ⟨_, .two _ _ _ _ (.inr rfl) hc hc', rfl⟩, hk3, rfl, rfl⟩
    · refine g1 ?_
      iterate 8 (apply s_gen @tt2; exact rfl; exact rfl; exact trivial)
      refine g1 ?_
      refine s_call rfl rfl rfl ca12 ?_
      refine (c12 7 ⟨by first | decide | omega, by first | decide | omega⟩ hl hk1 (k := k1) (tg := tg) hpp).mono ?_
      rintro _ _ ⟨m2, k2, hm2, hk2, rfl, rfl⟩
      refine back trivial ?_
      obtain ⟨lo, hi, hr, hrow⟩ := rep_row (m := m2) (by omega)
      refine s_ia rfl (tt2 rfl) (tt2 rfl) rfl rfl rfl (fun _ => rfl) (by omega) hrow ?_
      (apply s_gen @tt2; exact rfl; exact rfl; first | exact trivial | omega | simp)
      refine s_alloc (tt2 rfl) fun b9 hb9 => ⟨trivial, ?_⟩
      simp only [set_next, new_next] at hb9
      (apply s_store; exact tt2 rfl; exact rfl; exact rfl; exact hpp; exact rfl; exact rfl; exact rfl; exact rfl; refine ⟨trivial, ?_⟩)
      refine g1 ?_
      (apply s_gen @tt2; exact rfl; exact rfl; first | exact trivial | omega | simp)
      refine g1 ?_
      (apply s_gen @tt2; exact rfl; exact rfl; first | exact trivial | omega | simp)
      refine g1 ?_
      refine s_call rfl rfl rfl ca26 ?_
      refine (ih' _ k2 hk2 hpp).mono ?_
      rintro _ _ ⟨_, k3, ⟨c, hct, rfl⟩, hk3, rfl, rfl⟩
      obtain ⟨o1, ⟨p1, p2, p3, p4, p5, p6, p7⟩, r1, r2, r3, r4, r5⟩ := c
      refine back ⟨rk_load (tt rfl) rfl rfl hpp rfl rfl rfl, rk_load (tt rfl) rfl rfl hpp rfl rfl rfl, trivial⟩ ?_
      refine g1 ?_
      exact fin_at atss (.ret _ _ wkk) ⟨_, k3, ⟨_, .rep _ _ _ _ hr hct, rfl⟩, hk3, rfl, rfl⟩
    · refine g1 ?_
      iterate 8 (apply s_gen @tt2; exact rfl; exact rfl; exact trivial)
      refine g1 ?_
      refine s_call rfl rfl rfl ca12 ?_
      refine (c12 7 ⟨by first | decide | omega, by first | decide | omega⟩ hl hk1 (k := k1) (tg := tg) hpp).mono ?_
      rintro _ _ ⟨m2, k2, hm2, hk2, rfl, rfl⟩
      refine back trivial ?_
      obtain ⟨lo, hi, hr, hrow⟩ := rep_row (m := m2) (by omega)
      refine s_ia rfl (tt2 rfl) (tt2 rfl) rfl rfl rfl (fun _ => rfl) (by omega) hrow ?_
      (apply s_gen @tt2; exact rfl; exact rfl; first | exact trivial | omega | simp)
      refine s_alloc (tt2 rfl) fun b9 hb9 => ⟨trivial, ?_⟩
      simp only [set_next, new_next] at hb9
      (apply s_store; exact tt2 rfl; exact rfl; exact rfl; exact hpp; exact rfl; exact rfl; exact rfl; exact rfl; refine ⟨trivial, ?_⟩)
      refine g1 ?_
      (apply s_gen @tt2; exact rfl; exact rfl; first | exact trivial | omega | simp)
      refine g1 ?_
      (apply s_gen @tt2; exact rfl; exact rfl; first | exact trivial | omega | simp)
      refine g1 ?_
      refine s_call rfl rfl rfl ca26 ?_
      refine (ih' _ k2 hk2 hpp).mono ?_
      rintro _ _ ⟨_, k3, ⟨c, hct, rfl⟩, hk3, rfl, rfl⟩
      obtain ⟨o1, ⟨p1, p2, p3, p4, p5, p6, p7⟩, r1, r2, r3, r4, r5⟩ := c
      refine back ⟨rk_load (tt rfl) rfl rfl hpp rfl rfl rfl, rk_load (tt rfl) rfl rfl hpp rfl rfl rfl, trivial⟩ ?_
      refine g1 ?_
      exact fin_at atss (.ret _ _ wkk) ⟨_, k3, ⟨_, .rep _ _ _ _ hr hct, rfl⟩, hk3, rfl, rfl⟩
end
end Go.Proofs

/- Sizes and widths of the patterns that the generator makes, in plain Lean. No conditions. -/
namespace Go.Q

def repW (lo hi : Int) (w : Int × Int) : Int × Int := (w.1 * lo, if hi = 0 ∨ w.2 = 0 then 0 else if hi < 0 ∨ w.2 < 0 then -1 else w.2 * hi)
def twoW (op : Int) (w v : Int × Int) : Int × Int :=
  if op = 4 then (w.1 + v.1, if w.2 < 0 ∨ v.2 < 0 then -1 else w.2 + v.2) else (min w.1 v.1, if w.2 < 0 ∨ v.2 < 0 then -1 else max w.2 v.2)
mutual
def widP : Pat → Int × Int
  | .mk op _ _ _ lo hi kids => combW op lo hi (widPs kids)
def widPs : List Pat → List (Int × Int)
  | [] => []
  | p :: r => widP p :: widPs r
def combW (op lo hi : Int) : List (Int × Int) → Int × Int
  | [w] => repW lo hi w
  | [w, v] => twoW op w v
  | _ => if op = 1 then (1, 1) else (0, 0)
end

variable {lab : Str → Prop}
theorem wid_two {op : Int} {p q : Pat} : widP (.mk op .zero [] [] 0 0 [p, q]) = twoW op (widP p) (widP q) := by simp [widP, widPs, combW]
theorem wid_rep {lo hi : Int} {p : Pat} : widP (.mk 6 .zero [] [] lo hi [p]) = repW lo hi (widP p) := by simp [widP, widPs, combW]

/-- Bounds by the depth. -/
structure WB (B : Int) (w : Int × Int) : Prop where
  l0 : 0 ≤ w.1
  l1 : w.1 ≤ B
  h0 : -1 ≤ w.2
  h1 : w.2 ≤ B

theorem reps7_few : ∀ r, r ∈ reps7 → 0 ≤ r.1 ∧ r.1 ≤ 2 ∧ -1 ≤ r.2 ∧ r.2 ≤ 3 := by decide

theorem GP.wb {n : Nat} {p : Pat} (h : GP lab n p) : WB (3 ^ n) (widP p) := by
  have hpos : ∀ n : Nat, (1 : Int) ≤ 3 ^ n := fun n => by
    have : (0 : Int) < 3 ^ n := Int.pow_pos (by decide)
    omega
  induction h with
  | token n c label _ _ => have := hpos n; exact ⟨by simp [widP, widPs, combW], by simp [widP, widPs, combW]; omega, by simp [widP, widPs, combW], by simp [widP, widPs, combW]; omega⟩
  | edge n op ty ho _ => have := hpos n; rcases ho with rfl | rfl <;> exact ⟨by simp [widP, widPs, combW], by simp [widP, widPs, combW]; omega, by simp [widP, widPs, combW], by simp [widP, widPs, combW]; omega⟩
  | two n op p q ho _ _ i1 i2 =>
    obtain ⟨a1, a2, a3, a4⟩ := i1
    obtain ⟨b1, b2, b3, b4⟩ := i2
    rw [wid_two]
    have hp : (3 : Int) ^ (n + 1) = 3 ^ n * 3 := Int.pow_succ ..
    have := hpos n
    rcases ho with rfl | rfl
    · refine ⟨?_, ?_, ?_, ?_⟩ <;> simp only [twoW, if_true] <;> (try split) <;> omega
    · refine ⟨?_, ?_, ?_, ?_⟩ <;> simp only [twoW] <;> rw [if_neg (by decide)] <;> (try simp only) <;> (try split) <;> omega
  | rep n lo hi p hr _ ih =>
    obtain ⟨a1, a2, a3, a4⟩ := ih
    rw [wid_rep]
    obtain ⟨r1, r2, r3, r4⟩ := reps7_few _ hr
    simp only at r1 r2 r3 r4
    have hp : (3 : Int) ^ (n + 1) = 3 ^ n * 3 := Int.pow_succ ..
    have := hpos n
    have m1 : 0 ≤ (widP p).1 * lo := Int.mul_nonneg a1 r1
    have m2 : (widP p).1 * lo ≤ 3 ^ n * 3 := Int.mul_le_mul a2 (by omega) r1 (by omega)
    refine ⟨m1, by rw [hp]; exact m2, ?_, ?_⟩
    · simp only [repW]
      split
      · omega
      · split
        · omega
        · have : 0 ≤ (widP p).2 * hi := Int.mul_nonneg (by omega) (by omega)
          omega
    · simp only [repW]
      rw [hp]
      split
      · omega
      · split
        · omega
        · exact Int.mul_le_mul a4 r4 (by omega) (by omega)

theorem size_two {op : Int} {p q : Pat} (ho : op = 4 ∨ op = 5) (hp : 0 ≤ sizeP p) (hq : 0 ≤ sizeP q) (h : sizeP p + sizeP q ≤ 1000) : sizeP (.mk op .zero [] [] 0 0 [p, q]) = sizeP p + sizeP q := by
  rcases ho with rfl | rfl <;> simp [sizeP, sizePs] <;> omega

theorem GP.sb {n : Nat} {p : Pat} (h : GP lab n p) : n ≤ 4 → 0 ≤ sizeP p ∧ sizeP p ≤ 3 ^ n := by
  have hpos : ∀ n : Nat, (1 : Int) ≤ 3 ^ n := fun n => by
    have : (0 : Int) < 3 ^ n := Int.pow_pos (by decide)
    omega
  have h81 : ∀ n : Nat, n ≤ 3 → (3 : Int) ^ n ≤ 27 := fun n hn => by
    rcases (show n = 0 ∨ n = 1 ∨ n = 2 ∨ n = 3 by omega) with rfl | rfl | rfl | rfl <;> decide
  induction h with
  | token n c label _ _ => intro _; have := hpos n; simp [sizeP]; omega
  | edge n op ty ho _ => intro _; have := hpos n; simp [sizeP]; omega
  | two n op p q ho _ _ i1 i2 =>
    intro hn
    obtain ⟨a1, a2⟩ := i1 (by omega)
    obtain ⟨b1, b2⟩ := i2 (by omega)
    have h3 := h81 n (by omega)
    have hp : (3 : Int) ^ (n + 1) = 3 ^ n * 3 := Int.pow_succ ..
    rw [size_two ho a1 b1 (by omega)]
    omega
  | rep n lo hi p hr _ ih =>
    intro hn
    obtain ⟨a1, a2⟩ := ih (by omega)
    obtain ⟨r1, r2, r3, r4⟩ := reps7_few _ hr
    simp only at r1 r2 r3 r4
    have h3 := h81 n (by omega)
    have hp : (3 : Int) ^ (n + 1) = 3 ^ n * 3 := Int.pow_succ ..
    have hs : sizePs [p] 0 = sizeP p := by simp [sizePs]; omega
    have m1 : 0 ≤ sizeP p * (lo + 1) := Int.mul_nonneg a1 (by omega)
    have m2 : sizeP p * (lo + 1) ≤ 3 ^ n * 3 := Int.mul_le_mul a2 (by omega) (by omega) (by omega)
    rw [sizeP, if_neg (by simp), hs, hp]
    split
    · omega
    · split
      · omega
      · have m3 : 0 ≤ sizeP p * hi := Int.mul_nonneg a1 (by omega)
        have m4 : sizeP p * hi ≤ 3 ^ n * 3 := Int.mul_le_mul a2 r4 (by omega) (by omega)
        omega
end Go.Q
