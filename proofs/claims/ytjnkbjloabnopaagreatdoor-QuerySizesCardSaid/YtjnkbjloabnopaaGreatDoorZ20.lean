/- The statements' generator, walked: types of regions, conditions. No conditions. -/
import Derived.Test.YtjnkbjloabnopaaGreatDoorZ19
namespace Go.Proofs
open Go.Abs Go.Q
attribute [local irreducible] awp aops Run BodyQ ACalls Back
section
variable {G : Nat → Option Obj} {h : AHeap}

theorem str_row {l : List Str} {m : Nat} (hm : m < l.length) : ∃ y, y ∈ l ∧ (encSs l)[(m : Int).toNat]? = some [.str y] := by
  have hp : l[m]? = some l[m] := List.getElem?_eq_getElem hm
  refine ⟨l[m], List.getElem_mem _, ?_⟩
  rw [n0]
  show (l.map _)[m]? = _
  rw [List.getElem?_map, hp]
  rfl

/-- A load out of memory that never turns reads what it read. -/
theorem rk_loadc {P : Program} {e : Env} {d T : Nat} {i : TI} {x : Operand} {cs : List AVal} {c : Bool} {v : AVal} (ht : tyi P T = some i) (hx : Abs.look e x = some (c, .cptr cs)) (hc : c = true) (hl : aload i cs = some v) (hd : e.get d = some (true, v)) : reload P h e ⟨some d, .load T x, none⟩ := by
  have h1 : aread P h e true (.load T x) = some (true = true → condsL e (Op.load T x).operands.toList ∧ True, v) :=
    aread_of (g := true) (by simp) (by simp only [ard, ht, lookv_of hx, ACellsAt, hl]; rfl)
  simp only [reload, gcond, h1]
  exact ⟨fun _ => ⟨fun _ => ⟨condsB_iff (c1 hx (fun _ => hc) (g := true) rfl), trivial⟩, hd⟩, fun hf => by cases hf⟩

theorem c78 (x : Int) : ACalls Tryz.prog G 78 [.int .i64 x] h (fun out h' => ∃ ty, ty ∈ types3 ∧ out = .ret (.str ty) ∧ h' = h) := by
  refine en78 (by simp) fun hw => ?_
  refine g1 ?_
  refine s_call rfl rfl rfl ca19 ?_
  refine (c19 x 3 ⟨by decide, by decide⟩).mono ?_
  rintro _ _ ⟨m, hm, rfl, hh⟩
  obtain rfl := hh.symm
  refine back trivial ?_
  refine g1 ?_
  obtain ⟨y, hy, hrow⟩ := str_row (l := types3) (m := m) (show m < 3 by omega)
  refine s_ia rfl (tt rfl) (tt rfl) rfl rfl rfl (fun _ => rfl) (by omega) hrow ?_
  refine g1 ?_
  exact ⟨y, hy, rfl, rfl⟩

/-- What a function of the generator does: it deals numbers, and returns such a value. -/
def Gen (g : Nat) (l : List Int) (tg : Tag) (φ : AVal → Prop) (h : AHeap) : AOut → AHeap → Prop := fun out h' => ∃ (v : AVal) (k' : Nat), φ v ∧ k' ≤ l.length ∧ out = .ret v ∧ h' = h.set g (tape l k' tg)


theorem memW : ∀ y, y ∈ ([[119, 111, 114, 100], [119, 111, 114, 100], [116, 97, 103]] : List Str) → y ∈ attr2 := by decide
theorem memV : ∀ y, y ∈ ([[97], [98], [97, 46, 42], [91, 97, 98, 93], [88], [], [99, 63], [97, 124, 98]] : List Str) → y ∈ vals8 := by decide
theorem memV4 : ∀ y, y ∈ ([[97], [98], [97, 46, 42], [91, 97, 98, 93]] : List Str) → y ∈ vals8 := by decide

set_option maxHeartbeats 4000000 in
/-- Conditions with a name. -/
theorem c145 {lab : Str → Prop} {g sz : Nat} {l : List Int} {tg tl : Tag} {ls : List Str} (hlab : ∀ x, x ∈ ls → lab x) (hl : l.length ≤ 120) (hls : ls.length ≤ 1000) (hsz : sz = 1 ∨ ls = []) :
    ∀ (d : Nat), d ≤ 10 → ∀ (h : AHeap) (k : Nat), k ≤ l.length → h.get g = some (tape l k tg) →
      ACalls Tryz.prog G 145 [.ptr g 0, .int .i64 d, .sl sz (encSs ls) tl] h (Gen g l tg (fun v => ∃ c, GC lab d c ∧ v = encCa c) h) := by
  have hls0 : ls = [] ∨ 0 < ls.length := by
    cases ls with
    | nil => exact .inl rfl
    | cons a b => exact .inr (by simp)
  intro d
  induction d with
  | zero =>
    intro hd h k hk hg
    refine ACalls.fin (en145 (by simp) fun hw => ?_)
    have hgl := hw _ _ hg
    refine g1 ?_
    refine s_alloc (tt rfl) fun b6 hb6 => ⟨trivial, ?_⟩
    try simp only [set_next, new_next] at hb6
    refine g1 ?_
    refine s_call rfl rfl rfl ca12 ?_
    refine (c12 12 ⟨by first | decide | omega, by first | decide | omega⟩ hl hk (k := k) (tg := tg) hpp).mono ?_
    rintro _ _ ⟨m, k1, hm, hk1, rfl, rfl⟩
    refine back trivial ?_
    rcases (show m = 0 ∨ m = 1 ∨ m = 2 ∨ m = 3 ∨ m = 4 ∨ m = 5 ∨ m = 6 ∨ m = 7 ∨ m = 8 ∨ m = 9 ∨ m = 10 ∨ m = 11 by omega) with rfl | rfl | rfl | rfl | rfl | rfl | rfl | rfl | rfl | rfl | rfl | rfl
    · refine g1 ?_
      refine s_call rfl rfl rfl ca12 ?_
      refine (c12 3 ⟨by first | decide | omega, by first | decide | omega⟩ hl hk1 (k := k1) (tg := tg) hpp).mono ?_
      rintro _ _ ⟨m2, k2, hm2, hk2, rfl, rfl⟩
      refine back trivial ?_
      refine g1 ?_
      obtain ⟨y1, hy1, hrow1⟩ := str_row (l := [[119, 111, 114, 100], [119, 111, 114, 100], [116, 97, 103]]) (m := m2) (show m2 < 3 by omega)
      refine s_ia rfl (tt rfl) (tt rfl) rfl rfl rfl (fun _ => rfl) (by omega) hrow1 ?_
      refine g1 ?_
      refine s_call rfl rfl rfl ca12 ?_
      refine (c12 8 ⟨by first | decide | omega, by first | decide | omega⟩ hl hk2 (k := k2) (tg := tg) hpp).mono ?_
      rintro _ _ ⟨m3, k3, hm3, hk3, rfl, rfl⟩
      refine back ⟨rk_loadc (tt rfl) rfl rfl rfl rfl, trivial⟩ ?_
      refine g1 ?_
      obtain ⟨y2, hy2, hrow2⟩ := str_row (l := [[97], [98], [97, 46, 42], [91, 97, 98, 93], [88], [], [99, 63], [97, 124, 98]]) (m := m3) (show m3 < 8 by omega)
      refine s_ia rfl (tt rfl) (tt rfl) rfl rfl rfl (fun _ => rfl) (by omega) hrow2 ?_
      refine g1 ?_
      refine s_call rfl rfl rfl ca12 ?_
      refine (c12 3 ⟨by first | decide | omega, by first | decide | omega⟩ hl hk3 (k := k3) (tg := tg) hpp).mono ?_
      rintro _ _ ⟨m4, k4, hm4, hk4, rfl, rfl⟩
      refine back ⟨rk_loadc (tt rfl) rfl rfl rfl rfl, rk_loadc (tt rfl) rfl rfl rfl rfl, trivial⟩ ?_
      refine g1 ?_
      exact fin_at atss (.ret _ _ wkk) ⟨_, k4, ⟨_, .value _ y1 y2 _ (memW _ hy1) (memV _ hy2), rfl⟩, hk4, rfl, rfl⟩
    · refine g1 ?_
      refine s_call rfl rfl rfl ca12 ?_
      refine (c12 3 ⟨by first | decide | omega, by first | decide | omega⟩ hl hk1 (k := k1) (tg := tg) hpp).mono ?_
      rintro _ _ ⟨m2, k2, hm2, hk2, rfl, rfl⟩
      refine back trivial ?_
      refine g1 ?_
      obtain ⟨y1, hy1, hrow1⟩ := str_row (l := [[119, 111, 114, 100], [119, 111, 114, 100], [116, 97, 103]]) (m := m2) (show m2 < 3 by omega)
      refine s_ia rfl (tt rfl) (tt rfl) rfl rfl rfl (fun _ => rfl) (by omega) hrow1 ?_
      refine g1 ?_
      refine s_call rfl rfl rfl ca12 ?_
      refine (c12 8 ⟨by first | decide | omega, by first | decide | omega⟩ hl hk2 (k := k2) (tg := tg) hpp).mono ?_
      rintro _ _ ⟨m3, k3, hm3, hk3, rfl, rfl⟩
      refine back ⟨rk_loadc (tt rfl) rfl rfl rfl rfl, trivial⟩ ?_
      refine g1 ?_
      obtain ⟨y2, hy2, hrow2⟩ := str_row (l := [[97], [98], [97, 46, 42], [91, 97, 98, 93], [88], [], [99, 63], [97, 124, 98]]) (m := m3) (show m3 < 8 by omega)
      refine s_ia rfl (tt rfl) (tt rfl) rfl rfl rfl (fun _ => rfl) (by omega) hrow2 ?_
      refine g1 ?_
      refine s_call rfl rfl rfl ca12 ?_
      refine (c12 3 ⟨by first | decide | omega, by first | decide | omega⟩ hl hk3 (k := k3) (tg := tg) hpp).mono ?_
      rintro _ _ ⟨m4, k4, hm4, hk4, rfl, rfl⟩
      refine back ⟨rk_loadc (tt rfl) rfl rfl rfl rfl, rk_loadc (tt rfl) rfl rfl rfl rfl, trivial⟩ ?_
      refine g1 ?_
      exact fin_at atss (.ret _ _ wkk) ⟨_, k4, ⟨_, .value _ y1 y2 _ (memW _ hy1) (memV _ hy2), rfl⟩, hk4, rfl, rfl⟩
    · refine g1 ?_
      refine s_call rfl rfl rfl ca12 ?_
      refine (c12 3 ⟨by first | decide | omega, by first | decide | omega⟩ hl hk1 (k := k1) (tg := tg) hpp).mono ?_
      rintro _ _ ⟨m2, k2, hm2, hk2, rfl, rfl⟩
      refine back trivial ?_
      refine g1 ?_
      obtain ⟨y1, hy1, hrow1⟩ := str_row (l := [[119, 111, 114, 100], [119, 111, 114, 100], [116, 97, 103]]) (m := m2) (show m2 < 3 by omega)
      refine s_ia rfl (tt rfl) (tt rfl) rfl rfl rfl (fun _ => rfl) (by omega) hrow1 ?_
      refine g1 ?_
      refine s_call rfl rfl rfl ca12 ?_
      refine (c12 8 ⟨by first | decide | omega, by first | decide | omega⟩ hl hk2 (k := k2) (tg := tg) hpp).mono ?_
      rintro _ _ ⟨m3, k3, hm3, hk3, rfl, rfl⟩
      refine back ⟨rk_loadc (tt rfl) rfl rfl rfl rfl, trivial⟩ ?_
      refine g1 ?_
      obtain ⟨y2, hy2, hrow2⟩ := str_row (l := [[97], [98], [97, 46, 42], [91, 97, 98, 93], [88], [], [99, 63], [97, 124, 98]]) (m := m3) (show m3 < 8 by omega)
      refine s_ia rfl (tt rfl) (tt rfl) rfl rfl rfl (fun _ => rfl) (by omega) hrow2 ?_
      refine g1 ?_
      refine s_call rfl rfl rfl ca12 ?_
      refine (c12 3 ⟨by first | decide | omega, by first | decide | omega⟩ hl hk3 (k := k3) (tg := tg) hpp).mono ?_
      rintro _ _ ⟨m4, k4, hm4, hk4, rfl, rfl⟩
      refine back ⟨rk_loadc (tt rfl) rfl rfl rfl rfl, rk_loadc (tt rfl) rfl rfl rfl rfl, trivial⟩ ?_
      refine g1 ?_
      exact fin_at atss (.ret _ _ wkk) ⟨_, k4, ⟨_, .value _ y1 y2 _ (memW _ hy1) (memV _ hy2), rfl⟩, hk4, rfl, rfl⟩
    · refine g1 ?_
      refine s_call rfl rfl rfl ca12 ?_
      refine (c12 3 ⟨by first | decide | omega, by first | decide | omega⟩ hl hk1 (k := k1) (tg := tg) hpp).mono ?_
      rintro _ _ ⟨m2, k2, hm2, hk2, rfl, rfl⟩
      refine back trivial ?_
      refine g1 ?_
      obtain ⟨y1, hy1, hrow1⟩ := str_row (l := [[119, 111, 114, 100], [119, 111, 114, 100], [116, 97, 103]]) (m := m2) (show m2 < 3 by omega)
      refine s_ia rfl (tt rfl) (tt rfl) rfl rfl rfl (fun _ => rfl) (by omega) hrow1 ?_
      refine g1 ?_
      refine s_call rfl rfl rfl ca12 ?_
      refine (c12 8 ⟨by first | decide | omega, by first | decide | omega⟩ hl hk2 (k := k2) (tg := tg) hpp).mono ?_
      rintro _ _ ⟨m3, k3, hm3, hk3, rfl, rfl⟩
      refine back ⟨rk_loadc (tt rfl) rfl rfl rfl rfl, trivial⟩ ?_
      refine g1 ?_
      obtain ⟨y2, hy2, hrow2⟩ := str_row (l := [[97], [98], [97, 46, 42], [91, 97, 98, 93], [88], [], [99, 63], [97, 124, 98]]) (m := m3) (show m3 < 8 by omega)
      refine s_ia rfl (tt rfl) (tt rfl) rfl rfl rfl (fun _ => rfl) (by omega) hrow2 ?_
      refine g1 ?_
      refine s_call rfl rfl rfl ca12 ?_
      refine (c12 3 ⟨by first | decide | omega, by first | decide | omega⟩ hl hk3 (k := k3) (tg := tg) hpp).mono ?_
      rintro _ _ ⟨m4, k4, hm4, hk4, rfl, rfl⟩
      refine back ⟨rk_loadc (tt rfl) rfl rfl rfl rfl, rk_loadc (tt rfl) rfl rfl rfl rfl, trivial⟩ ?_
      refine g1 ?_
      exact fin_at atss (.ret _ _ wkk) ⟨_, k4, ⟨_, .value _ y1 y2 _ (memW _ hy1) (memV _ hy2), rfl⟩, hk4, rfl, rfl⟩
    · refine g1 ?_
      refine s_call rfl rfl rfl ca12 ?_
      refine (c12 2 ⟨by first | decide | omega, by first | decide | omega⟩ hl hk1 (k := k1) (tg := tg) hpp).mono ?_
      rintro _ _ ⟨m2, k2, hm2, hk2, rfl, rfl⟩
      refine back trivial ?_
      refine g1 ?_
      obtain ⟨y1, hy1, hrow1⟩ := str_row (l := [[112], [113]]) (m := m2) (show m2 < 2 by omega)
      refine s_ia rfl (tt rfl) (tt rfl) rfl rfl rfl (fun _ => rfl) (by omega) hrow1 ?_
      refine g1 ?_
      exact fin_at atss (.ret _ _ wkk) ⟨_, k2, ⟨_, .feature _ y1 hy1, rfl⟩, hk2, rfl, rfl⟩
    · rcases hls0 with hls0 | hls0
      · subst hls0
        refine g1 ?_
        exact fin_at atss (.ret _ _ wkk) ⟨_, k1, ⟨_, .value _ [116, 97, 103] [89] false (by decide) (by decide), rfl⟩, hk1, rfl, rfl⟩
      · obtain rfl : sz = 1 := hsz.resolve_right (fun e => by rw [e] at hls0; simp at hls0)
        have hlsl : (encSs ls).length = ls.length := encSs_len ls
        have e1 : decide (((encSs ls).length : Int) > 0) = true := by simp; omega
        refine g1 ?_
        refine s_call rfl rfl rfl ca12 ?_
        refine (c12 2 ⟨by first | decide | omega, by first | decide | omega⟩ hl hk1 (k := k1) (tg := tg) hpp).mono ?_
        rintro _ _ ⟨m2, k2, hm2, hk2, rfl, rfl⟩
        refine back trivial ?_
        refine g1 ?_
        obtain ⟨y1, hy1, hrow1⟩ := str_row (l := attr2) (m := m2) (show m2 < 2 by omega)
        refine s_ia rfl (tt rfl) (tt rfl) rfl rfl rfl (fun _ => rfl) (by omega) hrow1 ?_
        refine g1 ?_
        refine s_call rfl rfl rfl ca12 ?_
        refine (c12 _ ⟨by first | decide | omega, by first | decide | omega⟩ hl hk2 (k := k2) (tg := tg) hpp).mono ?_
        rintro _ _ ⟨m3, k3, hm3, hk3, rfl, rfl⟩
        refine back ⟨rk_loadc (tt rfl) rfl rfl rfl rfl, trivial⟩ ?_
        refine g1 ?_
        obtain ⟨y2, hy2, hrow2⟩ := str_row (l := ls) (m := m3) (by omega)
        refine s_ia rfl (tt rfl) (tt rfl) rfl rfl rfl (fun _ => rfl) (by omega) hrow2 ?_
        refine g1 ?_
        refine s_call rfl rfl rfl ca12 ?_
        refine (c12 2 ⟨by first | decide | omega, by first | decide | omega⟩ hl hk3 (k := k3) (tg := tg) hpp).mono ?_
        rintro _ _ ⟨m4, k4, hm4, hk4, rfl, rfl⟩
        refine back ⟨rk_loadc (tt rfl) rfl rfl rfl rfl, rk_loadc (tt rfl) rfl rfl rfl rfl, trivial⟩ ?_
        refine g1 ?_
        obtain ⟨y3, hy3, hrow3⟩ := str_row (l := attr2) (m := m4) (show m4 < 2 by omega)
        refine s_ia rfl (tt rfl) (tt rfl) rfl rfl rfl (fun _ => rfl) (by omega) hrow3 ?_
        refine g1 ?_
        exact fin_at atss (.ret _ _ wkk) ⟨_, k4, ⟨_, .same _ y1 y2 y3 hy1 (hlab _ hy2) hy3, rfl⟩, hk4, rfl, rfl⟩
    · refine g1 ?_
      refine s_call rfl rfl rfl ca12 ?_
      refine (c12 3 ⟨by first | decide | omega, by first | decide | omega⟩ hl hk1 (k := k1) (tg := tg) hpp).mono ?_
      rintro _ _ ⟨m2, k2, hm2, hk2, rfl, rfl⟩
      refine back trivial ?_
      refine g1 ?_
      refine s_call rfl rfl rfl ca78 ?_
      refine (c78 _).mono ?_
      rintro _ _ ⟨ty, hty, rfl, hh⟩
      obtain rfl := hh.symm
      refine back trivial ?_
      refine g1 ?_
      refine s_alloc (tt rfl) fun b8 hb8 => ⟨trivial, ?_⟩
      try simp only [set_next, new_next] at hb8
      refine g1 ?_
      refine s_call rfl rfl rfl ca12 ?_
      refine (c12 2 ⟨by first | decide | omega, by first | decide | omega⟩ hl hk2 (k := k2) (tg := tg) hpp).mono ?_
      rintro _ _ ⟨m3, k3, hm3, hk3, rfl, rfl⟩
      refine back trivial ?_
      rcases (show m3 = 0 ∨ m3 = 1 by omega) with rfl | rfl
      · refine g1 ?_
        exact fin_at atss (.ret _ _ wkk) ⟨_, k3, ⟨_, .region _ ty hty, rfl⟩, hk3, rfl, rfl⟩
      · refine g1 ?_
        refine s_call rfl rfl rfl ca12 ?_
        refine (c12 2 ⟨by first | decide | omega, by first | decide | omega⟩ hl hk3 (k := k3) (tg := tg) hpp).mono ?_
        rintro _ _ ⟨m4, k4, hm4, hk4, rfl, rfl⟩
        refine back trivial ?_
        refine g1 ?_
        obtain ⟨y2, hy2, hrow2⟩ := str_row (l := [[49], [50]]) (m := m4) (show m4 < 2 by omega)
        refine s_ia rfl (tt rfl) (tt rfl) rfl rfl rfl (fun _ => rfl) (by omega) hrow2 ?_
        refine g1 ?_
        (refine s_store (tt rfl) rfl rfl hpp rfl rfl rfl rfl ⟨⟨rk_loadc (tt rfl) rfl rfl rfl rfl, trivial⟩, ?_⟩)
        refine g1 ?_
        exact fin_at atss (.ret _ _ wkk) ⟨_, k4, ⟨_, .keyed _ ty y2 hty hy2, rfl⟩, hk4, rfl, rfl⟩
    · refine g1 ?_
      refine s_call rfl rfl rfl ca12 ?_
      refine (c12 3 ⟨by first | decide | omega, by first | decide | omega⟩ hl hk1 (k := k1) (tg := tg) hpp).mono ?_
      rintro _ _ ⟨m2, k2, hm2, hk2, rfl, rfl⟩
      refine back trivial ?_
      refine g1 ?_
      refine s_call rfl rfl rfl ca78 ?_
      refine (c78 _).mono ?_
      rintro _ _ ⟨ty, hty, rfl, hh⟩
      obtain rfl := hh.symm
      refine back trivial ?_
      refine g1 ?_
      refine s_alloc (tt rfl) fun b8 hb8 => ⟨trivial, ?_⟩
      try simp only [set_next, new_next] at hb8
      refine g1 ?_
      refine s_call rfl rfl rfl ca12 ?_
      refine (c12 2 ⟨by first | decide | omega, by first | decide | omega⟩ hl hk2 (k := k2) (tg := tg) hpp).mono ?_
      rintro _ _ ⟨m3, k3, hm3, hk3, rfl, rfl⟩
      refine back trivial ?_
      rcases (show m3 = 0 ∨ m3 = 1 by omega) with rfl | rfl
      · refine g1 ?_
        exact fin_at atss (.ret _ _ wkk) ⟨_, k3, ⟨_, .region _ ty hty, rfl⟩, hk3, rfl, rfl⟩
      · refine g1 ?_
        refine s_call rfl rfl rfl ca12 ?_
        refine (c12 2 ⟨by first | decide | omega, by first | decide | omega⟩ hl hk3 (k := k3) (tg := tg) hpp).mono ?_
        rintro _ _ ⟨m4, k4, hm4, hk4, rfl, rfl⟩
        refine back trivial ?_
        refine g1 ?_
        obtain ⟨y2, hy2, hrow2⟩ := str_row (l := [[49], [50]]) (m := m4) (show m4 < 2 by omega)
        refine s_ia rfl (tt rfl) (tt rfl) rfl rfl rfl (fun _ => rfl) (by omega) hrow2 ?_
        refine g1 ?_
        (refine s_store (tt rfl) rfl rfl hpp rfl rfl rfl rfl ⟨⟨rk_loadc (tt rfl) rfl rfl rfl rfl, trivial⟩, ?_⟩)
        refine g1 ?_
        exact fin_at atss (.ret _ _ wkk) ⟨_, k4, ⟨_, .keyed _ ty y2 hty hy2, rfl⟩, hk4, rfl, rfl⟩
    · refine g1 ?_
      refine s_call rfl rfl rfl ca12 ?_
      refine (c12 3 ⟨by first | decide | omega, by first | decide | omega⟩ hl hk1 (k := k1) (tg := tg) hpp).mono ?_
      rintro _ _ ⟨m2, k2, hm2, hk2, rfl, rfl⟩
      refine back trivial ?_
      refine g1 ?_
      obtain ⟨y1, hy1, hrow1⟩ := str_row (l := [[119, 111, 114, 100], [119, 111, 114, 100], [116, 97, 103]]) (m := m2) (show m2 < 3 by omega)
      refine s_ia rfl (tt rfl) (tt rfl) rfl rfl rfl (fun _ => rfl) (by omega) hrow1 ?_
      refine g1 ?_
      refine s_call rfl rfl rfl ca12 ?_
      refine (c12 8 ⟨by first | decide | omega, by first | decide | omega⟩ hl hk2 (k := k2) (tg := tg) hpp).mono ?_
      rintro _ _ ⟨m3, k3, hm3, hk3, rfl, rfl⟩
      refine back ⟨rk_loadc (tt rfl) rfl rfl rfl rfl, trivial⟩ ?_
      refine g1 ?_
      obtain ⟨y2, hy2, hrow2⟩ := str_row (l := [[97], [98], [97, 46, 42], [91, 97, 98, 93], [88], [], [99, 63], [97, 124, 98]]) (m := m3) (show m3 < 8 by omega)
      refine s_ia rfl (tt rfl) (tt rfl) rfl rfl rfl (fun _ => rfl) (by omega) hrow2 ?_
      refine g1 ?_
      refine s_call rfl rfl rfl ca12 ?_
      refine (c12 3 ⟨by first | decide | omega, by first | decide | omega⟩ hl hk3 (k := k3) (tg := tg) hpp).mono ?_
      rintro _ _ ⟨m4, k4, hm4, hk4, rfl, rfl⟩
      refine back ⟨rk_loadc (tt rfl) rfl rfl rfl rfl, rk_loadc (tt rfl) rfl rfl rfl rfl, trivial⟩ ?_
      refine g1 ?_
      exact fin_at atss (.ret _ _ wkk) ⟨_, k4, ⟨_, .value _ y1 y2 _ (memW _ hy1) (memV _ hy2), rfl⟩, hk4, rfl, rfl⟩
    · refine g1 ?_
      refine s_call rfl rfl rfl ca12 ?_
      refine (c12 3 ⟨by first | decide | omega, by first | decide | omega⟩ hl hk1 (k := k1) (tg := tg) hpp).mono ?_
      rintro _ _ ⟨m2, k2, hm2, hk2, rfl, rfl⟩
      refine back trivial ?_
      refine g1 ?_
      obtain ⟨y1, hy1, hrow1⟩ := str_row (l := [[119, 111, 114, 100], [119, 111, 114, 100], [116, 97, 103]]) (m := m2) (show m2 < 3 by omega)
      refine s_ia rfl (tt rfl) (tt rfl) rfl rfl rfl (fun _ => rfl) (by omega) hrow1 ?_
      refine g1 ?_
      refine s_call rfl rfl rfl ca12 ?_
      refine (c12 8 ⟨by first | decide | omega, by first | decide | omega⟩ hl hk2 (k := k2) (tg := tg) hpp).mono ?_
      rintro _ _ ⟨m3, k3, hm3, hk3, rfl, rfl⟩
      refine back ⟨rk_loadc (tt rfl) rfl rfl rfl rfl, trivial⟩ ?_
      refine g1 ?_
      obtain ⟨y2, hy2, hrow2⟩ := str_row (l := [[97], [98], [97, 46, 42], [91, 97, 98, 93], [88], [], [99, 63], [97, 124, 98]]) (m := m3) (show m3 < 8 by omega)
      refine s_ia rfl (tt rfl) (tt rfl) rfl rfl rfl (fun _ => rfl) (by omega) hrow2 ?_
      refine g1 ?_
      refine s_call rfl rfl rfl ca12 ?_
      refine (c12 3 ⟨by first | decide | omega, by first | decide | omega⟩ hl hk3 (k := k3) (tg := tg) hpp).mono ?_
      rintro _ _ ⟨m4, k4, hm4, hk4, rfl, rfl⟩
      refine back ⟨rk_loadc (tt rfl) rfl rfl rfl rfl, rk_loadc (tt rfl) rfl rfl rfl rfl, trivial⟩ ?_
      refine g1 ?_
      exact fin_at atss (.ret _ _ wkk) ⟨_, k4, ⟨_, .value _ y1 y2 _ (memW _ hy1) (memV _ hy2), rfl⟩, hk4, rfl, rfl⟩
    · refine g1 ?_
      refine s_call rfl rfl rfl ca12 ?_
      refine (c12 3 ⟨by first | decide | omega, by first | decide | omega⟩ hl hk1 (k := k1) (tg := tg) hpp).mono ?_
      rintro _ _ ⟨m2, k2, hm2, hk2, rfl, rfl⟩
      refine back trivial ?_
      refine g1 ?_
      obtain ⟨y1, hy1, hrow1⟩ := str_row (l := [[119, 111, 114, 100], [119, 111, 114, 100], [116, 97, 103]]) (m := m2) (show m2 < 3 by omega)
      refine s_ia rfl (tt rfl) (tt rfl) rfl rfl rfl (fun _ => rfl) (by omega) hrow1 ?_
      refine g1 ?_
      refine s_call rfl rfl rfl ca12 ?_
      refine (c12 8 ⟨by first | decide | omega, by first | decide | omega⟩ hl hk2 (k := k2) (tg := tg) hpp).mono ?_
      rintro _ _ ⟨m3, k3, hm3, hk3, rfl, rfl⟩
      refine back ⟨rk_loadc (tt rfl) rfl rfl rfl rfl, trivial⟩ ?_
      refine g1 ?_
      obtain ⟨y2, hy2, hrow2⟩ := str_row (l := [[97], [98], [97, 46, 42], [91, 97, 98, 93], [88], [], [99, 63], [97, 124, 98]]) (m := m3) (show m3 < 8 by omega)
      refine s_ia rfl (tt rfl) (tt rfl) rfl rfl rfl (fun _ => rfl) (by omega) hrow2 ?_
      refine g1 ?_
      refine s_call rfl rfl rfl ca12 ?_
      refine (c12 3 ⟨by first | decide | omega, by first | decide | omega⟩ hl hk3 (k := k3) (tg := tg) hpp).mono ?_
      rintro _ _ ⟨m4, k4, hm4, hk4, rfl, rfl⟩
      refine back ⟨rk_loadc (tt rfl) rfl rfl rfl rfl, rk_loadc (tt rfl) rfl rfl rfl rfl, trivial⟩ ?_
      refine g1 ?_
      exact fin_at atss (.ret _ _ wkk) ⟨_, k4, ⟨_, .value _ y1 y2 _ (memW _ hy1) (memV _ hy2), rfl⟩, hk4, rfl, rfl⟩
    · refine g1 ?_
      refine s_call rfl rfl rfl ca12 ?_
      refine (c12 3 ⟨by first | decide | omega, by first | decide | omega⟩ hl hk1 (k := k1) (tg := tg) hpp).mono ?_
      rintro _ _ ⟨m2, k2, hm2, hk2, rfl, rfl⟩
      refine back trivial ?_
      refine g1 ?_
      obtain ⟨y1, hy1, hrow1⟩ := str_row (l := [[119, 111, 114, 100], [119, 111, 114, 100], [116, 97, 103]]) (m := m2) (show m2 < 3 by omega)
      refine s_ia rfl (tt rfl) (tt rfl) rfl rfl rfl (fun _ => rfl) (by omega) hrow1 ?_
      refine g1 ?_
      refine s_call rfl rfl rfl ca12 ?_
      refine (c12 8 ⟨by first | decide | omega, by first | decide | omega⟩ hl hk2 (k := k2) (tg := tg) hpp).mono ?_
      rintro _ _ ⟨m3, k3, hm3, hk3, rfl, rfl⟩
      refine back ⟨rk_loadc (tt rfl) rfl rfl rfl rfl, trivial⟩ ?_
      refine g1 ?_
      obtain ⟨y2, hy2, hrow2⟩ := str_row (l := [[97], [98], [97, 46, 42], [91, 97, 98, 93], [88], [], [99, 63], [97, 124, 98]]) (m := m3) (show m3 < 8 by omega)
      refine s_ia rfl (tt rfl) (tt rfl) rfl rfl rfl (fun _ => rfl) (by omega) hrow2 ?_
      refine g1 ?_
      refine s_call rfl rfl rfl ca12 ?_
      refine (c12 3 ⟨by first | decide | omega, by first | decide | omega⟩ hl hk3 (k := k3) (tg := tg) hpp).mono ?_
      rintro _ _ ⟨m4, k4, hm4, hk4, rfl, rfl⟩
      refine back ⟨rk_loadc (tt rfl) rfl rfl rfl rfl, rk_loadc (tt rfl) rfl rfl rfl rfl, trivial⟩ ?_
      refine g1 ?_
      exact fin_at atss (.ret _ _ wkk) ⟨_, k4, ⟨_, .value _ y1 y2 _ (memW _ hy1) (memV _ hy2), rfl⟩, hk4, rfl, rfl⟩
  | succ d ih =>
    intro hd h k hk hg
    have hd1 : ((d + 1 : Nat) : Int) - 1 = d := by omega
    have ih' : ∀ h k, k ≤ l.length → h.get g = some (tape l k tg) → ACalls Tryz.prog G 145 [.ptr g 0, .int .i64 (((d + 1 : Nat) : Int) - 1), .sl sz (encSs ls) tl] h (Gen g l tg (fun v => ∃ c, GC lab d c ∧ v = encCa c) h) :=
      fun h k hk hg => by rw [hd1]; exact ih (by omega) h k hk hg
    refine ACalls.fin (en145 (by simp) fun hw => ?_)
    have hgl := hw _ _ hg
    have e0 : decide (((d + 1 : Nat) : Int) < 1) = false := by simp; omega
    refine g1 ?_
    refine s_alloc (tt rfl) fun b6 hb6 => ⟨trivial, ?_⟩
    try simp only [set_next, new_next] at hb6
    refine g1 ?_
    refine s_call rfl rfl rfl ca12 ?_
    refine (c12 12 ⟨by first | decide | omega, by first | decide | omega⟩ hl hk (k := k) (tg := tg) hpp).mono ?_
    rintro _ _ ⟨m, k1, hm, hk1, rfl, rfl⟩
    refine back trivial ?_
    rcases (show m = 0 ∨ m = 1 ∨ m = 2 ∨ m = 3 ∨ m = 4 ∨ m = 5 ∨ m = 6 ∨ m = 7 ∨ m = 8 ∨ m = 9 ∨ m = 10 ∨ m = 11 by omega) with rfl | rfl | rfl | rfl | rfl | rfl | rfl | rfl | rfl | rfl | rfl | rfl
    · refine g1 ?_
      refine s_call rfl rfl rfl ca12 ?_
      refine (c12 3 ⟨by first | decide | omega, by first | decide | omega⟩ hl hk1 (k := k1) (tg := tg) hpp).mono ?_
      rintro _ _ ⟨m2, k2, hm2, hk2, rfl, rfl⟩
      refine back trivial ?_
      refine g1 ?_
      obtain ⟨y1, hy1, hrow1⟩ := str_row (l := [[119, 111, 114, 100], [119, 111, 114, 100], [116, 97, 103]]) (m := m2) (show m2 < 3 by omega)
      refine s_ia rfl (tt rfl) (tt rfl) rfl rfl rfl (fun _ => rfl) (by omega) hrow1 ?_
      refine g1 ?_
      refine s_call rfl rfl rfl ca12 ?_
      refine (c12 8 ⟨by first | decide | omega, by first | decide | omega⟩ hl hk2 (k := k2) (tg := tg) hpp).mono ?_
      rintro _ _ ⟨m3, k3, hm3, hk3, rfl, rfl⟩
      refine back ⟨rk_loadc (tt rfl) rfl rfl rfl rfl, trivial⟩ ?_
      refine g1 ?_
      obtain ⟨y2, hy2, hrow2⟩ := str_row (l := [[97], [98], [97, 46, 42], [91, 97, 98, 93], [88], [], [99, 63], [97, 124, 98]]) (m := m3) (show m3 < 8 by omega)
      refine s_ia rfl (tt rfl) (tt rfl) rfl rfl rfl (fun _ => rfl) (by omega) hrow2 ?_
      refine g1 ?_
      refine s_call rfl rfl rfl ca12 ?_
      refine (c12 3 ⟨by first | decide | omega, by first | decide | omega⟩ hl hk3 (k := k3) (tg := tg) hpp).mono ?_
      rintro _ _ ⟨m4, k4, hm4, hk4, rfl, rfl⟩
      refine back ⟨rk_loadc (tt rfl) rfl rfl rfl rfl, rk_loadc (tt rfl) rfl rfl rfl rfl, trivial⟩ ?_
      refine g1 ?_
      exact fin_at atss (.ret _ _ wkk) ⟨_, k4, ⟨_, .value _ y1 y2 _ (memW _ hy1) (memV _ hy2), rfl⟩, hk4, rfl, rfl⟩
    · refine g1 ?_
      refine s_call rfl rfl rfl ca12 ?_
      refine (c12 3 ⟨by first | decide | omega, by first | decide | omega⟩ hl hk1 (k := k1) (tg := tg) hpp).mono ?_
      rintro _ _ ⟨m2, k2, hm2, hk2, rfl, rfl⟩
      refine back trivial ?_
      refine g1 ?_
      obtain ⟨y1, hy1, hrow1⟩ := str_row (l := [[119, 111, 114, 100], [119, 111, 114, 100], [116, 97, 103]]) (m := m2) (show m2 < 3 by omega)
      refine s_ia rfl (tt rfl) (tt rfl) rfl rfl rfl (fun _ => rfl) (by omega) hrow1 ?_
      refine g1 ?_
      refine s_call rfl rfl rfl ca12 ?_
      refine (c12 8 ⟨by first | decide | omega, by first | decide | omega⟩ hl hk2 (k := k2) (tg := tg) hpp).mono ?_
      rintro _ _ ⟨m3, k3, hm3, hk3, rfl, rfl⟩
      refine back ⟨rk_loadc (tt rfl) rfl rfl rfl rfl, trivial⟩ ?_
      refine g1 ?_
      obtain ⟨y2, hy2, hrow2⟩ := str_row (l := [[97], [98], [97, 46, 42], [91, 97, 98, 93], [88], [], [99, 63], [97, 124, 98]]) (m := m3) (show m3 < 8 by omega)
      refine s_ia rfl (tt rfl) (tt rfl) rfl rfl rfl (fun _ => rfl) (by omega) hrow2 ?_
      refine g1 ?_
      refine s_call rfl rfl rfl ca12 ?_
      refine (c12 3 ⟨by first | decide | omega, by first | decide | omega⟩ hl hk3 (k := k3) (tg := tg) hpp).mono ?_
      rintro _ _ ⟨m4, k4, hm4, hk4, rfl, rfl⟩
      refine back ⟨rk_loadc (tt rfl) rfl rfl rfl rfl, rk_loadc (tt rfl) rfl rfl rfl rfl, trivial⟩ ?_
      refine g1 ?_
      exact fin_at atss (.ret _ _ wkk) ⟨_, k4, ⟨_, .value _ y1 y2 _ (memW _ hy1) (memV _ hy2), rfl⟩, hk4, rfl, rfl⟩
    · refine g1 ?_
      refine s_call rfl rfl rfl ca12 ?_
      refine (c12 3 ⟨by first | decide | omega, by first | decide | omega⟩ hl hk1 (k := k1) (tg := tg) hpp).mono ?_
      rintro _ _ ⟨m2, k2, hm2, hk2, rfl, rfl⟩
      refine back trivial ?_
      refine g1 ?_
      obtain ⟨y1, hy1, hrow1⟩ := str_row (l := [[119, 111, 114, 100], [119, 111, 114, 100], [116, 97, 103]]) (m := m2) (show m2 < 3 by omega)
      refine s_ia rfl (tt rfl) (tt rfl) rfl rfl rfl (fun _ => rfl) (by omega) hrow1 ?_
      refine g1 ?_
      refine s_call rfl rfl rfl ca12 ?_
      refine (c12 8 ⟨by first | decide | omega, by first | decide | omega⟩ hl hk2 (k := k2) (tg := tg) hpp).mono ?_
      rintro _ _ ⟨m3, k3, hm3, hk3, rfl, rfl⟩
      refine back ⟨rk_loadc (tt rfl) rfl rfl rfl rfl, trivial⟩ ?_
      refine g1 ?_
      obtain ⟨y2, hy2, hrow2⟩ := str_row (l := [[97], [98], [97, 46, 42], [91, 97, 98, 93], [88], [], [99, 63], [97, 124, 98]]) (m := m3) (show m3 < 8 by omega)
      refine s_ia rfl (tt rfl) (tt rfl) rfl rfl rfl (fun _ => rfl) (by omega) hrow2 ?_
      refine g1 ?_
      refine s_call rfl rfl rfl ca12 ?_
      refine (c12 3 ⟨by first | decide | omega, by first | decide | omega⟩ hl hk3 (k := k3) (tg := tg) hpp).mono ?_
      rintro _ _ ⟨m4, k4, hm4, hk4, rfl, rfl⟩
      refine back ⟨rk_loadc (tt rfl) rfl rfl rfl rfl, rk_loadc (tt rfl) rfl rfl rfl rfl, trivial⟩ ?_
      refine g1 ?_
      exact fin_at atss (.ret _ _ wkk) ⟨_, k4, ⟨_, .value _ y1 y2 _ (memW _ hy1) (memV _ hy2), rfl⟩, hk4, rfl, rfl⟩
    · refine g1 ?_
      refine s_call rfl rfl rfl ca12 ?_
      refine (c12 3 ⟨by first | decide | omega, by first | decide | omega⟩ hl hk1 (k := k1) (tg := tg) hpp).mono ?_
      rintro _ _ ⟨m2, k2, hm2, hk2, rfl, rfl⟩
      refine back trivial ?_
      refine g1 ?_
      obtain ⟨y1, hy1, hrow1⟩ := str_row (l := [[119, 111, 114, 100], [119, 111, 114, 100], [116, 97, 103]]) (m := m2) (show m2 < 3 by omega)
      refine s_ia rfl (tt rfl) (tt rfl) rfl rfl rfl (fun _ => rfl) (by omega) hrow1 ?_
      refine g1 ?_
      refine s_call rfl rfl rfl ca12 ?_
      refine (c12 8 ⟨by first | decide | omega, by first | decide | omega⟩ hl hk2 (k := k2) (tg := tg) hpp).mono ?_
      rintro _ _ ⟨m3, k3, hm3, hk3, rfl, rfl⟩
      refine back ⟨rk_loadc (tt rfl) rfl rfl rfl rfl, trivial⟩ ?_
      refine g1 ?_
      obtain ⟨y2, hy2, hrow2⟩ := str_row (l := [[97], [98], [97, 46, 42], [91, 97, 98, 93], [88], [], [99, 63], [97, 124, 98]]) (m := m3) (show m3 < 8 by omega)
      refine s_ia rfl (tt rfl) (tt rfl) rfl rfl rfl (fun _ => rfl) (by omega) hrow2 ?_
      refine g1 ?_
      refine s_call rfl rfl rfl ca12 ?_
      refine (c12 3 ⟨by first | decide | omega, by first | decide | omega⟩ hl hk3 (k := k3) (tg := tg) hpp).mono ?_
      rintro _ _ ⟨m4, k4, hm4, hk4, rfl, rfl⟩
      refine back ⟨rk_loadc (tt rfl) rfl rfl rfl rfl, rk_loadc (tt rfl) rfl rfl rfl rfl, trivial⟩ ?_
      refine g1 ?_
      exact fin_at atss (.ret _ _ wkk) ⟨_, k4, ⟨_, .value _ y1 y2 _ (memW _ hy1) (memV _ hy2), rfl⟩, hk4, rfl, rfl⟩
    · refine g1 ?_
      refine s_call rfl rfl rfl ca12 ?_
      refine (c12 2 ⟨by first | decide | omega, by first | decide | omega⟩ hl hk1 (k := k1) (tg := tg) hpp).mono ?_
      rintro _ _ ⟨m2, k2, hm2, hk2, rfl, rfl⟩
      refine back trivial ?_
      refine g1 ?_
      obtain ⟨y1, hy1, hrow1⟩ := str_row (l := [[112], [113]]) (m := m2) (show m2 < 2 by omega)
      refine s_ia rfl (tt rfl) (tt rfl) rfl rfl rfl (fun _ => rfl) (by omega) hrow1 ?_
      refine g1 ?_
      exact fin_at atss (.ret _ _ wkk) ⟨_, k2, ⟨_, .feature _ y1 hy1, rfl⟩, hk2, rfl, rfl⟩
    · rcases hls0 with hls0 | hls0
      · subst hls0
        refine g1 ?_
        exact fin_at atss (.ret _ _ wkk) ⟨_, k1, ⟨_, .value _ [116, 97, 103] [89] false (by decide) (by decide), rfl⟩, hk1, rfl, rfl⟩
      · obtain rfl : sz = 1 := hsz.resolve_right (fun e => by rw [e] at hls0; simp at hls0)
        have hlsl : (encSs ls).length = ls.length := encSs_len ls
        have e1 : decide (((encSs ls).length : Int) > 0) = true := by simp; omega
        refine g1 ?_
        refine s_call rfl rfl rfl ca12 ?_
        refine (c12 2 ⟨by first | decide | omega, by first | decide | omega⟩ hl hk1 (k := k1) (tg := tg) hpp).mono ?_
        rintro _ _ ⟨m2, k2, hm2, hk2, rfl, rfl⟩
        refine back trivial ?_
        refine g1 ?_
        obtain ⟨y1, hy1, hrow1⟩ := str_row (l := attr2) (m := m2) (show m2 < 2 by omega)
        refine s_ia rfl (tt rfl) (tt rfl) rfl rfl rfl (fun _ => rfl) (by omega) hrow1 ?_
        refine g1 ?_
        refine s_call rfl rfl rfl ca12 ?_
        refine (c12 _ ⟨by first | decide | omega, by first | decide | omega⟩ hl hk2 (k := k2) (tg := tg) hpp).mono ?_
        rintro _ _ ⟨m3, k3, hm3, hk3, rfl, rfl⟩
        refine back ⟨rk_loadc (tt rfl) rfl rfl rfl rfl, trivial⟩ ?_
        refine g1 ?_
        obtain ⟨y2, hy2, hrow2⟩ := str_row (l := ls) (m := m3) (by omega)
        refine s_ia rfl (tt rfl) (tt rfl) rfl rfl rfl (fun _ => rfl) (by omega) hrow2 ?_
        refine g1 ?_
        refine s_call rfl rfl rfl ca12 ?_
        refine (c12 2 ⟨by first | decide | omega, by first | decide | omega⟩ hl hk3 (k := k3) (tg := tg) hpp).mono ?_
        rintro _ _ ⟨m4, k4, hm4, hk4, rfl, rfl⟩
        refine back ⟨rk_loadc (tt rfl) rfl rfl rfl rfl, rk_loadc (tt rfl) rfl rfl rfl rfl, trivial⟩ ?_
        refine g1 ?_
        obtain ⟨y3, hy3, hrow3⟩ := str_row (l := attr2) (m := m4) (show m4 < 2 by omega)
        refine s_ia rfl (tt rfl) (tt rfl) rfl rfl rfl (fun _ => rfl) (by omega) hrow3 ?_
        refine g1 ?_
        exact fin_at atss (.ret _ _ wkk) ⟨_, k4, ⟨_, .same _ y1 y2 y3 hy1 (hlab _ hy2) hy3, rfl⟩, hk4, rfl, rfl⟩
    · refine g1 ?_
      refine s_call rfl rfl rfl ca12 ?_
      refine (c12 3 ⟨by first | decide | omega, by first | decide | omega⟩ hl hk1 (k := k1) (tg := tg) hpp).mono ?_
      rintro _ _ ⟨m2, k2, hm2, hk2, rfl, rfl⟩
      refine back trivial ?_
      refine g1 ?_
      refine s_call rfl rfl rfl ca78 ?_
      refine (c78 _).mono ?_
      rintro _ _ ⟨ty, hty, rfl, hh⟩
      obtain rfl := hh.symm
      refine back trivial ?_
      refine g1 ?_
      refine s_alloc (tt rfl) fun b8 hb8 => ⟨trivial, ?_⟩
      try simp only [set_next, new_next] at hb8
      refine g1 ?_
      refine s_call rfl rfl rfl ca12 ?_
      refine (c12 2 ⟨by first | decide | omega, by first | decide | omega⟩ hl hk2 (k := k2) (tg := tg) hpp).mono ?_
      rintro _ _ ⟨m3, k3, hm3, hk3, rfl, rfl⟩
      refine back trivial ?_
      rcases (show m3 = 0 ∨ m3 = 1 by omega) with rfl | rfl
      · refine g1 ?_
        exact fin_at atss (.ret _ _ wkk) ⟨_, k3, ⟨_, .region _ ty hty, rfl⟩, hk3, rfl, rfl⟩
      · refine g1 ?_
        refine s_call rfl rfl rfl ca12 ?_
        refine (c12 2 ⟨by first | decide | omega, by first | decide | omega⟩ hl hk3 (k := k3) (tg := tg) hpp).mono ?_
        rintro _ _ ⟨m4, k4, hm4, hk4, rfl, rfl⟩
        refine back trivial ?_
        refine g1 ?_
        obtain ⟨y2, hy2, hrow2⟩ := str_row (l := [[49], [50]]) (m := m4) (show m4 < 2 by omega)
        refine s_ia rfl (tt rfl) (tt rfl) rfl rfl rfl (fun _ => rfl) (by omega) hrow2 ?_
        refine g1 ?_
        (refine s_store (tt rfl) rfl rfl hpp rfl rfl rfl rfl ⟨⟨rk_loadc (tt rfl) rfl rfl rfl rfl, trivial⟩, ?_⟩)
        refine g1 ?_
        exact fin_at atss (.ret _ _ wkk) ⟨_, k4, ⟨_, .keyed _ ty y2 hty hy2, rfl⟩, hk4, rfl, rfl⟩
    · refine g1 ?_
      refine s_call rfl rfl rfl ca12 ?_
      refine (c12 3 ⟨by first | decide | omega, by first | decide | omega⟩ hl hk1 (k := k1) (tg := tg) hpp).mono ?_
      rintro _ _ ⟨m2, k2, hm2, hk2, rfl, rfl⟩
      refine back trivial ?_
      refine g1 ?_
      refine s_call rfl rfl rfl ca78 ?_
      refine (c78 _).mono ?_
      rintro _ _ ⟨ty, hty, rfl, hh⟩
      obtain rfl := hh.symm
      refine back trivial ?_
      refine g1 ?_
      refine s_alloc (tt rfl) fun b8 hb8 => ⟨trivial, ?_⟩
      try simp only [set_next, new_next] at hb8
      refine g1 ?_
      refine s_call rfl rfl rfl ca12 ?_
      refine (c12 2 ⟨by first | decide | omega, by first | decide | omega⟩ hl hk2 (k := k2) (tg := tg) hpp).mono ?_
      rintro _ _ ⟨m3, k3, hm3, hk3, rfl, rfl⟩
      refine back trivial ?_
      rcases (show m3 = 0 ∨ m3 = 1 by omega) with rfl | rfl
      · refine g1 ?_
        exact fin_at atss (.ret _ _ wkk) ⟨_, k3, ⟨_, .region _ ty hty, rfl⟩, hk3, rfl, rfl⟩
      · refine g1 ?_
        refine s_call rfl rfl rfl ca12 ?_
        refine (c12 2 ⟨by first | decide | omega, by first | decide | omega⟩ hl hk3 (k := k3) (tg := tg) hpp).mono ?_
        rintro _ _ ⟨m4, k4, hm4, hk4, rfl, rfl⟩
        refine back trivial ?_
        refine g1 ?_
        obtain ⟨y2, hy2, hrow2⟩ := str_row (l := [[49], [50]]) (m := m4) (show m4 < 2 by omega)
        refine s_ia rfl (tt rfl) (tt rfl) rfl rfl rfl (fun _ => rfl) (by omega) hrow2 ?_
        refine g1 ?_
        (refine s_store (tt rfl) rfl rfl hpp rfl rfl rfl rfl ⟨⟨rk_loadc (tt rfl) rfl rfl rfl rfl, trivial⟩, ?_⟩)
        refine g1 ?_
        exact fin_at atss (.ret _ _ wkk) ⟨_, k4, ⟨_, .keyed _ ty y2 hty hy2, rfl⟩, hk4, rfl, rfl⟩
    · refine g1 ?_
      refine s_call rfl rfl rfl ca145 ?_
      refine (ih' _ k1 hk1 hpp).mono ?_
      rintro _ _ ⟨_, k2, ⟨c, hc, rfl⟩, hk2, rfl, rfl⟩
      obtain ⟨o1, n1, a1, v1, l1, f1, kd1⟩ := c
      refine back trivial ?_
      refine g1 ?_
      exact fin_at atss (.ret _ _ wkk) ⟨_, k2, ⟨_, .neg _ _ hc, rfl⟩, hk2, rfl, rfl⟩
    · refine g1 ?_
      refine s_call rfl rfl rfl ca145 ?_
      refine (ih' _ k1 hk1 hpp).mono ?_
      rintro _ _ ⟨_, k2, ⟨c, hc, rfl⟩, hk2, rfl, rfl⟩
      obtain ⟨o1, n1, a1, v1, l1, f1, kd1⟩ := c
      refine back trivial ?_
      refine g1 ?_
      exact fin_at atss (.ret _ _ wkk) ⟨_, k2, ⟨_, .neg _ _ hc, rfl⟩, hk2, rfl, rfl⟩
    · refine g1 ?_
      refine s_call rfl rfl rfl ca145 ?_
      refine (ih' _ k1 hk1 hpp).mono ?_
      rintro _ _ ⟨_, k2, ⟨c, hc, rfl⟩, hk2, rfl, rfl⟩
      obtain ⟨o1, n1, a1, v1, l1, f1, kd1⟩ := c
      refine back trivial ?_
      refine g1 ?_
      refine s_call rfl rfl rfl ca145 ?_
      refine (ih' _ k2 hk2 hpp).mono ?_
      rintro _ _ ⟨_, k3, ⟨c', hc', rfl⟩, hk3, rfl, rfl⟩
      obtain ⟨o2, n2, a2, v2, l2, f2, kd2⟩ := c'
      refine back trivial ?_
      refine g1 ?_
      exact fin_at atss (.ret _ _ wkk) ⟨_, k3, ⟨_, .two _ _ _ _ (.inl (by decide)) hc hc', rfl⟩, hk3, rfl, rfl⟩
    · refine g1 ?_
      refine s_call rfl rfl rfl ca145 ?_
      refine (ih' _ k1 hk1 hpp).mono ?_
      rintro _ _ ⟨_, k2, ⟨c, hc, rfl⟩, hk2, rfl, rfl⟩
      obtain ⟨o1, n1, a1, v1, l1, f1, kd1⟩ := c
      refine back trivial ?_
      refine g1 ?_
      refine s_call rfl rfl rfl ca145 ?_
      refine (ih' _ k2 hk2 hpp).mono ?_
      rintro _ _ ⟨_, k3, ⟨c', hc', rfl⟩, hk3, rfl, rfl⟩
      obtain ⟨o2, n2, a2, v2, l2, f2, kd2⟩ := c'
      refine back trivial ?_
      refine g1 ?_
      exact fin_at atss (.ret _ _ wkk) ⟨_, k3, ⟨_, .two _ _ _ _ (.inr (by decide)) hc hc', rfl⟩, hk3, rfl, rfl⟩
end
end Go.Proofs
