/- The reader's small functions, walked. No conditions. -/
import Derived.Test.YtjnkbjloabnopaaGreatDoorZ15
namespace Go.Proofs
open Go.Abs Go.Q
attribute [local irreducible] awp aops Run BodyQ ACalls Back
section
variable {G : Nat → Option Obj} {h : AHeap} {s : Str} {st : S} {g : Nat}

theorem c91 (hg : h.get g = some (rdr s st)) (hst : V s st) (hs : s.length ≤ 1000) : ACalls Tryz.prog G 91 [.ptr g 0] h (fun out h' => out = .ret (.tuple []) ∧ h' = h.set g (rdr s (nxt s st))) := by
  refine en91 (by simp) fun hw => ?_
  repeat first | (apply s_gen @tt; exact rfl; exact rfl; first | exact trivial | omega | (simp <;> omega)) | apply w_seq | apply w_ops | apply s_nil | apply x_n | apply w_skip | apply w_ret | apply w_block | (apply w_exit; exact rfl) | apply b_n | apply x_p | apply x_0 | (apply s_loadp (gd := none); exact rfl; exact tt rfl; exact rfl; exact hpp; exact rfl; exact rfl; exact fun _ => rfl) | (refine s_store (tt rfl) rfl rfl hpp rfl rfl rfl rfl ⟨trivial, ?_⟩) | (apply g_t; exact rfl; (first | assumption | with_reducible rfl | decide)) | (apply g_f; exact rfl; (first | assumption | with_reducible rfl | decide); exact trivial) | (apply g_u; exact rfl; exact trivial) | (apply s_pick_t (gd := none); exact rfl; exact rfl; (first | assumption | with_reducible rfl | decide); exact rfl; exact rfl) | (apply s_pick_f (gd := none); exact rfl; exact rfl; (first | assumption | with_reducible rfl | decide); exact rfl; exact rfl) | (apply w_cond_t; exact rfl; (first | assumption | with_reducible rfl | decide)) | (apply w_cond_f; exact rfl; (first | assumption | with_reducible rfl | decide)) | (apply z_1; exact rfl) | (apply z_2; exact rfl; exact rfl) | (apply z_3; exact rfl; exact rfl; exact rfl) | (apply z_ct; exact rfl; exact tt rfl; exact hpp; exact rfl; exact rfl; exact rfl) | (apply z_c; exact rfl; exact tt rfl; exact hpp; exact rfl; exact rfl) | apply z_0r | apply z_0n | apply z_p | (apply s_sub8; exact rfl; exact rfl; exact rfl; omega; exact fun _ => rfl) | (apply s_conv64; exact rfl; exact tt rfl; exact tt rfl; exact rfl; omega; exact fun _ => rfl) | (apply s_bin; exact rfl; exact rfl; exact rfl; exact rfl; exact fun _ => rfl; exact fun _ => trivial) | (apply s_conv_int; exact rfl; exact tt rfl; exact tt rfl; exact rfl; exact fun _ => rfl)
  refine s_call rfl rfl rfl ca157 ?_
  refine (c157 s st.2 hst.le hs).mono ?_
  rintro _ _ ⟨rfl, rfl⟩
  refine back trivial ?_
  repeat first | (apply s_gen @tt; exact rfl; exact rfl; first | exact trivial | omega | (simp <;> omega)) | apply w_seq | apply w_ops | apply s_nil | apply x_n | apply w_skip | apply w_ret | apply w_block | (apply w_exit; exact rfl) | apply b_n | apply x_p | apply x_0 | (apply s_loadp (gd := none); exact rfl; exact tt rfl; exact rfl; exact hpp; exact rfl; exact rfl; exact fun _ => rfl) | (refine s_store (tt rfl) rfl rfl hpp rfl rfl rfl rfl ⟨trivial, ?_⟩) | (apply g_t; exact rfl; (first | assumption | with_reducible rfl | decide)) | (apply g_f; exact rfl; (first | assumption | with_reducible rfl | decide); exact trivial) | (apply g_u; exact rfl; exact trivial) | (apply s_pick_t (gd := none); exact rfl; exact rfl; (first | assumption | with_reducible rfl | decide); exact rfl; exact rfl) | (apply s_pick_f (gd := none); exact rfl; exact rfl; (first | assumption | with_reducible rfl | decide); exact rfl; exact rfl) | (apply w_cond_t; exact rfl; (first | assumption | with_reducible rfl | decide)) | (apply w_cond_f; exact rfl; (first | assumption | with_reducible rfl | decide)) | (apply z_1; exact rfl) | (apply z_2; exact rfl; exact rfl) | (apply z_3; exact rfl; exact rfl; exact rfl) | (apply z_ct; exact rfl; exact tt rfl; exact hpp; exact rfl; exact rfl; exact rfl) | (apply z_c; exact rfl; exact tt rfl; exact hpp; exact rfl; exact rfl) | apply z_0r | apply z_0n | apply z_p | (apply s_sub8; exact rfl; exact rfl; exact rfl; omega; exact fun _ => rfl) | (apply s_conv64; exact rfl; exact tt rfl; exact tt rfl; exact rfl; omega; exact fun _ => rfl) | (apply s_bin; exact rfl; exact rfl; exact rfl; exact rfl; exact fun _ => rfl; exact fun _ => trivial) | (apply s_conv_int; exact rfl; exact tt rfl; exact tt rfl; exact rfl; exact fun _ => rfl)
  exact ⟨rfl, by rw [set_set]; rfl⟩

theorem c95 (x : Str) (hg : h.get g = some (rdr s st)) : ACalls Tryz.prog G 95 [.ptr g 0, .str x] h (Gives (.bool (isSign x st)) h) := by
  refine en95 (by simp) fun hw => ?_
  refine g2 ?_ ?_ <;> (repeat intro hb hc)
  · refine ⟨?_, rfl⟩
    have : st.1.kind = 5 := by omega
    simp [isSign, this]
  · refine ⟨?_, rfl⟩
    have : st.1.kind ≠ 5 := by omega
    simp [isSign, this]

theorem c97 (l : List Str) (x : Str) (hl : l.length ≤ 1000) : ACalls Tryz.prog G 97 [.sl 1 (encSs l) .frz, .str x] h (Gives (.int .i64 (wordNo l x)) h) := by
  refine en97 (by simp) fun hw => ?_
  repeat first | (apply s_gen @tt; exact rfl; exact rfl; first | exact trivial | omega | (simp <;> omega)) | apply w_seq | apply w_ops | apply s_nil | apply x_n | apply w_skip | apply w_ret | apply w_block | (apply w_exit; exact rfl) | apply b_n | apply x_p | apply x_0 | (apply s_loadp (gd := none); exact rfl; exact tt rfl; exact rfl; exact hpp; exact rfl; exact rfl; exact fun _ => rfl) | (refine s_store (tt rfl) rfl rfl hpp rfl rfl rfl rfl ⟨trivial, ?_⟩) | (apply g_t; exact rfl; (first | assumption | with_reducible rfl | decide)) | (apply g_f; exact rfl; (first | assumption | with_reducible rfl | decide); exact trivial) | (apply g_u; exact rfl; exact trivial) | (apply s_pick_t (gd := none); exact rfl; exact rfl; (first | assumption | with_reducible rfl | decide); exact rfl; exact rfl) | (apply s_pick_f (gd := none); exact rfl; exact rfl; (first | assumption | with_reducible rfl | decide); exact rfl; exact rfl) | (apply w_cond_t; exact rfl; (first | assumption | with_reducible rfl | decide)) | (apply w_cond_f; exact rfl; (first | assumption | with_reducible rfl | decide)) | (apply z_1; exact rfl) | (apply z_2; exact rfl; exact rfl) | (apply z_3; exact rfl; exact rfl; exact rfl) | (apply z_ct; exact rfl; exact tt rfl; exact hpp; exact rfl; exact rfl; exact rfl) | (apply z_c; exact rfl; exact tt rfl; exact hpp; exact rfl; exact rfl) | apply z_0r | apply z_0n | apply z_p | (apply s_sub8; exact rfl; exact rfl; exact rfl; omega; exact fun _ => rfl) | (apply s_conv64; exact rfl; exact tt rfl; exact tt rfl; exact rfl; omega; exact fun _ => rfl) | (apply s_bin; exact rfl; exact rfl; exact rfl; exact rfl; exact fun _ => rfl; exact fun _ => trivial) | (apply s_conv_int; exact rfl; exact tt rfl; exact tt rfl; exact rfl; exact fun _ => rfl)
  have hlen : (encSs l).length = l.length := List.length_map ..
  refine w_loop (fun e h' n => ∃ k : Nat, k ≤ l.length ∧ n = l.length - k ∧ (∀ m y, m < k → l[m]? = some y → (y == x) = false) ∧ h' = h ∧ e = [(0, true, .sl 1 (encSs l) .frz), (1, true, .str x), (7, true, .int .i64 (encSs l).length), (8, true, .int .i64 k)])
    _ _ (.cons rfl (.cons rfl (.cons rfl (.cons rfl (.nil _))))) ⟨0, by omega, rfl, fun m y hm => by omega, rfl, rfl⟩ ?_
  rintro _ _ _ ⟨k, hk, rfl, hpre, rfl, rfl⟩
  refine g2 ?_ ?_ <;> (repeat intro hb hc)
  · obtain ⟨y, hy⟩ : ∃ y, l[k]? = some y := ⟨_, List.getElem?_eq_getElem (by omega)⟩
    refine s_ia rfl (tt rfl) (tt rfl) rfl rfl rfl (fun _ => rfl) (by omega) (row := [.str y]) (by rw [n0]; show (l.map _)[k]? = _; rw [List.getElem?_map, hy]; rfl) ?_
    refine g2 ?_ ?_ <;> (repeat intro hb hc)
    · refine ⟨?_, rfl⟩
      have : l.findIdx? (· == x) = some k := by
        rw [List.findIdx?_eq_some_iff_getElem]
        obtain ⟨hk2, hyk⟩ := List.getElem?_eq_some_iff.1 hy
        refine ⟨hk2, by rw [hyk]; simp_all, fun j hj => ?_⟩
        rw [hpre j _ hj (List.getElem?_eq_getElem (by omega))]
        decide
      simp only [wordNo, this]
    · refine l_n _ _ ?_ ?_ ⟨k + 1, by omega, rfl, ?_, rfl, rfl⟩
      · omega
      · exact envv
      · intro m z hm hz
        by_cases hmk : m = k
        · subst hmk; rw [hy] at hz; injection hz with hz; subst hz; simp_all; exact fun hh => by simp_all
        · exact hpre m z (by omega) hz
  · refine ⟨?_, rfl⟩
    have : l.findIdx? (· == x) = none := by
      rw [List.findIdx?_eq_none_iff]
      intro y hy
      obtain ⟨m, hm⟩ := List.getElem?_of_mem hy
      exact hpre m y (by have := (List.getElem?_eq_some_iff.1 hm).1; omega) hm
    simp only [wordNo, this]

theorem wordNo_ge (l : List Str) (x : Str) : decide (wordNo l x ≥ 0) = l.contains x := by
  unfold wordNo
  rw [Bool.eq_iff_iff, decide_eq_true_eq, List.contains_iff_mem]
  split
  · rename_i i hi
    rw [List.findIdx?_eq_some_iff_getElem] at hi
    obtain ⟨h1, h2, _⟩ := hi
    rw [beq_iff_eq] at h2
    exact ⟨fun _ => by rw [← h2]; exact List.getElem_mem h1, fun _ => by omega⟩
  · rename_i hi
    rw [List.findIdx?_eq_none_iff] at hi
    exact ⟨fun h => by omega, fun h => by have := hi x h; simp at this⟩

theorem c144 (l : List Str) (x : Str) (hl : l.length ≤ 1000) : ACalls Tryz.prog G 144 [.sl 1 (encSs l) .frz, .str x] h (Gives (.bool (l.contains x)) h) := by
  refine en144 (by simp) fun hw => ?_
  refine g1 ?_
  refine s_call rfl rfl rfl ca97 ?_
  refine (c97 l x hl).mono ?_
  rintro _ _ ⟨rfl, rfl⟩
  refine back trivial ?_
  refine g1 ?_
  exact ⟨by rw [← wordNo_ge], rfl⟩

theorem c96 (l : List Str) (hl : l.length ≤ 1000) (hg : h.get g = some (rdr s st)) : ACalls Tryz.prog G 96 [.ptr g 0, .sl 1 (encSs l) .frz] h (Gives (.bool (isWord l st)) h) := by
  refine en96 (by simp) fun hw => ?_
  refine g2 ?_ ?_ <;> (repeat intro hb hc)
  · refine s_call rfl rfl rfl ca144 ?_
    refine (c144 l st.1.text hl).mono ?_
    rintro _ _ ⟨rfl, rfl⟩
    refine back trivial ?_
    refine g1 ?_
    refine ⟨?_, rfl⟩
    have : st.1.kind = 2 := by omega
    simp [isWord, this]
  · refine ⟨?_, rfl⟩
    have : st.1.kind ≠ 2 := by omega
    simp [isWord, this]

theorem c93 (x : Str) (hg : h.get g = some (rdr s st)) (hst : V s st) (hs : s.length ≤ 1000) : ACalls Tryz.prog G 93 [.ptr g 0, .str x] h (fun out h' => out = .ret (.bool (isSign x st)) ∧ h' = if isSign x st then h.set g (rdr s (nxt s st)) else h) := by
  refine en93 (by simp) fun hw => ?_
  refine g1 ?_
  refine s_call rfl rfl rfl ca95 ?_
  refine (c95 x hg).mono ?_
  rintro _ _ ⟨rfl, rfl⟩
  refine back trivial ?_
  refine g2 ?_ ?_ <;> (repeat intro hb hc)
  · exact ⟨by simp_all, by simp_all⟩
  · refine s_call rfl rfl rfl ca91 ?_
    refine (c91 hg hst hs).mono ?_
    rintro _ _ ⟨rfl, rfl⟩
    refine back trivial ?_
    refine g1 ?_
    exact ⟨by simp_all, by simp_all⟩
theorem c93_t (x : Str) (hg : h.get g = some (rdr s st)) (hst : V s st) (hs : s.length ≤ 1000) (hx : isSign x st = true) : ACalls Tryz.prog G 93 [.ptr g 0, .str x] h (fun out h' => out = .ret (.bool true) ∧ h' = h.set g (rdr s (nxt s st))) := by
  have := c93 (G := G) x hg hst hs
  rw [hx] at this
  exact this
theorem c93_f (x : Str) (hg : h.get g = some (rdr s st)) (hst : V s st) (hs : s.length ≤ 1000) (hx : isSign x st = false) : ACalls Tryz.prog G 93 [.ptr g 0, .str x] h (Gives (.bool false) h) := by
  have := c93 (G := G) x hg hst hs
  rw [hx] at this
  exact this

theorem c98 (hg : h.get g = some (rdr s st)) : ACalls Tryz.prog G 98 [.ptr g 0] h (fun out h' => out = .panic (fault st.1.pos 3) ∧ h' = h) := by
  refine en98 (by simp) fun hw => ?_
  refine g1 ?_
  refine s_panic rfl ?_
  refine g1 ?_
  exact ⟨rfl, rfl⟩

theorem c162 (k : Nat) (hk : k ≤ 100) (hg : h.get g = some (rdr s st)) (hst : V s st) (hs : s.length ≤ 1000) : ACalls Tryz.prog G 162 [.ptr g 0, .int .i64 k] h (RP s g h .str (textP s k st)) := by
  refine en162 (by simp) fun hw => ?_
  refine g2 ?_ ?_ <;> (repeat intro hb hc)
  · refine s_call rfl rfl rfl ca98 ?_
    refine (c98 hg).mono ?_
    rintro _ _ ⟨rfl, rfl⟩
    refine back_p ?_
    refine g1 ?_
    have : st.1.kind ≠ k := by omega
    simp only [textP, if_neg this]
    exact ⟨st, rfl, (set_same hg).symm⟩
  · refine s_call rfl rfl rfl ca91 ?_
    refine (c91 hg hst hs).mono ?_
    rintro _ _ ⟨rfl, rfl⟩
    refine back trivial ?_
    refine g1 ?_
    have : st.1.kind = k := by omega
    simp only [textP, if_pos this]
    exact ⟨hst.next, rfl, rfl⟩
theorem c99 (hg : h.get g = some (rdr s st)) (hst : V s st) (hs : s.length ≤ 1000) : ACalls Tryz.prog G 99 [.ptr g 0] h (RP s g h .str (textP s 2 st)) := by
  refine en99 (by simp) fun hw => ?_
  refine g1 ?_
  refine s_call rfl rfl rfl ca162 ?_
  refine call_r (c162 2 (by omega) hg hst hs) (fun a st1 hr hl => back trivial ?_) (fun p x st1 hr => ?_)
  · refine g1 ?_
    rw [hr]
    exact ⟨hl, rfl, rfl⟩
  · refine g1 ?_
    rw [hr]
    exact ⟨st1, rfl, rfl⟩

theorem c277 (t : Str) (c : UInt8) (ht : t.length ≤ 1000) : ACalls Tryz.prog G 277 [.str t, .int .u8 c.toNat] h (Gives (.str (t.dropWhile (· == c))) h) := by
  refine en277 (by simp) fun hw => ?_
  repeat first | (apply s_gen @tt; exact rfl; exact rfl; first | exact trivial | omega | (simp <;> omega)) | apply w_seq | apply w_ops | apply s_nil | apply x_n | apply w_skip | apply w_ret | apply w_block | (apply w_exit; exact rfl) | apply b_n | apply x_p | apply x_0 | (apply s_loadp (gd := none); exact rfl; exact tt rfl; exact rfl; exact hpp; exact rfl; exact rfl; exact fun _ => rfl) | (refine s_store (tt rfl) rfl rfl hpp rfl rfl rfl rfl ⟨trivial, ?_⟩) | (apply g_t; exact rfl; (first | assumption | with_reducible rfl | decide)) | (apply g_f; exact rfl; (first | assumption | with_reducible rfl | decide); exact trivial) | (apply g_u; exact rfl; exact trivial) | (apply s_pick_t (gd := none); exact rfl; exact rfl; (first | assumption | with_reducible rfl | decide); exact rfl; exact rfl) | (apply s_pick_f (gd := none); exact rfl; exact rfl; (first | assumption | with_reducible rfl | decide); exact rfl; exact rfl) | (apply w_cond_t; exact rfl; (first | assumption | with_reducible rfl | decide)) | (apply w_cond_f; exact rfl; (first | assumption | with_reducible rfl | decide)) | (apply z_1; exact rfl) | (apply z_2; exact rfl; exact rfl) | (apply z_3; exact rfl; exact rfl; exact rfl) | (apply z_ct; exact rfl; exact tt rfl; exact hpp; exact rfl; exact rfl; exact rfl) | (apply z_c; exact rfl; exact tt rfl; exact hpp; exact rfl; exact rfl) | apply z_0r | apply z_0n | apply z_p | (apply s_sub8; exact rfl; exact rfl; exact rfl; omega; exact fun _ => rfl) | (apply s_conv64; exact rfl; exact tt rfl; exact tt rfl; exact rfl; omega; exact fun _ => rfl) | (apply s_bin; exact rfl; exact rfl; exact rfl; exact rfl; exact fun _ => rfl; exact fun _ => trivial) | (apply s_conv_int; exact rfl; exact tt rfl; exact tt rfl; exact rfl; exact fun _ => rfl)
  refine w_loop (fun e h' n => ∃ u : Str, u.length ≤ t.length ∧ u.dropWhile (· == c) = t.dropWhile (· == c) ∧ n = u.length ∧ h' = h ∧ e = [(0, true, .str u), (1, true, .int .u8 c.toNat)])
    _ _ (.cons rfl (.cons rfl (.nil _))) ⟨t, Nat.le_refl _, rfl, rfl, rfl, rfl⟩ ?_
  rintro _ _ _ ⟨u, hu, hd, rfl, rfl, rfl⟩
  refine g3 ?_ ?_ ?_ <;> (repeat intro hb hc)
  · cases u with
    | nil => simp at *
    | cons d r =>
      have hdc : d = c := by apply UInt8.toNat_inj.1; simp at hb; omega
      refine l_n _ _ ?_ ?_ ⟨r, by simp at hu; omega, ?_, rfl, rfl, rfl⟩
      · simp
      · refine .cons ?_ (.cons rfl (.nil _))
        simp [Env.get]
      · rw [← hd, List.dropWhile_cons, if_pos (by simp [hdc])]
  · refine ⟨?_, rfl⟩
    cases u with
    | nil => rw [← hd]; rfl
    | cons d r =>
      have hdc : (d == c) = false := by
        rw [beq_eq_false_iff_ne]; intro h; subst h; simp at *
      rw [← hd, List.dropWhile_cons, if_neg (by simp [hdc])]
  · refine ⟨?_, rfl⟩
    cases u with
    | nil => rw [← hd]; rfl
    | cons d r => simp at *

set_option maxRecDepth 100000 in
theorem c253 (t : Str) (ht : t.length ≤ 1000) : ACalls Tryz.prog G 253 [.str t, .str [48]] h (Gives (.str (t.dropWhile (· == 48))) h) := by
  refine en253 (by simp) fun hw => ?_
  refine g2 ?_ ?_ <;> (repeat intro hb hc)
  · refine s_call rfl rfl rfl ca277 ?_
    refine (c277 t 48 ht).mono ?_
    rintro _ _ ⟨rfl, rfl⟩
    refine back trivial ?_
    refine g1 ?_
    exact ⟨rfl, rfl⟩
  · refine ⟨?_, rfl⟩
    have : t = [] := by assumption
    subst this
    rfl

theorem c255 (hg : h.get g = some (rdr s st)) (hst : V s st) (hs : s.length ≤ 1000) : ACalls Tryz.prog G 255 [.ptr g 0] h (RP s g h .bool (foldP s st)) := by
  refine en255 (by simp) fun hw => ?_
  refine g1 ?_
  unfold foldP
  cases hx : isSign [37, 99] st with
  | true =>
    refine s_call rfl rfl rfl ca93 ?_
    refine (c93_t [37, 99] hg hst hs hx).mono ?_
    rintro _ _ ⟨rfl, rfl⟩
    refine back trivial ?_
    refine g1 ?_
    exact ⟨hst.next, rfl, rfl⟩
  | false =>
    refine s_call rfl rfl rfl ca93 ?_
    refine (c93_f [37, 99] hg hst hs hx).mono ?_
    rintro _ _ ⟨rfl, rfl⟩
    refine back trivial ?_
    refine g1 ?_
    exact ⟨hst, rfl, (set_same hg).symm⟩

/-- The list of one string that 'must' is given. -/
theorem c234 (x : Str) (hg : h.get g = some (rdr s st)) (hst : V s st) (hs : s.length ≤ 1000) : ACalls Tryz.prog G 234 [.ptr g 0, .sl 1 [[.str x]] .frz] h (RP s g h (fun _ => .tuple []) (mustP s x st)) := by
  refine en234 (by simp) fun hw => ?_
  repeat first | (apply s_gen @tt; exact rfl; exact rfl; first | exact trivial | omega | (simp <;> omega)) | apply w_seq | apply w_ops | apply s_nil | apply x_n | apply w_skip | apply w_ret | apply w_block | (apply w_exit; exact rfl) | apply b_n | apply x_p | apply x_0 | (apply s_loadp (gd := none); exact rfl; exact tt rfl; exact rfl; exact hpp; exact rfl; exact rfl; exact fun _ => rfl) | (refine s_store (tt rfl) rfl rfl hpp rfl rfl rfl rfl ⟨trivial, ?_⟩) | (apply g_t; exact rfl; (first | assumption | with_reducible rfl | decide)) | (apply g_f; exact rfl; (first | assumption | with_reducible rfl | decide); exact trivial) | (apply g_u; exact rfl; exact trivial) | (apply s_pick_t (gd := none); exact rfl; exact rfl; (first | assumption | with_reducible rfl | decide); exact rfl; exact rfl) | (apply s_pick_f (gd := none); exact rfl; exact rfl; (first | assumption | with_reducible rfl | decide); exact rfl; exact rfl) | (apply w_cond_t; exact rfl; (first | assumption | with_reducible rfl | decide)) | (apply w_cond_f; exact rfl; (first | assumption | with_reducible rfl | decide)) | (apply z_1; exact rfl) | (apply z_2; exact rfl; exact rfl) | (apply z_3; exact rfl; exact rfl; exact rfl) | (apply z_ct; exact rfl; exact tt rfl; exact hpp; exact rfl; exact rfl; exact rfl) | (apply z_c; exact rfl; exact tt rfl; exact hpp; exact rfl; exact rfl) | apply z_0r | apply z_0n | apply z_p | (apply s_sub8; exact rfl; exact rfl; exact rfl; omega; exact fun _ => rfl) | (apply s_conv64; exact rfl; exact tt rfl; exact tt rfl; exact rfl; omega; exact fun _ => rfl) | (apply s_bin; exact rfl; exact rfl; exact rfl; exact rfl; exact fun _ => rfl; exact fun _ => trivial) | (apply s_conv_int; exact rfl; exact tt rfl; exact tt rfl; exact rfl; exact fun _ => rfl)
  unfold mustP
  cases hx : isSign x st with
  | true =>
    refine w_loop (fun e h' n => (n = 1 ∧ h' = h ∧ e = [(0, true, .ptr g 0), (6, true, .sl 1 [[.str x]] .frz), (7, true, .int .i64 1), (8, true, .int .i64 0)]) ∨
      (n = 0 ∧ h' = h.set g (rdr s (nxt s st)) ∧ e = [(0, true, .ptr g 0), (6, true, .sl 1 [[.str x]] .frz), (7, true, .int .i64 1), (8, true, .int .i64 1)])) _ _ (.cons rfl (.cons rfl (.cons rfl (.cons rfl (.nil _))))) (.inl ⟨rfl, rfl, rfl⟩) ?_
    rintro _ _ _ (⟨rfl, rfl, rfl⟩ | ⟨rfl, rfl, rfl⟩)
    · refine g1 ?_
      refine s_ia rfl (tt rfl) (tt rfl) rfl rfl rfl (fun _ => rfl) (by omega) rfl ?_
      refine g1 ?_
      refine s_call rfl rfl rfl ca93 ?_
      refine (c93_t x hg hst hs hx).mono ?_
      rintro _ _ ⟨rfl, rfl⟩
      refine back trivial ?_
      refine g1 ?_
      refine l_n _ _ ?_ ?_ (.inr ⟨rfl, rfl, rfl⟩)
      · omega
      · exact envv
    · refine g1 ?_
      exact ⟨hst.next, rfl, rfl⟩
  | false =>
    refine w_loop (fun e h' n => (n = 1 ∧ h' = h ∧ e = [(0, true, .ptr g 0), (6, true, .sl 1 [[.str x]] .frz), (7, true, .int .i64 1), (8, true, .int .i64 0)])) _ _ (.cons rfl (.cons rfl (.cons rfl (.cons rfl (.nil _))))) ⟨rfl, rfl, rfl⟩ ?_
    rintro _ _ _ ⟨rfl, rfl, rfl⟩
    refine g1 ?_
    refine s_ia rfl (tt rfl) (tt rfl) rfl rfl rfl (fun _ => rfl) (by omega) rfl ?_
    refine g1 ?_
    refine s_call rfl rfl rfl ca93 ?_
    refine (c93_f x hg hst hs hx).mono ?_
    rintro _ _ ⟨rfl, rfl⟩
    refine back trivial ?_
    refine g1 ?_
    refine s_call rfl rfl rfl ca98 ?_
    refine (c98 hg).mono ?_
    rintro _ _ ⟨rfl, rfl⟩
    refine back_p ?_
    refine g1 ?_
    exact ⟨st, rfl, (set_same hg).symm⟩

theorem must_args (g : Nat) (x : Str) : WeakL [.ptr g 0, .sl 1 [[.str x]] .full] [.ptr g 0, .sl 1 [[.str x]] .frz] := .cons (.refl _) (.cons weak_frz .nil)

theorem c282 (hg : h.get g = some (rdr s st)) (hst : V s st) (hs : s.length ≤ 1000) : ACalls Tryz.prog G 282 [.ptr g 0] h (RP s g h .str (commaP s st)) := by
  refine en282 (by simp) fun hw => ?_
  refine g1 ?_
  refine s_call rfl rfl rfl ca234 ?_
  refine call_r ((c234 [44] hg hst hs).args (must_args g [44])) (fun a st1 hr hl => back trivial ?_) (fun p x st1 hr => ?_)
  · refine g1 ?_
    unfold commaP
    rw [hr]
    refine s_call rfl rfl rfl ca99 ?_
    refine call_r (c99 hs_self hl hs) (fun a st1 hr hl => back trivial ?_) (fun p x st1 hr => ?_)
    · refine g1 ?_
      simp only [R.bind, hr]
      exact ⟨hl, rfl, set_set⟩
    · refine g1 ?_
      simp only [R.bind, hr]
      exact ⟨_, rfl, set_set⟩
  · refine g1 ?_
    simp only [commaP, hr, R.bind]
    exact ⟨st1, rfl, rfl⟩
end
end Go.Proofs

/- Numbers read by the reader. No conditions. -/
namespace Go.Proofs
open Go.Abs Go.Q
attribute [local irreducible] awp aops Run BodyQ ACalls Back
section
variable {G : Nat → Option Obj} {h : AHeap} {s : Str} {st : S} {g : Nat}

theorem c233 (most pos : Nat) (hm : most ≤ 100000) (hp : pos ≤ 1000) (hg : h.get g = some (rdr s st)) (hst : V s st) (hs : s.length ≤ 1000) : ACalls Tryz.prog G 233 [.ptr g 0, .int .i64 most, .int .i64 pos] h (RP s g h (.int .i64) (numberP s most pos st)) := by
  refine en233 (by simp) fun hw => ?_
  refine g1 ?_
  unfold numberP
  refine s_call rfl rfl rfl ca162 ?_
  refine call_r (c162 3 (by omega) hg hst hs) (fun a st1 hr hl => back trivial ?_) (fun p x st1 hr => ?_)
  rotate_left
  · refine g1 ?_
    simp only [R.bind, hr]
    exact ⟨_, rfl, rfl⟩
  have hdig : (∀ c, c ∈ a → digit c = true) ∧ a.length ≤ 1000 := by
    unfold textP at hr
    split at hr
    · rename_i hk
      injection hr with h1 h2
      subst h1
      exact ⟨(hst.digits hk).1, Nat.le_trans (hst.digits hk).2 hs⟩
    · cases hr
  rw [hr]
  simp only [R.bind]
  refine g1 ?_
  refine s_call rfl rfl rfl ca253 ?_
  refine (c253 a hdig.2).mono ?_
  rintro _ _ ⟨rfl, rfl⟩
  refine back trivial ?_
  refine g1 ?_
  obtain ⟨u, hu⟩ : ∃ u, u = a.dropWhile (· == 48) := ⟨_, rfl⟩
  have hnum : numV u = numV a := by rw [hu, numV_zeros]
  have hud : ∀ c, c ∈ u → digit c = true := fun c hc => hdig.1 c ((List.dropWhile_suffix _).subset (by rw [hu] at hc; exact hc))
  have hul : u.length ≤ 1000 := by have := (List.dropWhile_suffix (fun x => x == 48) (l := a)).length_le; rw [hu]; omega
  rw [← hu]
  rw [← hnum]
  refine w_loop (fun e h' n => ∃ i : Nat, i ≤ u.length ∧ numV (u.take i) ≤ 10 * most + 9 ∧ n = u.length - i ∧ h' = h.set g (rdr s st1) ∧ e = [(1, true, .int .i64 most), (2, true, .int .i64 pos), (7, true, .str u), (8, true, .int .i64 (numV (u.take i))), (9, true, .int .i64 i)])
    _ _ (.cons rfl (.cons rfl (.cons rfl (.cons rfl (.cons rfl (.nil _)))))) ⟨0, by omega, by simp [numV], rfl, rfl, rfl⟩ ?_
  rintro _ _ _ ⟨i, hi, hn, rfl, rfl, rfl⟩
  by_cases hil : i < u.length
  · have hc := hud (u.getD i 0) (by rw [getD_of hil]; exact List.getElem_mem hil)
    have hc2 : 48 ≤ (u.getD (i : Int).toNat 0).toNat ∧ (u.getD (i : Int).toNat 0).toNat ≤ 57 := by
      simpa [digit] using hc
    have hsn := numV_snoc (u.take i) (u.getD i 0)
    rw [← take_snoc hil] at hsn
    have e0 : (u.getD (i : Int).toNat 0).toNat = (u.getD i 0).toNat := rfl
    refine g5 ?_ ?_ ?_ ?_ ?_ <;> (repeat intro hb hc)
    · refine l_n _ _ ?_ ?_ ⟨i + 1, by omega, by omega, rfl, rfl, rfl⟩
      · omega
      · refine .cons rfl (.cons rfl (.cons rfl (.cons ?_ (.cons rfl (.nil _)))))
        simp only [Env.get, hsn]
        simp only [reduceIte, Option.some.injEq, Prod.mk.injEq, AVal.int.injEq, true_and, Nat.reduceEqDiff, Nat.succ_ne_self, if_false]
        omega
    · refine s_panic rfl ?_
      refine g1 ?_
      have : numV u > most := by have := numV_take u i; omega
      rw [if_pos this]
      exact ⟨_, rfl, rfl⟩
    all_goals omega
  · obtain rfl : i = u.length := by omega
    rw [List.take_length] at hn ⊢
    refine g5 ?_ ?_ ?_ ?_ ?_ <;> (repeat intro hb hc)
    · omega
    · omega
    · omega
    · refine s_panic rfl ?_
      refine g1 ?_
      have : numV u > most := by omega
      rw [if_pos this]
      exact ⟨_, rfl, rfl⟩
    · have : ¬ numV u > most := by omega
      rw [if_neg this]
      exact ⟨hl, rfl, rfl⟩

theorem c281 (hg : h.get g = some (rdr s st)) (hst : V s st) (hs : s.length ≤ 1000) : ACalls Tryz.prog G 281 [.ptr g 0] h (RP s g h (.int .i64) (bigP s st)) := by
  refine en281 (by simp) fun hw => ?_
  refine g1 ?_
  refine s_call rfl rfl rfl ca233 ?_
  refine call_r (c233 100000 st.1.pos (by omega) (by have := hst.pos; have := hst.le; omega) hg hst hs) (fun a st1 hr hl => back trivial ?_) (fun p x st1 hr => ?_)
  · refine g1 ?_
    simp only [bigP, hr]
    exact ⟨hl, rfl, rfl⟩
  · refine g1 ?_
    simp only [bigP, hr]
    exact ⟨_, rfl, rfl⟩
theorem numberP_le {most pos : Nat} {n : Int} {st1 : S} (h : numberP s most pos st = .ok n st1) : 0 ≤ n ∧ n ≤ most := by
  unfold numberP textP at h
  split at h
  · simp only [R.bind] at h
    split at h
    · cases h
    · injection h with h1 h2
      omega
  · cases h
theorem c283 (hg : h.get g = some (rdr s st)) (hst : V s st) (hs : s.length ≤ 1000) : ACalls Tryz.prog G 283 [.ptr g 0] h (RP s g h (.int .i64) (signedP s st)) := by
  refine en283 (by simp) fun hw => ?_
  refine g1 ?_
  unfold signedP
  cases hx : isSign [45] st with
  | true =>
    refine s_call rfl rfl rfl ca93 ?_
    refine (c93_t [45] hg hst hs hx).mono ?_
    rintro _ _ ⟨rfl, rfl⟩
    refine back trivial ?_
    refine g1 ?_
    refine s_call rfl rfl rfl ca281 ?_
    refine call_r (c281 hs_self hst.next hs) (fun a st1 hr hl => back trivial ?_) (fun p x st1 hr => ?_)
    · have := numberP_le hr
      refine g1 ?_
      simp only [reduceIte, hr, R.bind]
      exact ⟨hl, rfl, set_set⟩
    · refine g1 ?_
      simp only [reduceIte, hr, R.bind]
      exact ⟨_, rfl, set_set⟩
  | false =>
    refine s_call rfl rfl rfl ca93 ?_
    refine (c93_f [45] hg hst hs hx).mono ?_
    rintro _ _ ⟨rfl, rfl⟩
    refine back trivial ?_
    refine g1 ?_
    refine s_call rfl rfl rfl ca281 ?_
    refine call_r (c281 hg hst hs) (fun a st1 hr hl => back trivial ?_) (fun p x st1 hr => ?_)
    · refine g1 ?_
      simp only [hr]
      exact ⟨hl, rfl, rfl⟩
    · refine g1 ?_
      simp only [hr]
      exact ⟨_, rfl, rfl⟩
end
end Go.Proofs

/- The codes of some functions, tied to the loaded program. No conditions. -/
namespace Go.Proofs
open Go.Abs Go.Abs.I
def r301_0 : L := [o 4 (.alloc 29)]
def r301_1 : L := [o 5 (m (t 1)),
  o 6 (ln (t 5) 27),
  o 7 (.binOp .eql 3 (t 6) (k 1) 3)]
def r301_2 : L := [o 8 (m (t 1)),
  o 9 (.indexAddr 27 (t 8) (k 0)),
  o 10 (l 29 (t 9)),
  q (.store 29 (t 4) (t 10))]
def r301_3 : L := [o 11 (m (t 0)),
  o 12 (m (t 1)),
  o 13 (.build 29 #[(0, (t 11)), (6, (t 12))]),
  q (.store 29 (t 4) (t 13))]
def ir301 : ACode := .seq (.ops r301_0) (.seq (.seq (.ops r301_1) (.cond (t 7) (.seq (.ops r301_2) (.ret)) (.skip))) (.seq (.ops r301_3) (.ret)))
theorem en301 : En ir301 14 [.cell 4 29] 301 := acalls_enter_b mixed Tryz.func301 Tryz.ntmps301 (by kernel_rfl) (by kernel_rfl)
theorem ca301 : Ca 301 := cal Tryz.func301
def r320_0 : L := [o 2 (.alloc 29)]
def r320_1 : L := [o 8 (m (t 0)),
  o 9 (.call ⟨.value (f 99), #[(t 8)], #[73]⟩),
  o 3 (a (t 9))]
def r320_2 : L := [o 10 (m (t 3)),
  o 11 (.binOp .eql 9 (t 10) (s #[105, 110]) 9),
  o 12 (m (t 11)),
  y 13 (m (t 0)) 12 true,
  y 14 (.call ⟨.value (f 93), #[(t 13), (s #[40])], #[73, 9]⟩) 12 true,
  o 15 (.pick (t 12) (t 14) (b false))]
def r320_3 : L := [o 16 (m (t 0)),
  o 17 (.call ⟨.value (f 99), #[(t 16)], #[73]⟩),
  o 18 (.build 29 #[(0, (k 5)), (1, (t 17))]),
  o 4 (.alloc 29),
  q (.store 29 (t 4) (t 18))]
def r320_4 : L := [o 19 (m (t 0)),
  o 20 (.call ⟨.value (f 93), #[(t 19), (s #[44])], #[73, 9]⟩)]
def r320_5 : L := [o 21 (m (t 0)),
  o 22 (.call ⟨.value (f 99), #[(t 21)], #[73]⟩),
  o 23 (fa 29 (t 4) 2),
  q (.store 9 (t 23) (t 22))]
def r320_6 : L := [o 24 (m (t 0)),
  o 25 (.buildSlice 23 1 #[(0, (s #[61]))]),
  o 26 (.call ⟨.value (f 234), #[(t 24), (t 25)], #[73, 23]⟩)]
def r320_7 : L := [o 27 (m (t 0)),
  o 28 (.call ⟨.value (f 162), #[(t 27), (k 4)], #[73, 3]⟩),
  o 29 (fa 29 (t 4) 3),
  q (.store 9 (t 29) (t 28))]
def r320_8 : L := [o 30 (m (t 0)),
  o 31 (.buildSlice 23 1 #[(0, (s #[41]))]),
  o 32 (.call ⟨.value (f 234), #[(t 30), (t 31)], #[73, 23]⟩)]
def r320_9 : L := [o 33 (l 29 (t 4)),
  q (.store 29 (t 2) (t 33))]
def r320_10 : L := [o 35 (m (t 0)),
  o 36 (.buildSlice 23 1 #[(0, (s #[99, 111, 110, 116, 97, 105, 110, 115]))]),
  o 37 (.call ⟨.value (f 96), #[(t 35), (t 36)], #[73, 23]⟩),
  o 34 (a (t 37))]
def r320_11 : L := [o 38 (m (t 0)),
  o 39 (.call ⟨.value (f 91), #[(t 38)], #[73]⟩)]
def r320_12 : L := [o 40 (m (t 3)),
  o 41 (m (t 0)),
  o 42 (.call ⟨.value (f 162), #[(t 41), (k 4)], #[73, 3]⟩),
  o 43 (.build 29 #[(0, (k 3)), (1, (t 40)), (3, (t 42))]),
  q (.store 29 (t 2) (t 43))]
def r320_13 : L := [o 45 (m (t 0)),
  o 46 (.call ⟨.value (f 93), #[(t 45), (s #[33, 61])], #[73, 9]⟩),
  o 44 (a (t 46))]
def r320_14 : L := [o 47 (m (t 3)),
  o 48 (m (t 0)),
  o 49 (.call ⟨.value (f 162), #[(t 48), (k 4)], #[73, 3]⟩),
  o 50 (.build 29 #[(0, (k 2)), (1, (t 47)), (3, (t 49))]),
  o 5 (.alloc 29),
  q (.store 29 (t 5) (t 50))]
def r320_15 : L := [o 51 (m (t 0)),
  o 52 (.call ⟨.value (f 255), #[(t 51)], #[73]⟩),
  o 53 (fa 29 (t 5) 5),
  q (.store 4 (t 53) (t 52))]
def r320_16 : L := [o 54 (l 29 (t 5)),
  o 55 (.buildSlice 27 1 #[(0, (t 54))]),
  o 56 (.build 29 #[(0, (k 6)), (6, (t 55))]),
  q (.store 29 (t 2) (t 56))]
def r320_17 : L := [o 57 (m (t 0)),
  o 58 (.buildSlice 23 1 #[(0, (s #[61]))]),
  o 59 (.call ⟨.value (f 234), #[(t 57), (t 58)], #[73, 23]⟩)]
def r320_18 : L := [o 60 (m (t 0)),
  o 61 (.nilCheck (t 60)),
  o 62 (fa 77 (t 61) 2),
  o 63 (fa 75 (t 62) 0),
  o 64 (l 3 (t 63)),
  o 65 (.binOp .eql 3 (t 64) (k 2) 3)]
def r320_19 : L := [o 66 (m (t 3)),
  o 67 (m (t 0)),
  o 68 (.call ⟨.value (f 99), #[(t 67)], #[73]⟩),
  o 69 (.build 29 #[(0, (k 4)), (1, (t 66)), (4, (t 68))]),
  o 6 (.alloc 29),
  q (.store 29 (t 6) (t 69))]
def r320_20 : L := [o 70 (m (t 0)),
  o 71 (.buildSlice 23 1 #[(0, (s #[46]))]),
  o 72 (.call ⟨.value (f 234), #[(t 70), (t 71)], #[73, 23]⟩)]
def r320_21 : L := [o 73 (m (t 0)),
  o 74 (.call ⟨.value (f 99), #[(t 73)], #[73]⟩),
  o 75 (fa 29 (t 6) 2),
  q (.store 9 (t 75) (t 74))]
def r320_22 : L := [o 76 (l 29 (t 6)),
  q (.store 29 (t 2) (t 76))]
def r320_23 : L := [o 77 (m (t 3)),
  o 78 (m (t 0)),
  o 79 (.call ⟨.value (f 162), #[(t 78), (k 4)], #[73, 3]⟩),
  o 80 (.build 29 #[(0, (k 2)), (1, (t 77)), (3, (t 79))]),
  o 7 (.alloc 29),
  q (.store 29 (t 7) (t 80))]
def r320_24 : L := [o 81 (m (t 0)),
  o 82 (.call ⟨.value (f 255), #[(t 81)], #[73]⟩),
  o 83 (fa 29 (t 7) 5),
  q (.store 4 (t 83) (t 82))]
def r320_25 : L := [o 84 (l 29 (t 7)),
  q (.store 29 (t 2) (t 84))]
def ir320 : ACode := .seq (.ops r320_0) (.seq (.ops r320_1) (.seq (.seq (.ops r320_2) (.cond (t 15) (.seq (.ops r320_3) (.seq (.seq (.ops r320_4) (.cond (t 20) (.seq (.ops r320_5) (.seq (.ops r320_6) (.ops r320_7))) (.skip))) (.seq (.ops r320_8) (.seq (.ops r320_9) (.ret))))) (.skip))) (.seq (.block 0 (.seq (.ops r320_10) (.cond (t 34) (.seq (.ops r320_11) (.seq (.ops r320_12) (.ret))) (.seq (.ops r320_13) (.cond (t 44) (.seq (.ops r320_14) (.seq (.ops r320_15) (.seq (.ops r320_16) (.ret)))) (.skip)))))) (.seq (.ops r320_17) (.seq (.seq (.ops r320_18) (.cond (t 65) (.seq (.ops r320_19) (.seq (.ops r320_20) (.seq (.ops r320_21) (.seq (.ops r320_22) (.ret))))) (.skip))) (.seq (.ops r320_23) (.seq (.ops r320_24) (.seq (.ops r320_25) (.ret)))))))))
theorem en320 : En ir320 85 [.cell 2 29] 320 := acalls_enter_b mixed Tryz.func320 Tryz.ntmps320 (by kernel_rfl) (by kernel_rfl)
theorem ca320 : Ca 320 := cal Tryz.func320
def r313_0 : L := [o 2 (.alloc 29)]
def r313_1 : L := [o 5 (m (t 0)),
  o 6 (.call ⟨.value (f 93), #[(t 5), (s #[33])], #[73, 9]⟩),
  o 4 (a (t 6))]
def r313_2 : L := [o 7 (m (t 0)),
  o 8 (.call ⟨.value (f 313), #[(t 7)], #[73]⟩),
  o 9 (.buildSlice 27 1 #[(0, (t 8))]),
  o 10 (.build 29 #[(0, (k 6)), (6, (t 9))]),
  q (.store 29 (t 2) (t 10))]
def r313_3 : L := [o 12 (m (t 0)),
  o 13 (.call ⟨.value (f 93), #[(t 12), (s #[40])], #[73, 9]⟩),
  o 11 (a (t 13))]
def r313_4 : L := [o 14 (m (t 0)),
  o 15 (.call ⟨.value (f 276), #[(t 14)], #[73]⟩),
  o 3 (.alloc 29),
  q (.store 29 (t 3) (t 15))]
def r313_5 : L := [o 16 (m (t 0)),
  o 17 (.buildSlice 23 1 #[(0, (s #[41]))]),
  o 18 (.call ⟨.value (f 234), #[(t 16), (t 17)], #[73, 23]⟩)]
def r313_6 : L := [o 19 (l 29 (t 3)),
  q (.store 29 (t 2) (t 19))]
def r313_7 : L := [o 20 (m (t 0)),
  o 21 (.call ⟨.value (f 320), #[(t 20)], #[73]⟩),
  q (.store 29 (t 2) (t 21))]
def ir313 : ACode := .seq (.ops r313_0) (.seq (.block 0 (.seq (.ops r313_1) (.cond (t 4) (.seq (.ops r313_2) (.ret)) (.seq (.ops r313_3) (.cond (t 11) (.seq (.ops r313_4) (.seq (.ops r313_5) (.seq (.ops r313_6) (.ret)))) (.skip)))))) (.seq (.ops r313_7) (.ret)))
theorem en313 : En ir313 22 [.cell 2 29] 313 := acalls_enter_b mixed Tryz.func313 Tryz.ntmps313 (by kernel_rfl) (by kernel_rfl)
theorem ca313 : Ca 313 := cal Tryz.func313
def r276_0 : L := [o 2 (.alloc 29)]
def r276_1 : L := [o 4 (m (t 0)),
  o 5 (.call ⟨.value (f 300), #[(t 4)], #[73]⟩),
  o 6 (.buildSlice 27 1 #[(0, (t 5))]),
  o 3 (a (t 6))]
def r276_2 : L := [o 7 (m (t 0)),
  o 8 (.call ⟨.value (f 93), #[(t 7), (s #[124])], #[73, 9]⟩)]
def r276_3 : L := [o 9 (m (t 3)),
  o 10 (m (t 0)),
  o 11 (.call ⟨.value (f 300), #[(t 10)], #[73]⟩),
  o 12 (.buildSlice 27 1 #[(0, (t 11))]),
  o 13 (.call ⟨.builtin .append, #[(t 9), (t 12)], #[27, 27]⟩),
  o 3 (a (t 13))]
def r276_4 : L := [o 14 (m (t 3)),
  o 15 (.call ⟨.value (f 301), #[(k 8), (t 14)], #[3, 27]⟩),
  q (.store 29 (t 2) (t 15))]
def ir276 : ACode := .seq (.ops r276_0) (.seq (.ops r276_1) (.seq (.block 0 (.loop (.seq (.seq (.ops r276_2) (.cond (t 8) (.skip) (.exit 0))) (.block 1 (.ops r276_3))))) (.seq (.ops r276_4) (.ret))))
theorem en276 : En ir276 16 [.cell 2 29] 276 := acalls_enter_b mixed Tryz.func276 Tryz.ntmps276 (by kernel_rfl) (by kernel_rfl)
theorem ca276 : Ca 276 := cal Tryz.func276
def r300_0 : L := [o 2 (.alloc 29)]
def r300_1 : L := [o 4 (m (t 0)),
  o 5 (.call ⟨.value (f 313), #[(t 4)], #[73]⟩),
  o 6 (.buildSlice 27 1 #[(0, (t 5))]),
  o 3 (a (t 6))]
def r300_2 : L := [o 7 (m (t 0)),
  o 8 (.call ⟨.value (f 93), #[(t 7), (s #[38])], #[73, 9]⟩)]
def r300_3 : L := [o 9 (m (t 3)),
  o 10 (m (t 0)),
  o 11 (.call ⟨.value (f 313), #[(t 10)], #[73]⟩),
  o 12 (.buildSlice 27 1 #[(0, (t 11))]),
  o 13 (.call ⟨.builtin .append, #[(t 9), (t 12)], #[27, 27]⟩),
  o 3 (a (t 13))]
def r300_4 : L := [o 14 (m (t 3)),
  o 15 (.call ⟨.value (f 301), #[(k 7), (t 14)], #[3, 27]⟩),
  q (.store 29 (t 2) (t 15))]
def ir300 : ACode := .seq (.ops r300_0) (.seq (.ops r300_1) (.seq (.block 0 (.loop (.seq (.seq (.ops r300_2) (.cond (t 8) (.skip) (.exit 0))) (.block 1 (.ops r300_3))))) (.seq (.ops r300_4) (.ret))))
theorem en300 : En ir300 16 [.cell 2 29] 300 := acalls_enter_b mixed Tryz.func300 Tryz.ntmps300 (by kernel_rfl) (by kernel_rfl)
theorem ca300 : Ca 300 := cal Tryz.func300
end Go.Proofs

/- Conditions read by the reader. No conditions. -/
namespace Go.Proofs
open Go.Abs Go.Q
attribute [local irreducible] awp aops Run BodyQ ACalls Back
section
variable {G : Nat → Option Obj} {h : AHeap} {s : Str} {st : S} {g : Nat}

abbrev encCa (c : Cond) : AVal := .agg (encC c)


set_option maxHeartbeats 4000000 in
set_option maxRecDepth 10000 in
theorem c320 (hg : h.get g = some (rdr s st)) (hst : V s st) (hs : s.length ≤ 1000) : ACalls Tryz.prog G 320 [.ptr g 0] h (RP s g h encCa (atomP s st)) := by
  refine ACalls.fin (en320 (by simp) fun hw => ?_)
  have hgl := hw g _ hg
  refine g1 ?_
  refine s_alloc (tt rfl) fun b1 hb1 => ⟨trivial, ?_⟩
  try simp only [set_next, new_next] at hb1
  refine g1 ?_
  unfold atomP
  refine s_call rfl rfl rfl ca99 ?_
  refine call_r (c99 (st := st) hpp vvv hs) (fun name s1 hr hl => back trivial ?_) (fun p x st1 hr => ?_)
  rotate_left
  · apply z_p
    simp only [hr, sbb]
    exact fin_bad atss
  simp only [hr, sbb]
  refine g2 ?_ ?_ <;> (repeat intro hb hc)
  · simp only [hb, sbb]
    rcases Bool.eq_false_or_eq_true (isSign [40] s1) with hx | hx <;> simp only [hx, sbb]
    · refine s_call rfl rfl rfl ca93 ?_
      refine (c93_t [40] (st := s1) hpp vvv hs hx).mono ?_
      rintro _ _ ⟨rfl, rfl⟩
      refine back trivial ?_
      refine g1 ?_
      refine s_call rfl rfl rfl ca99 ?_
      refine call_r (c99 (st := nxt s s1) hpp vvv hs) (fun ty s2 hr hl => back trivial ?_) (fun p x st1 hr => ?_)
      rotate_left
      · apply z_p
        simp only [hr, sbb]
        exact fin_bad atss
      simp only [hr, sbb]
      refine g1 ?_
      refine s_alloc (tt rfl) fun b2 hb2 => ⟨trivial, ?_⟩
      try simp only [set_next, new_next] at hb2
      refine g1 ?_
      rcases Bool.eq_false_or_eq_true (isSign [44] s2) with hx | hx <;> simp only [hx, sbb]
      · refine s_call rfl rfl rfl ca93 ?_
        refine (c93_t [44] (st := s2) hpp vvv hs hx).mono ?_
        rintro _ _ ⟨rfl, rfl⟩
        refine back trivial ?_
        refine g1 ?_
        refine s_call rfl rfl rfl ca99 ?_
        refine call_r (c99 (st := nxt s s2) hpp vvv hs) (fun arg s3 hr hl => back trivial ?_) (fun p x st1 hr => ?_)
        rotate_left
        · apply z_p
          simp only [hr, sbb]
          exact fin_bad atss
        simp only [hr, sbb]
        refine g1 ?_
        refine s_call rfl rfl rfl ca234 ?_
        refine call_r ((c234 [61] (st := s3) hpp vvv hs).args (must_args g [61])) (fun u s4 hr hl => back trivial ?_) (fun p x st1 hr => ?_)
        rotate_left
        · apply z_p
          simp only [hr, sbb]
          exact fin_bad atss
        simp only [hr, sbb]
        refine g1 ?_
        refine s_call rfl rfl rfl ca162 ?_
        refine call_r (c162 4 (by omega) (st := s4) hpp vvv hs) (fun v s5 hr hl => back trivial ?_) (fun p x st1 hr => ?_)
        rotate_left
        · apply z_p
          simp only [hr, sbb]
          exact fin_bad atss
        simp only [hr, sbb]
        refine g1 ?_
        refine s_call rfl rfl rfl ca234 ?_
        refine call_r ((c234 [41] (st := s5) hpp vvv hs).args (must_args g [41])) (fun u s6 hr hl => back trivial ?_) (fun p x st1 hr => ?_)
        rotate_left
        · apply z_p
          simp only [hr, sbb]
          exact fin_bad atss
        simp only [hr, sbb]
        refine g1 ?_
        refine fin_ok atss vvv wkk
      · refine s_call rfl rfl rfl ca93 ?_
        refine (c93_f [44] (st := s2) hpp vvv hs hx).mono ?_
        rintro _ _ ⟨rfl, rfl⟩
        refine back trivial ?_
        refine g1 ?_
        refine s_call rfl rfl rfl ca234 ?_
        refine call_r ((c234 [41] (st := s2) hpp vvv hs).args (must_args g [41])) (fun u s3 hr hl => back trivial ?_) (fun p x st1 hr => ?_)
        rotate_left
        · apply z_p
          simp only [hr, sbb]
          exact fin_bad atss
        simp only [hr, sbb]
        refine g1 ?_
        refine fin_ok atss vvv wkk
    · refine s_call rfl rfl rfl ca93 ?_
      refine (c93_f [40] (st := s1) hpp vvv hs hx).mono ?_
      rintro _ _ ⟨rfl, rfl⟩
      refine back trivial ?_
      refine g1 ?_
      refine s_call rfl rfl rfl ca96 ?_
      refine ((c96 (st := s1) [[99, 111, 110, 116, 97, 105, 110, 115]] (by simp) hpp).args (.cons (.refl _) (.cons weak_frz .nil))).mono ?_
      rintro _ _ ⟨rfl, rfl⟩
      refine back trivial ?_
      rcases Bool.eq_false_or_eq_true (isWord [[99, 111, 110, 116, 97, 105, 110, 115]] s1) with hx | hx <;> simp only [hx, sbb]
      · refine g1 ?_
        refine s_call rfl rfl rfl ca91 ?_
        refine (c91 (st := s1) hpp vvv hs).mono ?_
        rintro _ _ ⟨rfl, rfl⟩
        refine back trivial ?_
        refine g1 ?_
        refine s_call rfl rfl rfl ca162 ?_
        refine call_r (c162 4 (by omega) (st := nxt s s1) hpp vvv hs) (fun v s2 hr hl => back trivial ?_) (fun p x st1 hr => ?_)
        rotate_left
        · apply z_p
          simp only [hr, sbb]
          exact fin_bad atss
        simp only [hr, sbb]
        refine g1 ?_
        refine fin_ok atss vvv wkk
      · refine g1 ?_
        rcases Bool.eq_false_or_eq_true (isSign [33, 61] s1) with hx | hx <;> simp only [hx, sbb]
        · refine s_call rfl rfl rfl ca93 ?_
          refine (c93_t [33, 61] (st := s1) hpp vvv hs hx).mono ?_
          rintro _ _ ⟨rfl, rfl⟩
          refine back trivial ?_
          refine g1 ?_
          refine s_call rfl rfl rfl ca162 ?_
          refine call_r (c162 4 (by omega) (st := nxt s s1) hpp vvv hs) (fun v s2 hr hl => back trivial ?_) (fun p x st1 hr => ?_)
          rotate_left
          · apply z_p
            simp only [hr, sbb]
            exact fin_bad atss
          simp only [hr, sbb]
          refine g1 ?_
          refine s_alloc (tt rfl) fun b2 hb2 => ⟨trivial, ?_⟩
          try simp only [set_next, new_next] at hb2
          refine g1 ?_
          refine s_call rfl rfl rfl ca255 ?_
          refine call_r (c255 (st := s2) hpp vvv hs) (fun f s3 hr hl => back trivial ?_) (fun p x st1 hr => ?_)
          rotate_left
          · apply z_p
            simp only [hr, sbb]
            exact fin_bad atss
          simp only [hr, sbb]
          refine g1 ?_
          refine fin_ok atss vvv wkk
        · refine s_call rfl rfl rfl ca93 ?_
          refine (c93_f [33, 61] (st := s1) hpp vvv hs hx).mono ?_
          rintro _ _ ⟨rfl, rfl⟩
          refine back trivial ?_
          refine g1 ?_
          refine s_call rfl rfl rfl ca234 ?_
          refine call_r ((c234 [61] (st := s1) hpp vvv hs).args (must_args g [61])) (fun u s2 hr hl => back trivial ?_) (fun p x st1 hr => ?_)
          rotate_left
          · apply z_p
            simp only [hr, sbb]
            exact fin_bad atss
          simp only [hr, sbb]
          refine g2 ?_ ?_ <;> (repeat intro hb hc)
          · have hk : s2.1.kind = 2 := by omega
            simp only [hk, sbb]
            refine s_call rfl rfl rfl ca99 ?_
            refine call_r (c99 (st := s2) hpp vvv hs) (fun lb s3 hr hl => back trivial ?_) (fun p x st1 hr => ?_)
            rotate_left
            · apply z_p
              simp only [hr, sbb]
              exact fin_bad atss
            simp only [hr, sbb]
            refine g1 ?_
            refine s_alloc (tt rfl) fun b2 hb2 => ⟨trivial, ?_⟩
            try simp only [set_next, new_next] at hb2
            refine g1 ?_
            refine s_call rfl rfl rfl ca234 ?_
            refine call_r ((c234 [46] (st := s3) hpp vvv hs).args (must_args g [46])) (fun u s4 hr hl => back trivial ?_) (fun p x st1 hr => ?_)
            rotate_left
            · apply z_p
              simp only [hr, sbb]
              exact fin_bad atss
            simp only [hr, sbb]
            refine g1 ?_
            refine s_call rfl rfl rfl ca99 ?_
            refine call_r (c99 (st := s4) hpp vvv hs) (fun arg s5 hr hl => back trivial ?_) (fun p x st1 hr => ?_)
            rotate_left
            · apply z_p
              simp only [hr, sbb]
              exact fin_bad atss
            simp only [hr, sbb]
            refine g1 ?_
            refine fin_ok atss vvv wkk
          · have hk : ¬ s2.1.kind = 2 := by omega
            simp only [hk, sbb]
            refine s_call rfl rfl rfl ca162 ?_
            refine call_r (c162 4 (by omega) (st := s2) hpp vvv hs) (fun v s3 hr hl => back trivial ?_) (fun p x st1 hr => ?_)
            rotate_left
            · apply z_p
              simp only [hr, sbb]
              exact fin_bad atss
            simp only [hr, sbb]
            refine g1 ?_
            refine s_alloc (tt rfl) fun b2 hb2 => ⟨trivial, ?_⟩
            try simp only [set_next, new_next] at hb2
            refine g1 ?_
            refine s_call rfl rfl rfl ca255 ?_
            refine call_r (c255 (st := s3) hpp vvv hs) (fun f s4 hr hl => back trivial ?_) (fun p x st1 hr => ?_)
            rotate_left
            · apply z_p
              simp only [hr, sbb]
              exact fin_bad atss
            simp only [hr, sbb]
            refine g1 ?_
            refine fin_ok atss vvv wkk
  · have hb' : (name == [105, 110]) = false := hb
    simp only [hb', sbb]
    refine s_call rfl rfl rfl ca96 ?_
    refine ((c96 (st := s1) [[99, 111, 110, 116, 97, 105, 110, 115]] (by simp) hpp).args (.cons (.refl _) (.cons weak_frz .nil))).mono ?_
    rintro _ _ ⟨rfl, rfl⟩
    refine back trivial ?_
    rcases Bool.eq_false_or_eq_true (isWord [[99, 111, 110, 116, 97, 105, 110, 115]] s1) with hx | hx <;> simp only [hx, sbb]
    · refine g1 ?_
      refine s_call rfl rfl rfl ca91 ?_
      refine (c91 (st := s1) hpp vvv hs).mono ?_
      rintro _ _ ⟨rfl, rfl⟩
      refine back trivial ?_
      refine g1 ?_
      refine s_call rfl rfl rfl ca162 ?_
      refine call_r (c162 4 (by omega) (st := nxt s s1) hpp vvv hs) (fun v s2 hr hl => back trivial ?_) (fun p x st1 hr => ?_)
      rotate_left
      · apply z_p
        simp only [hr, sbb]
        exact fin_bad atss
      simp only [hr, sbb]
      refine g1 ?_
      refine fin_ok atss vvv wkk
    · refine g1 ?_
      rcases Bool.eq_false_or_eq_true (isSign [33, 61] s1) with hx | hx <;> simp only [hx, sbb]
      · refine s_call rfl rfl rfl ca93 ?_
        refine (c93_t [33, 61] (st := s1) hpp vvv hs hx).mono ?_
        rintro _ _ ⟨rfl, rfl⟩
        refine back trivial ?_
        refine g1 ?_
        refine s_call rfl rfl rfl ca162 ?_
        refine call_r (c162 4 (by omega) (st := nxt s s1) hpp vvv hs) (fun v s2 hr hl => back trivial ?_) (fun p x st1 hr => ?_)
        rotate_left
        · apply z_p
          simp only [hr, sbb]
          exact fin_bad atss
        simp only [hr, sbb]
        refine g1 ?_
        refine s_alloc (tt rfl) fun b2 hb2 => ⟨trivial, ?_⟩
        try simp only [set_next, new_next] at hb2
        refine g1 ?_
        refine s_call rfl rfl rfl ca255 ?_
        refine call_r (c255 (st := s2) hpp vvv hs) (fun f s3 hr hl => back trivial ?_) (fun p x st1 hr => ?_)
        rotate_left
        · apply z_p
          simp only [hr, sbb]
          exact fin_bad atss
        simp only [hr, sbb]
        refine g1 ?_
        refine fin_ok atss vvv wkk
      · refine s_call rfl rfl rfl ca93 ?_
        refine (c93_f [33, 61] (st := s1) hpp vvv hs hx).mono ?_
        rintro _ _ ⟨rfl, rfl⟩
        refine back trivial ?_
        refine g1 ?_
        refine s_call rfl rfl rfl ca234 ?_
        refine call_r ((c234 [61] (st := s1) hpp vvv hs).args (must_args g [61])) (fun u s2 hr hl => back trivial ?_) (fun p x st1 hr => ?_)
        rotate_left
        · apply z_p
          simp only [hr, sbb]
          exact fin_bad atss
        simp only [hr, sbb]
        refine g2 ?_ ?_ <;> (repeat intro hb hc)
        · have hk : s2.1.kind = 2 := by omega
          simp only [hk, sbb]
          refine s_call rfl rfl rfl ca99 ?_
          refine call_r (c99 (st := s2) hpp vvv hs) (fun lb s3 hr hl => back trivial ?_) (fun p x st1 hr => ?_)
          rotate_left
          · apply z_p
            simp only [hr, sbb]
            exact fin_bad atss
          simp only [hr, sbb]
          refine g1 ?_
          refine s_alloc (tt rfl) fun b2 hb2 => ⟨trivial, ?_⟩
          try simp only [set_next, new_next] at hb2
          refine g1 ?_
          refine s_call rfl rfl rfl ca234 ?_
          refine call_r ((c234 [46] (st := s3) hpp vvv hs).args (must_args g [46])) (fun u s4 hr hl => back trivial ?_) (fun p x st1 hr => ?_)
          rotate_left
          · apply z_p
            simp only [hr, sbb]
            exact fin_bad atss
          simp only [hr, sbb]
          refine g1 ?_
          refine s_call rfl rfl rfl ca99 ?_
          refine call_r (c99 (st := s4) hpp vvv hs) (fun arg s5 hr hl => back trivial ?_) (fun p x st1 hr => ?_)
          rotate_left
          · apply z_p
            simp only [hr, sbb]
            exact fin_bad atss
          simp only [hr, sbb]
          refine g1 ?_
          refine fin_ok atss vvv wkk
        · have hk : ¬ s2.1.kind = 2 := by omega
          simp only [hk, sbb]
          refine s_call rfl rfl rfl ca162 ?_
          refine call_r (c162 4 (by omega) (st := s2) hpp vvv hs) (fun v s3 hr hl => back trivial ?_) (fun p x st1 hr => ?_)
          rotate_left
          · apply z_p
            simp only [hr, sbb]
            exact fin_bad atss
          simp only [hr, sbb]
          refine g1 ?_
          refine s_alloc (tt rfl) fun b2 hb2 => ⟨trivial, ?_⟩
          try simp only [set_next, new_next] at hb2
          refine g1 ?_
          refine s_call rfl rfl rfl ca255 ?_
          refine call_r (c255 (st := s3) hpp vvv hs) (fun f s4 hr hl => back trivial ?_) (fun p x st1 hr => ?_)
          rotate_left
          · apply z_p
            simp only [hr, sbb]
            exact fin_bad atss
          simp only [hr, sbb]
          refine g1 ?_
          refine fin_ok atss vvv wkk
end
end Go.Proofs
