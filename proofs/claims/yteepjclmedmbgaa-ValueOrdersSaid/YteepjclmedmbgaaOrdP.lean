import Derived.Test.YteepjclmedmbgaaOrdV
set_option linter.all false
set_option maxRecDepth 4000
namespace Go.AM
open Go.Proofs

/-! ### The plain law of the order -/
theorem cmpI_rng (a b : Int) : cmpI a b = -1 ∨ cmpI a b = 0 ∨ cmpI a b = 1 := by
  unfold cmpI; split
  · simp
  · split <;> simp
theorem cmpI_anti (a b : Int) : cmpI a b = -cmpI b a := by
  unfold cmpI
  by_cases h1 : a < b
  · rw [if_pos h1, if_neg (by omega), if_pos h1]
  · rw [if_neg h1]
    by_cases h2 : b < a
    · rw [if_pos h2, if_pos h2]; rfl
    · rw [if_neg h2, if_neg h2, if_neg h1]; rfl
theorem cmpI_neg {a b : Int} : cmpI a b < 0 ↔ a < b := by
  unfold cmpI
  by_cases h1 : a < b
  · rw [if_pos h1]; omega
  · rw [if_neg h1]; split <;> omega
theorem V.cmpL_nil' (l : List V) : V.cmpL l [] = 0 := by
  cases l with
  | nil => rw [V.cmpL_nil]
  | cons v l => unfold V.cmpL; rfl
mutual
theorem V.cmp_rng : ∀ v w : V, v.cmp w = -1 ∨ v.cmp w = 0 ∨ v.cmp w = 1
  | .mk k n ks, .mk k' n' ks' => by
    rw [V.cmp_mk]
    split
    · split
      · split
        · exact V.cmpL_rng ks ks'
        · exact cmpI_rng _ _
      · exact cmpI_rng _ _
    · exact cmpI_rng _ _
theorem V.cmpL_rng : ∀ l m : List V, V.cmpL l m = -1 ∨ V.cmpL l m = 0 ∨ V.cmpL l m = 1
  | [], m => by rw [V.cmpL_nil]; simp
  | v :: l, [] => by rw [V.cmpL_nil']; simp
  | v :: l, w :: m => by
    rw [V.cmpL_cons]; split
    · exact V.cmpL_rng l m
    · exact V.cmp_rng v w
end
mutual
theorem V.cmp_anti : ∀ v w : V, v.cmp w = -w.cmp v
  | .mk k n ks, .mk k' n' ks' => by
    rw [V.cmp_mk, V.cmp_mk k', cmpI_anti k k', cmpI_anti n n', cmpI_anti (ks.length : Int) ks'.length, V.cmpL_anti ks ks']
    have e : ∀ {a : Int}, -a = 0 ↔ a = 0 := by omega
    simp only [e]
    by_cases h1 : cmpI k' k = 0
    · rw [if_pos h1, if_pos h1]
      by_cases h2 : cmpI n' n = 0
      · rw [if_pos h2, if_pos h2]
        by_cases h3 : cmpI (ks'.length : Int) ks.length = 0
        · rw [if_pos h3, if_pos h3]
        · rw [if_neg h3, if_neg h3]
      · rw [if_neg h2, if_neg h2]
    · rw [if_neg h1, if_neg h1]
theorem V.cmpL_anti : ∀ l m : List V, V.cmpL l m = -V.cmpL m l
  | [], m => by rw [V.cmpL_nil, V.cmpL_nil']; rfl
  | v :: l, [] => by rw [V.cmpL_nil, V.cmpL_nil']; rfl
  | v :: l, w :: m => by
    rw [V.cmpL_cons, V.cmpL_cons, V.cmp_anti v w, V.cmpL_anti l m]
    have e : ∀ {a : Int}, -a = 0 ↔ a = 0 := by omega
    simp only [e]
    by_cases h : w.cmp v = 0
    · rw [if_pos h, if_pos h]
    · rw [if_neg h, if_neg h]
end
mutual
theorem V.cmp_eq : ∀ v w : V, v.cmp w = 0 → v = w
  | .mk k n ks, .mk k' n' ks' => by
    rw [V.cmp_mk]
    intro h
    by_cases h1 : cmpI k k' = 0
    · rw [if_pos h1] at h
      by_cases h2 : cmpI n n' = 0
      · rw [if_pos h2] at h
        by_cases h3 : cmpI (ks.length : Int) ks'.length = 0
        · rw [if_pos h3] at h
          have h3 := cmpI_zero.1 h3
          rw [cmpI_zero.1 h1, cmpI_zero.1 h2, V.cmpL_eq ks ks' (by omega) h]
        · rw [if_neg h3] at h; exact absurd h h3
      · rw [if_neg h2] at h; exact absurd h h2
    · rw [if_neg h1] at h; exact absurd h h1
theorem V.cmpL_eq : ∀ l m : List V, l.length = m.length → V.cmpL l m = 0 → l = m
  | [], m, hl, _ => by cases m with | nil => rfl | cons _ _ => simp at hl
  | v :: l, [], hl, _ => by simp at hl
  | v :: l, w :: m, hl, h => by
    rw [V.cmpL_cons] at h
    by_cases h1 : v.cmp w = 0
    · rw [if_pos h1] at h
      rw [V.cmp_eq v w h1, V.cmpL_eq l m (by simpa using hl) h]
    · rw [if_neg h1] at h; exact absurd h h1
end
mutual
theorem V.cmp_self : ∀ v : V, v.cmp v = 0
  | .mk k n ks => by rw [V.cmp_mk, cmpI_self, cmpI_self, cmpI_self]; simp only [if_true]; exact V.cmpL_self ks
theorem V.cmpL_self : ∀ l : List V, V.cmpL l l = 0
  | [] => V.cmpL_nil _
  | v :: l => by rw [V.cmpL_cons, if_pos (V.cmp_self v)]; exact V.cmpL_self l
end
theorem lexI {a b c x y z : Int} (hx : x ≤ 0) (hab : (if cmpI a b = 0 then x else cmpI a b) ≤ 0) : cmpI a b ≤ 0 := by
  split at hab
  · omega
  · exact hab
/-- One step of a lexicographic order. -/
theorem lex_trans {a b c x y z : Int} (h : a = b → b = c → x ≤ 0 → y ≤ 0 → z ≤ 0) (h1 : (if cmpI a b = 0 then x else cmpI a b) ≤ 0) (h2 : (if cmpI b c = 0 then y else cmpI b c) ≤ 0) : (if cmpI a c = 0 then z else cmpI a c) ≤ 0 := by
  by_cases e1 : cmpI a b = 0
  · have e1' := cmpI_zero.1 e1
    subst e1'
    by_cases e2 : cmpI a c = 0
    · have e2' := cmpI_zero.1 e2
      subst e2'
      rw [if_pos e1] at h1 h2 ⊢
      exact h rfl rfl h1 h2
    · rw [if_neg e2] at h2 ⊢; exact h2
  · rw [if_neg e1] at h1
    have l1 : a < b := cmpI_neg.1 (by omega)
    have l2 : b ≤ c := by
      by_cases e2 : cmpI b c = 0
      · have := cmpI_zero.1 e2; omega
      · rw [if_neg e2] at h2
        have := (cmpI_neg (a := b) (b := c)).1 (by omega); omega
    have l3 : cmpI a c < 0 := cmpI_neg.2 (by omega)
    rw [if_neg (by omega)]; omega
mutual
theorem V.cmp_trans : ∀ v w x : V, v.cmp w ≤ 0 → w.cmp x ≤ 0 → v.cmp x ≤ 0
  | .mk k n ks, .mk k' n' ks', .mk k2 n2 ks2 => by
    rw [V.cmp_mk, V.cmp_mk, V.cmp_mk]
    exact lex_trans fun _ _ => lex_trans fun _ _ => lex_trans fun e1 e2 => V.cmpL_trans ks ks' ks2 (by omega) (by omega)
theorem V.cmpL_trans : ∀ l m p : List V, l.length = m.length → m.length = p.length → V.cmpL l m ≤ 0 → V.cmpL m p ≤ 0 → V.cmpL l p ≤ 0
  | [], m, p, _, _, _, _ => by rw [V.cmpL_nil]; omega
  | v :: l, [], p, h, _, _, _ => by simp at h
  | v :: l, w :: m, [], _, h, _, _ => by simp at h
  | v :: l, w :: m, x :: p, h1, h2, h3, h4 => by
    rw [V.cmpL_cons] at h3 h4 ⊢
    by_cases e1 : v.cmp w = 0
    · have := V.cmp_eq _ _ e1
      subst this
      rw [if_pos e1] at h3
      by_cases e2 : v.cmp x = 0
      · rw [if_pos e2] at h4 ⊢
        exact V.cmpL_trans l m p (by simpa using h1) (by simpa using h2) h3 h4
      · rw [if_neg e2] at h4 ⊢; exact h4
    · rw [if_neg e1] at h3
      have h5 : w.cmp x ≤ 0 := by
        by_cases e2 : w.cmp x = 0
        · omega
        · rw [if_neg e2] at h4; exact h4
      have h6 := V.cmp_trans v w x h3 h5
      by_cases e3 : v.cmp x = 0
      · have := V.cmp_eq _ _ e3
        subst this
        have := V.cmp_anti v w
        have := V.cmp_rng v w
        omega
      · rw [if_neg e3]; exact h6
end

theorem leaf_cmp : Det Try.prog 11 [.agg [.int .i64 1, .int .i64 0, .nils], .agg [.int .i64 3, .int .i64 0, .nils]] (.int .i64 (-1)) := by
  have h := vcmp_det (.mk 1 0 []) (.mk 3 0 [])
  have e0 : cmpI 1 3 = -1 := by unfold cmpI; rfl
  rw [V.pv_mk, V.pv_mk, V.cmp_mk, e0] at h
  refine h.le (.cons (.agg (.cons (.refl _) (.cons (.refl _) (.cons ?_ .nil)))) (.cons (.agg (.cons (.refl _) (.cons (.refl _) (.cons ?_ .nil)))) .nil)) <;>
  · have e : V.pvL [] = [] := by rw [V.pvL]
    rw [e]
    exact .nils 3

theorem valueOrders_det (v w x : V) : Det Try.prog 4 [v.pv, w.pv, x.pv] (.bool true) := by
  have a1 := keepV_det v
  have a2 := keepV_det w
  have a3 := keepV_det x
  have b1 := vcmp_det v w
  have b2 := rcmp_det v w
  have b3 := vcmp_det w v
  have b4 := sameV_det v w
  have b5 := vcmp_det w x
  have b6 := vcmp_det v x
  have l1 := V.cmp_rng v w
  have l2 := V.cmp_anti v w
  have l3 := V.cmp_trans v w x
  generalize V.cmp v w = c1 at *
  generalize V.cmp w v = c2 at *
  generalize V.cmp w x = c3 at *
  generalize V.cmp v x = c4 at *
  obtain ⟨k, n, ks⟩ := v
  obtain ⟨k', n', ks'⟩ := w
  obtain ⟨k2, n2, ks2⟩ := x
  rw [V.pv_mk] at a1 a2 a3
  rw [V.pv_mk, V.pv_mk] at b1 b2 b3 b4 b5 b6
  rw [V.pv_mk, V.pv_mk, V.pv_mk]
  refine det_of_vc' (E := S.E 0) rfl folC Try.func4 rfl rfl (slots := [6]) rfl rfl fun hw => ?_
  set_option smartUnfolding false in conv => whnf
  refine acall_det (ps := [V.ag k n ks]) a1 ?_
  set_option smartUnfolding false in conv => whnf
  refine br_intro (fun h1 => ?_) (fun h1 => ?_) <;> set_option smartUnfolding false in conv => whnf
  · exact rdB rfl
  refine acall_det (ps := [V.ag k' n' ks']) a2 ?_
  set_option smartUnfolding false in conv => whnf
  refine br_intro (fun h2 => ?_) (fun h2 => ?_) <;> set_option smartUnfolding false in conv => whnf
  · exact rdB rfl
  refine acall_det (ps := [V.ag k2 n2 ks2]) a3 ?_
  set_option smartUnfolding false in conv => whnf
  refine br_intro (fun h3 => ?_) (fun h3 => ?_) <;> set_option smartUnfolding false in conv => whnf
  · exact rdB rfl
  refine acall_det (ps := [V.ag k n ks, V.ag k' n' ks']) b1 ?_
  set_option smartUnfolding false in conv => whnf
  refine acall_det (ps := [V.ag k n ks, V.ag k' n' ks']) b2 ?_
  set_option smartUnfolding false in conv => whnf
  apply br_intro <;> intro h4
  · simp at h4
  set_option smartUnfolding false in conv => whnf
  refine acall_det (ps := [V.ag k' n' ks', V.ag k n ks]) b3 ?_
  set_option smartUnfolding false in conv => whnf
  have hneg : IntKind.wrap .i64 (0 - c2) = c1 := by rw [wrapI] <;> omega
  apply br_intro <;> intro h5
  · rw [hneg] at h5; simp at h5
  set_option smartUnfolding false in conv => whnf
  refine acall_det (ps := [V.ag k n ks, V.ag k' n' ks']) b4 ?_
  set_option smartUnfolding false in conv => whnf
  apply br_intro <;> intro h6
  · simp at h6
  set_option smartUnfolding false in conv => whnf
  refine br_intro (fun h7 => ?_) (fun h7 => ?_) <;> set_option smartUnfolding false in conv => whnf
  · have h7 := dT h7
    refine acall_det (ps := [V.ag k' n' ks', V.ag k2 n2 ks2]) b5 ?_
    set_option smartUnfolding false in conv => whnf
    refine br_intro (fun h8 => ?_) (fun h8 => ?_) <;> set_option smartUnfolding false in conv => whnf
    · have h8 := dT h8
      refine acall_det (ps := [V.ag k n ks, V.ag k2 n2 ks2]) b6 ?_
      set_option smartUnfolding false in conv => whnf
      have h9 := l3 h7 h8
      apply br_intro <;> intro h10
      · have := dT h10; omega
      set_option smartUnfolding false in conv => whnf
      refine acall_det (ps := [.agg [.int .i64 1, .int .i64 0, .nils], .agg [.int .i64 3, .int .i64 0, .nils]]) leaf_cmp ?_
      set_option smartUnfolding false in conv => whnf
      exact rdB rfl
    · refine acall_det (ps := [.agg [.int .i64 1, .int .i64 0, .nils], .agg [.int .i64 3, .int .i64 0, .nils]]) leaf_cmp ?_
      set_option smartUnfolding false in conv => whnf
      exact rdB rfl
  · refine acall_det (ps := [.agg [.int .i64 1, .int .i64 0, .nils], .agg [.int .i64 3, .int .i64 0, .nils]]) leaf_cmp ?_
    set_option smartUnfolding false in conv => whnf
    exact rdB rfl
end Go.AM
