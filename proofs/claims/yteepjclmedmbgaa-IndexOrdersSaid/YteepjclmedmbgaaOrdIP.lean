import Derived.Test.YteepjclmedmbgaaOrdI
set_option linter.all false
set_option maxRecDepth 4000
namespace Go.AM
open Go.Proofs

/-! ### The plain law of the order -/
mutual
theorem Ix.cmp_rng : ∀ v w : Ix, v.cmp w = -1 ∨ v.cmp w = 0 ∨ v.cmp w = 1
  | .mk n ks, .mk n' ks' => by
    rw [Ix.cmp_mk]
    split
    · split
      · exact Ix.cmpL_rng ks ks'
      · exact cmpI_rng _ _
    · exact cmpI_rng _ _
theorem Ix.cmpL_rng : ∀ l m : List Ix, Ix.cmpL l m = -1 ∨ Ix.cmpL l m = 0 ∨ Ix.cmpL l m = 1
  | [], m => by rw [Ix.cmpL_nil]; simp
  | v :: l, [] => by rw [Ix.cmpL_nil']; simp
  | v :: l, w :: m => by
    rw [Ix.cmpL_cons]; split
    · exact Ix.cmpL_rng l m
    · exact Ix.cmp_rng v w
end
mutual
theorem Ix.cmp_anti : ∀ v w : Ix, v.cmp w = -w.cmp v
  | .mk n ks, .mk n' ks' => by
    rw [Ix.cmp_mk, Ix.cmp_mk n', cmpI_anti n n', cmpI_anti (ks.length : Int) ks'.length, Ix.cmpL_anti ks ks']
    have e : ∀ {a : Int}, -a = 0 ↔ a = 0 := by omega
    simp only [e]
    by_cases h2 : cmpI n' n = 0
    · rw [if_pos h2, if_pos h2]
      by_cases h3 : cmpI (ks'.length : Int) ks.length = 0
      · rw [if_pos h3, if_pos h3]
      · rw [if_neg h3, if_neg h3]
    · rw [if_neg h2, if_neg h2]
theorem Ix.cmpL_anti : ∀ l m : List Ix, Ix.cmpL l m = -Ix.cmpL m l
  | [], m => by rw [Ix.cmpL_nil, Ix.cmpL_nil']; rfl
  | v :: l, [] => by rw [Ix.cmpL_nil, Ix.cmpL_nil']; rfl
  | v :: l, w :: m => by
    rw [Ix.cmpL_cons, Ix.cmpL_cons, Ix.cmp_anti v w, Ix.cmpL_anti l m]
    have e : ∀ {a : Int}, -a = 0 ↔ a = 0 := by omega
    simp only [e]
    by_cases h : w.cmp v = 0
    · rw [if_pos h, if_pos h]
    · rw [if_neg h, if_neg h]
end
mutual
theorem Ix.cmp_eq : ∀ v w : Ix, v.cmp w = 0 → v = w
  | .mk n ks, .mk n' ks' => by
    rw [Ix.cmp_mk]
    intro h
    by_cases h2 : cmpI n n' = 0
    · rw [if_pos h2] at h
      by_cases h3 : cmpI (ks.length : Int) ks'.length = 0
      · rw [if_pos h3] at h
        have h3 := cmpI_zero.1 h3
        rw [cmpI_zero.1 h2, Ix.cmpL_eq ks ks' (by omega) h]
      · rw [if_neg h3] at h; exact absurd h h3
    · rw [if_neg h2] at h; exact absurd h h2
theorem Ix.cmpL_eq : ∀ l m : List Ix, l.length = m.length → Ix.cmpL l m = 0 → l = m
  | [], m, hl, _ => by cases m with | nil => rfl | cons _ _ => simp at hl
  | v :: l, [], hl, _ => by simp at hl
  | v :: l, w :: m, hl, h => by
    rw [Ix.cmpL_cons] at h
    by_cases h1 : v.cmp w = 0
    · rw [if_pos h1] at h
      rw [Ix.cmp_eq v w h1, Ix.cmpL_eq l m (by simpa using hl) h]
    · rw [if_neg h1] at h; exact absurd h h1
end
mutual
theorem Ix.cmp_self : ∀ v : Ix, v.cmp v = 0
  | .mk n ks => by rw [Ix.cmp_mk, cmpI_self, cmpI_self]; simp only [if_true]; exact Ix.cmpL_self ks
theorem Ix.cmpL_self : ∀ l : List Ix, Ix.cmpL l l = 0
  | [] => Ix.cmpL_nil _
  | v :: l => by rw [Ix.cmpL_cons, if_pos (Ix.cmp_self v)]; exact Ix.cmpL_self l
end
mutual
theorem Ix.cmp_trans : ∀ v w x : Ix, v.cmp w ≤ 0 → w.cmp x ≤ 0 → v.cmp x ≤ 0
  | .mk n ks, .mk n' ks', .mk n2 ks2 => by
    rw [Ix.cmp_mk, Ix.cmp_mk, Ix.cmp_mk]
    exact lex_trans fun _ _ => lex_trans fun e1 e2 => Ix.cmpL_trans ks ks' ks2 (by omega) (by omega)
theorem Ix.cmpL_trans : ∀ l m p : List Ix, l.length = m.length → m.length = p.length → Ix.cmpL l m ≤ 0 → Ix.cmpL m p ≤ 0 → Ix.cmpL l p ≤ 0
  | [], m, p, _, _, _, _ => by rw [Ix.cmpL_nil]; omega
  | v :: l, [], p, h, _, _, _ => by simp at h
  | v :: l, w :: m, [], _, h, _, _ => by simp at h
  | v :: l, w :: m, x :: p, h1, h2, h3, h4 => by
    rw [Ix.cmpL_cons] at h3 h4 ⊢
    by_cases e1 : v.cmp w = 0
    · have := Ix.cmp_eq _ _ e1
      subst this
      rw [if_pos e1] at h3
      by_cases e2 : v.cmp x = 0
      · rw [if_pos e2] at h4 ⊢
        exact Ix.cmpL_trans l m p (by simpa using h1) (by simpa using h2) h3 h4
      · rw [if_neg e2] at h4 ⊢; exact h4
    · rw [if_neg e1] at h3
      have h5 : w.cmp x ≤ 0 := by
        by_cases e2 : w.cmp x = 0
        · omega
        · rw [if_neg e2] at h4; exact h4
      have h6 := Ix.cmp_trans v w x h3 h5
      by_cases e3 : v.cmp x = 0
      · have := Ix.cmp_eq _ _ e3
        subst this
        have := Ix.cmp_anti v w
        have := Ix.cmp_rng v w
        omega
      · rw [if_neg e3]; exact h6
end

theorem leaf_icmp : Det Try.prog 15 [.agg [.int .i64 0, .nils], .agg [.int .i64 1, .nils]] (.int .i64 (-1)) := by
  have h := icmp_det (.mk 0 []) (.mk 1 [])
  have e0 : cmpI 0 1 = -1 := by unfold cmpI; rfl
  rw [Ix.pv_mk, Ix.pv_mk, Ix.cmp_mk, e0] at h
  refine h.le (.cons (.agg (.cons (.refl _) (.cons ?_ .nil))) (.cons (.agg (.cons (.refl _) (.cons ?_ .nil))) .nil)) <;>
  · have e : Ix.pvL [] = [] := by rw [Ix.pvL]
    rw [e]
    exact .nils 2

theorem indexOrders_det (v w x : Ix) : Det Try.prog 5 [v.pv, w.pv, x.pv] (.bool true) := by
  have a1 := keepI_det v
  have a2 := keepI_det w
  have a3 := keepI_det x
  have b1 := icmp_det v w
  have b2 := ircmp_det v w
  have b3 := icmp_det w v
  have b4 := sameI_det v w
  have b5 := icmp_det w x
  have b6 := icmp_det v x
  have l1 := Ix.cmp_rng v w
  have l2 := Ix.cmp_anti v w
  have l3 := Ix.cmp_trans v w x
  generalize Ix.cmp v w = c1 at *
  generalize Ix.cmp w v = c2 at *
  generalize Ix.cmp w x = c3 at *
  generalize Ix.cmp v x = c4 at *
  obtain ⟨n, ks⟩ := v
  obtain ⟨n', ks'⟩ := w
  obtain ⟨n2, ks2⟩ := x
  rw [Ix.pv_mk] at a1 a2 a3
  rw [Ix.pv_mk, Ix.pv_mk] at b1 b2 b3 b4 b5 b6
  rw [Ix.pv_mk, Ix.pv_mk, Ix.pv_mk]
  refine det_of_vc' (E := S.E 0) rfl folC Try.func5 rfl rfl (slots := [6]) rfl rfl fun hw => ?_
  set_option smartUnfolding false in conv => whnf
  refine acall_det (ps := [Ix.ag n ks]) a1 ?_
  set_option smartUnfolding false in conv => whnf
  refine br_intro (fun h1 => ?_) (fun h1 => ?_) <;> set_option smartUnfolding false in conv => whnf
  · exact rdB rfl
  refine acall_det (ps := [Ix.ag n' ks']) a2 ?_
  set_option smartUnfolding false in conv => whnf
  refine br_intro (fun h2 => ?_) (fun h2 => ?_) <;> set_option smartUnfolding false in conv => whnf
  · exact rdB rfl
  refine acall_det (ps := [Ix.ag n2 ks2]) a3 ?_
  set_option smartUnfolding false in conv => whnf
  refine br_intro (fun h3 => ?_) (fun h3 => ?_) <;> set_option smartUnfolding false in conv => whnf
  · exact rdB rfl
  refine acall_det (ps := [Ix.ag n ks, Ix.ag n' ks']) b1 ?_
  set_option smartUnfolding false in conv => whnf
  refine acall_det (ps := [Ix.ag n ks, Ix.ag n' ks']) b2 ?_
  set_option smartUnfolding false in conv => whnf
  apply br_intro <;> intro h4
  · simp at h4
  set_option smartUnfolding false in conv => whnf
  refine acall_det (ps := [Ix.ag n' ks', Ix.ag n ks]) b3 ?_
  set_option smartUnfolding false in conv => whnf
  have hneg : IntKind.wrap .i64 (0 - c2) = c1 := by rw [wrapI] <;> omega
  apply br_intro <;> intro h5
  · rw [hneg] at h5; simp at h5
  set_option smartUnfolding false in conv => whnf
  refine acall_det (ps := [Ix.ag n ks, Ix.ag n' ks']) b4 ?_
  set_option smartUnfolding false in conv => whnf
  apply br_intro <;> intro h6
  · simp at h6
  set_option smartUnfolding false in conv => whnf
  refine br_intro (fun h7 => ?_) (fun h7 => ?_) <;> set_option smartUnfolding false in conv => whnf
  · have h7 := dT h7
    refine acall_det (ps := [Ix.ag n' ks', Ix.ag n2 ks2]) b5 ?_
    set_option smartUnfolding false in conv => whnf
    refine br_intro (fun h8 => ?_) (fun h8 => ?_) <;> set_option smartUnfolding false in conv => whnf
    · have h8 := dT h8
      refine acall_det (ps := [Ix.ag n ks, Ix.ag n2 ks2]) b6 ?_
      set_option smartUnfolding false in conv => whnf
      have h9 := l3 h7 h8
      apply br_intro <;> intro h10
      · have := dT h10; omega
      set_option smartUnfolding false in conv => whnf
      refine acall_det (ps := [.agg [.int .i64 0, .nils], .agg [.int .i64 1, .nils]]) leaf_icmp ?_
      set_option smartUnfolding false in conv => whnf
      exact rdB rfl
    · refine acall_det (ps := [.agg [.int .i64 0, .nils], .agg [.int .i64 1, .nils]]) leaf_icmp ?_
      set_option smartUnfolding false in conv => whnf
      exact rdB rfl
  · refine acall_det (ps := [.agg [.int .i64 0, .nils], .agg [.int .i64 1, .nils]]) leaf_icmp ?_
    set_option smartUnfolding false in conv => whnf
    exact rdB rfl
end Go.AM
