import Derived.Test.YtfkkfgeepiopaaaGreatHasB
set_option linter.all false
set_option maxRecDepth 20000
set_option maxHeartbeats 4000000
namespace Go.AM
open Go.Proofs

/-! ### ref10.all, ref10.hasType -/
theorem rall_of (D : List Dt) (ks ts : List V) (hq : ∀ (i : Nat) v t, ks[i]? = some v → ts[i]? = some t → Det Tryz.prog 25 [.lst 3 (Dt.pvL D), v.pv, t.pv] (.bool (V.has D v t))) :
    Det Tryz.prog 38 [.lst 3 (Dt.pvL D), .lst 3 (V.pvL ks), .lst 3 (V.pvL ts)] (.bool (V.hasE D ks ts)) := by
  rw [← V.hasE_eq]
  generalize hqd : V.has D = q at hq ⊢
  refine det_of_vc' (E := S.E 0) rfl fol Tryz.func38 rfl rfl (slots := [6]) rfl rfl fun hw => ?_
  have hl : ks.length ≤ 9223372036854775807 := by have := hw.2.1.1; rwa [V.pvL_len] at this
  set_option smartUnfolding false in conv => whnf
  refine br_intro (fun h => ?_) (fun h => ?_) <;> set_option smartUnfolding false in conv => whnf
  · have h : ¬ ks.length = ts.length := by simp [V.pvL_len] at h; omega
    exact rdB (by rw [eqL_len q ks ts h])
  have hlen : ks.length = ts.length := by simp [V.pvL_len] at h; omega
  refine vloop_intro (σ := Nat) (fun i => i ≤ ks.length ∧ eqL q (ks.drop i) (ts.drop i) = eqL q ks ts)
    (fun i => [(0, .pv (.lst 3 (Dt.pvL D))), (1, .pv (.lst 3 (V.pvL ks))), (2, .pv (.lst 3 (V.pvL ts))), (7, .pv (.int .i64 i))])
    (fun _ => []) (fun i => ks.length - i) 0 ⟨by simp, by simp⟩ (weak_bare rfl ⟨(by kernel_rfl), (by kernel_rfl), (by kernel_rfl), (by kernel_rfl), trivial⟩) ?_
  rintro i ⟨hi, hs⟩
  set_option smartUnfolding false in conv => whnf
  refine br_intro (fun h => ?_) (fun h => ?_) <;> set_option smartUnfolding false in conv => whnf
  · replace h : i < ks.length := by have := dT h; rw [V.pvL_len] at this; simpa using this
    refine V.get_elim h fun k1 n1 ks1 hv hg hg0 hd => ?_
    refine V.get_elim (l := ts) (i := i) (by omega) fun k2 n2 ks2 hv2 hg2 hg20 hd2 => ?_
    rw [hd, hd2, eqL_cons] at hs
    have hq1 := hq i _ _ hg0 hg20
    rw [V.pv_mk, V.pv_mk] at hq1
    refine ⟨V.ag k1 n1 ks1, ⟨by simp, by simpa using hg⟩, ?_⟩
    set_option smartUnfolding false in conv => whnf
    refine ⟨V.ag k2 n2 ks2, ⟨by simp, by simpa using hg2⟩, ?_⟩
    set_option smartUnfolding false in conv => whnf
    refine acall_det (ps := [.lst 3 (Dt.pvL D), V.ag k1 n1 ks1, V.ag k2 n2 ks2]) hq1 ?_
    set_option smartUnfolding false in conv => whnf
    refine br_intro (fun h2 => ?_) (fun h2 => ?_) <;> set_option smartUnfolding false in conv => whnf
    · have h2 : q (.mk k1 n1 ks1) (.mk k2 n2 ks2) = false := by simpa using h2
      exact rdB (by rw [← hs, h2]; rfl)
    · have h2 : q (.mk k1 n1 ks1) (.mk k2 n2 ks2) = true := by simpa using h2
      rw [h2, Bool.true_and] at hs
      exact ⟨i + 1, ⟨h, hs⟩, weak_bare rfl ⟨(by kernel_rfl), (by kernel_rfl), (by kernel_rfl), sUp h hl, trivial⟩, subUp h⟩
  · replace h : ¬ i < ks.length := by have := dF h; rw [V.pvL_len] at this; simpa using this
    rw [List.drop_of_length_le (by omega), List.drop_of_length_le (by omega), eqL_nil] at hs
    exact rdB hs

theorem V.hasA_one (D : List Dt) (u : V) : ∀ ks : List V, ks.length = 1 → V.hasA D ks u = V.hasE D ks [u]
  | [v], _ => by rw [V.hasA_cons, V.hasE_cons, V.hasA_nil, V.hasE_nil]
theorem V.hasE_none (D : List Dt) (u : V) (ks : List V) (h : ¬ ks.length = 1) : V.hasE D ks [u] = false := by
  rw [← V.hasE_eq, eqL_len _ _ _ (by simpa using h)]
theorem V.has_t7 (D : List Dt) (k n : Int) (ks : List V) (tn : Int) (u : V) : V.has D (.mk k n ks) (.mk 7 tn [u]) = (decide (k = 6) && decide (n = 0) && decide ((ks.length : Int) ≤ 4096) && V.hasA D ks u) := by
  rw [V.has_mk2, V.hd_one]
  repeat' split
  all_goals (first | (simp_all; done) | (subst_vars; simp; done))
theorem V.has_t8 (D : List Dt) (k n : Int) (ks : List V) (tn : Int) (u : V) : V.has D (.mk k n ks) (.mk 8 tn [u]) = (decide (k = 7) && decide (n = 0) && V.hasE D ks [u]) := by
  rw [V.has_mk2, V.hd_one]
  repeat' split
  all_goals (first | (simp_all; done) | (subst_vars; simp; done))
theorem V.has_t1 (D : List Dt) (k n : Int) (ks : List V) (tn : Int) (ts : List V) : V.has D (.mk k n ks) (.mk 1 tn ts) = (decide (k = 3) && decide (-1099511627776 ≤ n) && decide (n ≤ 1099511627776) && decide ((ks.length : Int) = 0)) := by
  rw [V.has_mk2]
  repeat' split
  all_goals (first | (simp_all; done) | (subst_vars; simp; done))
theorem V.has_t2 (D : List Dt) (k n : Int) (ks : List V) (tn : Int) (ts : List V) : V.has D (.mk k n ks) (.mk 2 tn ts) = (decide (k = 2) && (decide (n = 0) || decide (n = 1)) && decide ((ks.length : Int) = 0)) := by
  rw [V.has_mk2]
  repeat' split
  all_goals (first | (simp_all; done) | (subst_vars; simp; done))
theorem V.has_t3 (D : List Dt) (k n : Int) (ks : List V) (tn : Int) (ts : List V) : V.has D (.mk k n ks) (.mk 3 tn ts) = (decide (k = 1) && decide (n = 0) && decide ((ks.length : Int) = 0)) := by
  rw [V.has_mk2]
  repeat' split
  all_goals (first | (simp_all; done) | (subst_vars; simp; done))
theorem V.has_t6 (D : List Dt) (k n : Int) (ks : List V) (tn : Int) (ts : List V) : V.has D (.mk k n ks) (.mk 6 tn ts) = (decide (k = 4) && decide (n = 0) && V.hasE D ks ts) := by
  rw [V.has_mk2]
  repeat' split
  all_goals (first | (simp_all; done) | (subst_vars; simp; done))
theorem V.has_t9 (D : List Dt) (k n : Int) (ks : List V) (tn : Int) (ts : List V) : V.has D (.mk k n ks) (.mk 9 tn ts) = (decide (k = 8) && decide (0 ≤ n) && decide (n < 64) && decide ((ks.length : Int) = 0)) := by
  rw [V.has_mk2]
  repeat' split
  all_goals (first | (simp_all; done) | (subst_vars; simp; done))
theorem V.has_t5 (D : List Dt) (k n : Int) (ks : List V) (tn : Int) (ts : List V) : V.has D (.mk k n ks) (.mk 5 tn ts) = (decide (k = 5) && (match fieldsS D (.mk 5 tn ts) n with | some fs => V.hasE D ks fs | Option.none => false)) := by
  rw [V.has_mk2]
  by_cases h5 : k = 5
  · subst h5; rfl
  · rw [decide_eq_false h5, Bool.false_and]
    repeat' split
    all_goals (first | rfl | (simp_all; done) | (subst_vars; simp; done))
theorem Good.kind {D : List Dt} {k n : Int} {ts : List V} (h : Good D (.mk k n ts)) : k = 1 ∨ k = 2 ∨ k = 3 ∨ k = 5 ∨ k = 6 ∨ k = 7 ∨ k = 8 ∨ k = 9 := by
  have h1 := h.ok
  rw [V.okT_mk] at h1
  unfold V.shape at h1
  by_cases h4 : k = 4
  · subst h4
    rw [if_neg (by omega), if_pos rfl] at h1
    simp only [Bool.and_eq_true, decide_eq_true_eq] at h1
    omega
  · apply Classical.byContradiction
    intro hn
    rw [if_neg (by omega), if_neg (by omega), if_neg (by omega), if_neg (by omega), if_neg (by omega), if_neg (by omega)] at h1
    cases h1


theorem rhas7 (D : List Dt) (k n : Int) (ks : List V) (tn uk un : Int) (us : List V) (hq : ∀ v ∈ ks, Det Tryz.prog 25 [.lst 3 (Dt.pvL D), v.pv, V.ag uk un us] (.bool (V.has D v (.mk uk un us)))) :
    Det Tryz.prog 25 [.lst 3 (Dt.pvL D), V.ag k n ks, .agg [.int .i64 7, .int .i64 tn, .lst 3 [V.ag uk un us]]] (.bool (V.has D (.mk k n ks) (.mk 7 tn [.mk uk un us]))) := by
  generalize hR : V.has D (.mk k n ks) (.mk 7 tn [.mk uk un us]) = R
  rw [V.has_t7] at hR
  refine det_of_vc' (E := S.E 0) rfl fol Tryz.func25 rfl rfl (slots := [6]) rfl rfl fun hw => ?_
  have hl := V.lenle hw.2.1
  set_option smartUnfolding false in conv => whnf
  refine br_intro (fun g1 => ?_) (fun g1 => ?_) <;> set_option smartUnfolding false in conv => whnf
  · have g1 : ¬ k = 6 := by simpa using g1
    exact rdB (by rw [← hR, decide_eq_false g1]; rfl)
  have g1 : k = 6 := by simpa using g1
  refine br_intro (fun g2 => ?_) (fun g2 => ?_) <;> set_option smartUnfolding false in conv => whnf
  · have g2 := dT g2
    rw [V.pvL_len] at g2
    exact rdB (by rw [← hR, decide_eq_false (p := (ks.length : Int) ≤ 4096) (by omega)]; simp)
  have g2 := dF g2
  rw [V.pvL_len] at g2
  refine br_intro (fun g3 => ?_) (fun g3 => ?_) <;> set_option smartUnfolding false in conv => whnf
  · have g3 : ¬ n = 0 := by simpa using g3
    exact rdB (by rw [← hR, decide_eq_false g3]; simp)
  have g3 : n = 0 := by simpa using g3
  rw [decide_eq_true g1, decide_eq_true g3, decide_eq_true (p := (ks.length : Int) ≤ 4096) (by omega), Bool.true_and, Bool.true_and, Bool.true_and] at hR
  refine vloop_intro (σ := Nat) (fun i => i ≤ ks.length ∧ V.hasA D (ks.drop i) (.mk uk un us) = R)
    (fun i => [(0, .pv (.lst 3 (Dt.pvL D))), (4, .bp 0 0), (5, .bp 1 0), (7, .pv (.int .i64 (V.pvL ks).length)), (10, .pv (.int .i64 i))])
    (fun _ => [.box 25 [.pv (.int .i64 k), .pv (.int .i64 n), .pv (.lst 3 (V.pvL ks))], .box 28 [.pv (.int .i64 7), .pv (.int .i64 tn), .pv (.lst 3 [V.ag uk un us])]]) (fun i => ks.length - i) 0 ⟨by simp, by simpa using hR⟩ (weak_sub ⟨(by kernel_rfl), (by kernel_rfl), (by kernel_rfl), (by kernel_rfl), (by kernel_rfl), trivial⟩) ?_
  rintro i ⟨hi, hs⟩
  set_option smartUnfolding false in conv => whnf
  refine br_intro (fun h => ?_) (fun h => ?_) <;> set_option smartUnfolding false in conv => whnf
  · replace h : i < ks.length := by have := dT h; rw [V.pvL_len] at this; simpa using this
    refine V.get_elim h fun k1 n1 ks1 hv hg hg0 hd => ?_
    rw [hd, V.hasA_cons] at hs
    have hq1 := hq _ hv
    rw [V.pv_mk] at hq1
    refine ⟨V.ag k1 n1 ks1, ⟨by simp, by simpa using hg⟩, ?_⟩
    set_option smartUnfolding false in conv => whnf
    refine ⟨V.ag uk un us, ⟨by omega, rfl⟩, ?_⟩
    set_option smartUnfolding false in conv => whnf
    refine acall_det (ps := [.lst 3 (Dt.pvL D), V.ag k1 n1 ks1, V.ag uk un us]) hq1 ?_
    set_option smartUnfolding false in conv => whnf
    refine br_intro (fun h2 => ?_) (fun h2 => ?_) <;> set_option smartUnfolding false in conv => whnf
    · have h2 : V.has D (.mk k1 n1 ks1) (.mk uk un us) = false := by simpa using h2
      exact rdB (by rw [← hs, h2]; rfl)
    · have h2 : V.has D (.mk k1 n1 ks1) (.mk uk un us) = true := by simpa using h2
      rw [h2, Bool.true_and] at hs
      exact ⟨i + 1, ⟨h, hs⟩, weak_sub ⟨(by kernel_rfl), (by kernel_rfl), (by kernel_rfl), (by kernel_rfl), sUp h hl, trivial⟩, subUp h⟩
  · replace h : ¬ i < ks.length := by have := dF h; rw [V.pvL_len] at this; simpa using this
    rw [List.drop_of_length_le (by omega), V.hasA_nil] at hs
    exact rdB hs

theorem rhas8 (D : List Dt) (k n : Int) (ks : List V) (tn uk un : Int) (us : List V) (hq : ∀ v ∈ ks, Det Tryz.prog 25 [.lst 3 (Dt.pvL D), v.pv, V.ag uk un us] (.bool (V.has D v (.mk uk un us)))) :
    Det Tryz.prog 25 [.lst 3 (Dt.pvL D), V.ag k n ks, .agg [.int .i64 8, .int .i64 tn, .lst 3 [V.ag uk un us]]] (.bool (V.has D (.mk k n ks) (.mk 8 tn [.mk uk un us]))) := by
  generalize hR : V.has D (.mk k n ks) (.mk 8 tn [.mk uk un us]) = R
  rw [V.has_t8] at hR
  refine det_of_vc' (E := S.E 0) rfl fol Tryz.func25 rfl rfl (slots := [6]) rfl rfl fun hw => ?_
  have hl := V.lenle hw.2.1
  set_option smartUnfolding false in conv => whnf
  refine br_intro (fun g1 => ?_) (fun g1 => ?_) <;> set_option smartUnfolding false in conv => whnf
  · have g1 : ¬ k = 7 := by simpa using g1
    exact rdB (by rw [← hR, decide_eq_false g1]; rfl)
  have g1 : k = 7 := by simpa using g1
  refine br_intro (fun g2 => ?_) (fun g2 => ?_) <;> set_option smartUnfolding false in conv => whnf
  · have g2 : ¬ ((V.pvL ks).length : Int) = 1 := by simpa using g2
    rw [V.pvL_len] at g2
    exact rdB (by rw [← hR, V.hasE_none D _ ks (by omega)]; simp)
  have g2 : ((V.pvL ks).length : Int) = 1 := by simpa using g2
  rw [V.pvL_len] at g2
  refine br_intro (fun g3 => ?_) (fun g3 => ?_) <;> set_option smartUnfolding false in conv => whnf
  · have g3 : ¬ n = 0 := by simpa using g3
    exact rdB (by rw [← hR, decide_eq_false g3]; simp)
  have g3 : n = 0 := by simpa using g3
  rw [decide_eq_true g1, decide_eq_true g3, Bool.true_and, Bool.true_and, ← V.hasA_one D _ ks (by omega)] at hR
  refine vloop_intro (σ := Nat) (fun i => i ≤ ks.length ∧ V.hasA D (ks.drop i) (.mk uk un us) = R)
    (fun i => [(0, .pv (.lst 3 (Dt.pvL D))), (4, .bp 0 0), (5, .bp 1 0), (7, .pv (.int .i64 (V.pvL ks).length)), (10, .pv (.int .i64 i))])
    (fun _ => [.box 25 [.pv (.int .i64 k), .pv (.int .i64 n), .pv (.lst 3 (V.pvL ks))], .box 28 [.pv (.int .i64 8), .pv (.int .i64 tn), .pv (.lst 3 [V.ag uk un us])]]) (fun i => ks.length - i) 0 ⟨by simp, by simpa using hR⟩ (weak_sub ⟨(by kernel_rfl), (by kernel_rfl), (by kernel_rfl), (by kernel_rfl), (by kernel_rfl), trivial⟩) ?_
  rintro i ⟨hi, hs⟩
  set_option smartUnfolding false in conv => whnf
  refine br_intro (fun h => ?_) (fun h => ?_) <;> set_option smartUnfolding false in conv => whnf
  · replace h : i < ks.length := by have := dT h; rw [V.pvL_len] at this; simpa using this
    refine V.get_elim h fun k1 n1 ks1 hv hg hg0 hd => ?_
    rw [hd, V.hasA_cons] at hs
    have hq1 := hq _ hv
    rw [V.pv_mk] at hq1
    refine ⟨V.ag k1 n1 ks1, ⟨by simp, by simpa using hg⟩, ?_⟩
    set_option smartUnfolding false in conv => whnf
    refine ⟨V.ag uk un us, ⟨by omega, rfl⟩, ?_⟩
    set_option smartUnfolding false in conv => whnf
    refine acall_det (ps := [.lst 3 (Dt.pvL D), V.ag k1 n1 ks1, V.ag uk un us]) hq1 ?_
    set_option smartUnfolding false in conv => whnf
    refine br_intro (fun h2 => ?_) (fun h2 => ?_) <;> set_option smartUnfolding false in conv => whnf
    · have h2 : V.has D (.mk k1 n1 ks1) (.mk uk un us) = false := by simpa using h2
      exact rdB (by rw [← hs, h2]; rfl)
    · have h2 : V.has D (.mk k1 n1 ks1) (.mk uk un us) = true := by simpa using h2
      rw [h2, Bool.true_and] at hs
      exact ⟨i + 1, ⟨h, hs⟩, weak_sub ⟨(by kernel_rfl), (by kernel_rfl), (by kernel_rfl), (by kernel_rfl), sUp h hl, trivial⟩, subUp h⟩
  · replace h : ¬ i < ks.length := by have := dF h; rw [V.pvL_len] at this; simpa using this
    rw [List.drop_of_length_le (by omega), V.hasA_nil] at hs
    exact rdB hs

end Go.AM
