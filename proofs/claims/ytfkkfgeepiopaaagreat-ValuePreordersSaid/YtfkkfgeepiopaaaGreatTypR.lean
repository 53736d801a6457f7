import Derived.Test.YtfkkfgeepiopaaaGreatTypV
set_option linter.all false
set_option maxRecDepth 4000
namespace Go.AM
open Go.Proofs


theorem len_zero {n : Nat} : decide ((n : Int) = 0) = (decide ((0 : Int) ≤ n) && decide ((n : Int) ≤ 0)) := by
  by_cases h : n = 0
  · subst h; rfl
  · rw [decide_eq_false (by omega), decide_eq_false (p := (n : Int) ≤ 0) (by omega)]; simp
theorem okTL_zero {D : List Dt} {vars : Int} {ts : List V} (h : decide ((ts.length : Int) = 0) = true) : V.okTL D vars ts = true := by
  have : ts = [] := List.eq_nil_of_length_eq_zero (by have := dT h; omega)
  subst this; exact V.okTL_nil _ _


theorem rvalid_det (D : List Dt) (vars : Int) (t : V) : Det Tryz.prog 37 [.lst 3 (Dt.pvL D), t.pv, .int .i64 vars] (.bool (V.okT D vars t)) := by
  refine V.recOn' (p := fun t => Det Tryz.prog 37 [.lst 3 (Dt.pvL D), t.pv, .int .i64 vars] (.bool (V.okT D vars t))) (fun k n ts ih => ?_) t
  rw [V.pv_mk]
  generalize hR : V.okT D vars (.mk k n ts) = R
  rw [V.okT_mk] at hR
  refine det_of_vc' (E := S.E 0) rfl fol Tryz.func37 rfl rfl (slots := [6]) rfl rfl fun hw => ?_
  have hl := V.lenle hw.2.1
  set_option smartUnfolding false in conv => whnf
  refine br_intro (fun h1 => ?_) (fun h1 => ?_) <;> set_option smartUnfolding false in conv => whnf
  · rw [show V.shape D vars k n = some (decide (n = 0), 0, 0) by have h1 := dT h1; simp [V.shape, h1]] at hR
    simp only at hR
    refine br_intro (fun g1 => ?_) (fun g1 => ?_) <;> set_option smartUnfolding false in conv => whnf
    rotate_left
    · exact rdB (by rw [← hR, g1]; simp)
    rw [g1, Bool.true_and] at hR
    refine rdB ?_
    rw [V.pvL_len, ← hR]
    cases g2 : decide ((ts.length : Int) = 0) with
    | true => rw [← len_zero, g2, okTL_zero g2]; rfl
    | false => rw [← len_zero, g2]; rfl
  have h1 := dF h1
  refine br_intro (fun h2 => ?_) (fun h2 => ?_) <;> set_option smartUnfolding false in conv => whnf
  · rw [show V.shape D vars k n = some (decide (n = 0), 0, 0) by have h2 := dT h2; simp [V.shape, h2]] at hR
    simp only at hR
    refine br_intro (fun g1 => ?_) (fun g1 => ?_) <;> set_option smartUnfolding false in conv => whnf
    rotate_left
    · exact rdB (by rw [← hR, g1]; simp)
    rw [g1, Bool.true_and] at hR
    refine rdB ?_
    rw [V.pvL_len, ← hR]
    cases g2 : decide ((ts.length : Int) = 0) with
    | true => rw [← len_zero, g2, okTL_zero g2]; rfl
    | false => rw [← len_zero, g2]; rfl
  have h2 := dF h2
  refine br_intro (fun h3 => ?_) (fun h3 => ?_) <;> set_option smartUnfolding false in conv => whnf
  · rw [show V.shape D vars k n = some (decide (n = 0), 0, 0) by have h3 := dT h3; simp [V.shape, h3]] at hR
    simp only at hR
    refine br_intro (fun g1 => ?_) (fun g1 => ?_) <;> set_option smartUnfolding false in conv => whnf
    rotate_left
    · exact rdB (by rw [← hR, g1]; simp)
    rw [g1, Bool.true_and] at hR
    refine rdB ?_
    rw [V.pvL_len, ← hR]
    cases g2 : decide ((ts.length : Int) = 0) with
    | true => rw [← len_zero, g2, okTL_zero g2]; rfl
    | false => rw [← len_zero, g2]; rfl
  have h3 := dF h3
  refine br_intro (fun h4 => ?_) (fun h4 => ?_) <;> set_option smartUnfolding false in conv => whnf
  · rw [show V.shape D vars k n = some (decide (0 ≤ n) && decide (n < vars), 0, 0) by have h4 := dT h4; simp [V.shape, h4]] at hR
    simp only at hR
    refine br_intro (fun g0 => ?_) (fun g0 => ?_) <;> set_option smartUnfolding false in conv => whnf
    · rw [g0, Bool.true_and] at hR
      refine br_intro (fun g1 => ?_) (fun g1 => ?_) <;> set_option smartUnfolding false in conv => whnf
      rotate_left
      · exact rdB (by rw [← hR, g1]; simp)
      rw [g1, Bool.true_and] at hR
      refine rdB ?_
      rw [V.pvL_len, ← hR]
      cases g2 : decide ((ts.length : Int) = 0) with
      | true => rw [← len_zero, g2, okTL_zero g2]; rfl
      | false => rw [← len_zero, g2]; rfl
    · exact rdB (by rw [← hR, g0]; simp)
  have h4 := dF h4
  refine br_intro (fun h5 => ?_) (fun h5 => ?_) <;> set_option smartUnfolding false in conv => whnf
  · have h5 := dT h5
    have e5 : V.shape D vars k n = (match D[n.toNat]? with | some d => some (decide (0 ≤ n), d.vars, d.vars) | Option.none => Option.none) := by simp [V.shape, h5]; rfl
    refine br_intro (fun g0 => ?_) (fun g0 => ?_) <;> set_option smartUnfolding false in conv => whnf
    · refine rdB ?_
      have g0 := dT g0
      rw [← hR, e5]
      cases D[n.toNat]? <;> simp; omega
    have g0 := dF g0
    refine br_intro (fun g00 => ?_) (fun g00 => ?_) <;> set_option smartUnfolding false in conv => whnf
    · refine rdB ?_
      have g00 := dT g00
      rw [Dt.pvL_len] at g00
      rw [← hR, e5, List.getElem?_eq_none (by omega)]
    have g00 := dF g00
    rw [Dt.pvL_len] at g00
    obtain ⟨nm, vs, cs, _, hg, hg2, _⟩ := Dt.get_pvL (l := D) (i := n.toNat) (by omega)
    rw [e5, hg2] at hR
    simp only [show 0 ≤ n by omega, decide_true, Bool.true_and] at hR
    refine ⟨Dt.ag nm vs cs, ⟨by omega, hg⟩, ?_⟩
    set_option smartUnfolding false in conv => whnf
    refine br_intro (fun g1 => ?_) (fun g1 => ?_) <;> set_option smartUnfolding false in conv => whnf
    · refine rdB ?_
      rw [V.pvL_len] at g1
      have g1 : ¬ (ts.length : Int) = vs := by simpa using g1
      rw [← hR]
      symm
      simp only [Bool.and_eq_false_iff, decide_eq_false_iff_not]
      left; omega
    rw [V.pvL_len] at g1
    have g1 : (ts.length : Int) = vs := by simpa using g1
    rw [← g1] at hR
    simp only [Int.le_refl, decide_true, Bool.true_and] at hR
    refine vloop_intro (σ := Nat) (fun i => i ≤ ts.length ∧ V.okTL D vars (ts.drop i) = R) (fun i => [(0, .pv (.lst 3 (Dt.pvL D))), (2, .pv (.int .i64 vars)), (4, .bp 0 0), (7, .pv (.int .i64 (V.pvL ts).length)), (8, .pv (.int .i64 i))])
      (fun _ => [.box 28 [.pv (.int .i64 k), .pv (.int .i64 n), .pv (.lst 3 (V.pvL ts))]]) (fun i => ts.length - i) 0 ⟨by simp, by simpa using hR⟩ (weak_sub ⟨(by kernel_rfl), (by kernel_rfl), (by kernel_rfl), (by kernel_rfl), (by kernel_rfl), trivial⟩) ?_
    rintro i ⟨hi, hs⟩
    set_option smartUnfolding false in conv => whnf
    refine br_intro (fun h => ?_) (fun h => ?_) <;> set_option smartUnfolding false in conv => whnf
    · replace h : i < ts.length := by have := dT h; rw [V.pvL_len] at this; simpa using this
      obtain ⟨⟨k', n', ts'⟩, hv, hg, _, hd⟩ := V.get_pvL h
      rw [V.pv_mk] at hg
      rw [hd, V.okTL_cons] at hs
      have hih := ih _ hv
      rw [V.pv_mk] at hih
      refine ⟨V.ag k' n' ts', ⟨by simp, by simpa using hg⟩, ?_⟩
      set_option smartUnfolding false in conv => whnf
      refine acall_det (ps := [.lst 3 (Dt.pvL D), V.ag k' n' ts', .int .i64 vars]) hih ?_
      set_option smartUnfolding false in conv => whnf
      refine br_intro (fun g => ?_) (fun g => ?_) <;> set_option smartUnfolding false in conv => whnf
      · have g : V.okT D vars (.mk k' n' ts') = false := by simpa using g
        exact rdB (by rw [← hs, g]; rfl)
      · have g : V.okT D vars (.mk k' n' ts') = true := by simpa using g
        rw [g, Bool.true_and] at hs
        refine ⟨i + 1, ⟨h, hs⟩, weak_sub ⟨(by kernel_rfl), (by kernel_rfl), (by kernel_rfl), (by kernel_rfl), sUp h hl, trivial⟩, subUp h⟩
    · replace h : ¬ i < ts.length := by have := dF h; rw [V.pvL_len] at this; simpa using this
      rw [List.drop_of_length_le (by omega), V.okTL_nil] at hs
      exact rdB hs
  have h5 := dF h5
  refine br_intro (fun h6 => ?_) (fun h6 => ?_) <;> set_option smartUnfolding false in conv => whnf
  · rw [show V.shape D vars k n = some (decide (n = 0), 2, 6) by have h6 := dT h6; simp [V.shape, h6]] at hR
    simp only at hR
    refine br_intro (fun g1 => ?_) (fun g1 => ?_) <;> set_option smartUnfolding false in conv => whnf
    · have g1 : ¬ n = 0 := by simpa using g1
      exact rdB (by rw [← hR]; simp [g1])
    have g1 : n = 0 := by simpa using g1
    refine br_intro (fun g2 => ?_) (fun g2 => ?_) <;> set_option smartUnfolding false in conv => whnf
    · have g2 := dT g2
      rw [V.pvL_len] at g2
      exact rdB (by rw [← hR, decide_eq_false (p := (2 : Int) ≤ _) (by omega)]; simp)
    refine br_intro (fun g3 => ?_) (fun g3 => ?_) <;> set_option smartUnfolding false in conv => whnf
    · have g3 := dT g3
      rw [V.pvL_len] at g3
      exact rdB (by rw [← hR, decide_eq_false (p := _ ≤ (6 : Int)) (by omega)]; simp)
    have g2 := dF g2
    have g3 := dF g3
    rw [V.pvL_len] at g2 g3
    rw [decide_eq_true g1, decide_eq_true (p := (2 : Int) ≤ _) (by omega), decide_eq_true (p := _ ≤ (6 : Int)) (by omega)] at hR
    simp only [Bool.true_and] at hR
    refine vloop_intro (σ := Nat) (fun i => i ≤ ts.length ∧ V.okTL D vars (ts.drop i) = R) (fun i => [(0, .pv (.lst 3 (Dt.pvL D))), (2, .pv (.int .i64 vars)), (4, .bp 0 0), (7, .pv (.int .i64 (V.pvL ts).length)), (8, .pv (.int .i64 i))])
      (fun _ => [.box 28 [.pv (.int .i64 k), .pv (.int .i64 n), .pv (.lst 3 (V.pvL ts))]]) (fun i => ts.length - i) 0 ⟨by simp, by simpa using hR⟩ (weak_sub ⟨(by kernel_rfl), (by kernel_rfl), (by kernel_rfl), (by kernel_rfl), (by kernel_rfl), trivial⟩) ?_
    rintro i ⟨hi, hs⟩
    set_option smartUnfolding false in conv => whnf
    refine br_intro (fun h => ?_) (fun h => ?_) <;> set_option smartUnfolding false in conv => whnf
    · replace h : i < ts.length := by have := dT h; rw [V.pvL_len] at this; simpa using this
      obtain ⟨⟨k', n', ts'⟩, hv, hg, _, hd⟩ := V.get_pvL h
      rw [V.pv_mk] at hg
      rw [hd, V.okTL_cons] at hs
      have hih := ih _ hv
      rw [V.pv_mk] at hih
      refine ⟨V.ag k' n' ts', ⟨by simp, by simpa using hg⟩, ?_⟩
      set_option smartUnfolding false in conv => whnf
      refine acall_det (ps := [.lst 3 (Dt.pvL D), V.ag k' n' ts', .int .i64 vars]) hih ?_
      set_option smartUnfolding false in conv => whnf
      refine br_intro (fun g => ?_) (fun g => ?_) <;> set_option smartUnfolding false in conv => whnf
      · have g : V.okT D vars (.mk k' n' ts') = false := by simpa using g
        exact rdB (by rw [← hs, g]; rfl)
      · have g : V.okT D vars (.mk k' n' ts') = true := by simpa using g
        rw [g, Bool.true_and] at hs
        refine ⟨i + 1, ⟨h, hs⟩, weak_sub ⟨(by kernel_rfl), (by kernel_rfl), (by kernel_rfl), (by kernel_rfl), sUp h hl, trivial⟩, subUp h⟩
    · replace h : ¬ i < ts.length := by have := dF h; rw [V.pvL_len] at this; simpa using this
      rw [List.drop_of_length_le (by omega), V.okTL_nil] at hs
      exact rdB hs
  have h6 := dF h6
  refine br_intro (fun h7 => ?_) (fun h7 => ?_) <;> set_option smartUnfolding false in conv => whnf
  · rw [show V.shape D vars k n = some (decide (n = 0), 1, 1) by have h7 := dT h7; simp [V.shape, h7]] at hR
    simp only at hR
    refine br_intro (fun g1 => ?_) (fun g1 => ?_) <;> set_option smartUnfolding false in conv => whnf
    · have g1 : ¬ n = 0 := by simpa using g1
      exact rdB (by rw [← hR]; simp [g1])
    have g1 : n = 0 := by simpa using g1
    refine br_intro (fun g2 => ?_) (fun g2 => ?_) <;> set_option smartUnfolding false in conv => whnf
    · rw [V.pvL_len] at g2
      have g2 : ¬ (ts.length : Int) = 1 := by simpa using g2
      refine rdB ?_
      rw [← hR]
      symm
      simp only [Bool.and_eq_false_iff, decide_eq_false_iff_not]
      left; omega
    rw [V.pvL_len] at g2
    have g2 : (ts.length : Int) = 1 := by simpa using g2
    rw [decide_eq_true g1, decide_eq_true (p := (1 : Int) ≤ _) (by omega), decide_eq_true (p := _ ≤ (1 : Int)) (by omega)] at hR
    simp only [Bool.true_and] at hR
    refine vloop_intro (σ := Nat) (fun i => i ≤ ts.length ∧ V.okTL D vars (ts.drop i) = R) (fun i => [(0, .pv (.lst 3 (Dt.pvL D))), (2, .pv (.int .i64 vars)), (4, .bp 0 0), (7, .pv (.int .i64 (V.pvL ts).length)), (8, .pv (.int .i64 i))])
      (fun _ => [.box 28 [.pv (.int .i64 k), .pv (.int .i64 n), .pv (.lst 3 (V.pvL ts))]]) (fun i => ts.length - i) 0 ⟨by simp, by simpa using hR⟩ (weak_sub ⟨(by kernel_rfl), (by kernel_rfl), (by kernel_rfl), (by kernel_rfl), (by kernel_rfl), trivial⟩) ?_
    rintro i ⟨hi, hs⟩
    set_option smartUnfolding false in conv => whnf
    refine br_intro (fun h => ?_) (fun h => ?_) <;> set_option smartUnfolding false in conv => whnf
    · replace h : i < ts.length := by have := dT h; rw [V.pvL_len] at this; simpa using this
      obtain ⟨⟨k', n', ts'⟩, hv, hg, _, hd⟩ := V.get_pvL h
      rw [V.pv_mk] at hg
      rw [hd, V.okTL_cons] at hs
      have hih := ih _ hv
      rw [V.pv_mk] at hih
      refine ⟨V.ag k' n' ts', ⟨by simp, by simpa using hg⟩, ?_⟩
      set_option smartUnfolding false in conv => whnf
      refine acall_det (ps := [.lst 3 (Dt.pvL D), V.ag k' n' ts', .int .i64 vars]) hih ?_
      set_option smartUnfolding false in conv => whnf
      refine br_intro (fun g => ?_) (fun g => ?_) <;> set_option smartUnfolding false in conv => whnf
      · have g : V.okT D vars (.mk k' n' ts') = false := by simpa using g
        exact rdB (by rw [← hs, g]; rfl)
      · have g : V.okT D vars (.mk k' n' ts') = true := by simpa using g
        rw [g, Bool.true_and] at hs
        refine ⟨i + 1, ⟨h, hs⟩, weak_sub ⟨(by kernel_rfl), (by kernel_rfl), (by kernel_rfl), (by kernel_rfl), sUp h hl, trivial⟩, subUp h⟩
    · replace h : ¬ i < ts.length := by have := dF h; rw [V.pvL_len] at this; simpa using this
      rw [List.drop_of_length_le (by omega), V.okTL_nil] at hs
      exact rdB hs
  have h7 := dF h7
  refine br_intro (fun h8 => ?_) (fun h8 => ?_) <;> set_option smartUnfolding false in conv => whnf
  · rw [show V.shape D vars k n = some (decide (n = 0), 1, 1) by have h8 := dT h8; simp [V.shape, h8]] at hR
    simp only at hR
    refine br_intro (fun g1 => ?_) (fun g1 => ?_) <;> set_option smartUnfolding false in conv => whnf
    · have g1 : ¬ n = 0 := by simpa using g1
      exact rdB (by rw [← hR]; simp [g1])
    have g1 : n = 0 := by simpa using g1
    refine br_intro (fun g2 => ?_) (fun g2 => ?_) <;> set_option smartUnfolding false in conv => whnf
    · rw [V.pvL_len] at g2
      have g2 : ¬ (ts.length : Int) = 1 := by simpa using g2
      refine rdB ?_
      rw [← hR]
      symm
      simp only [Bool.and_eq_false_iff, decide_eq_false_iff_not]
      left; omega
    rw [V.pvL_len] at g2
    have g2 : (ts.length : Int) = 1 := by simpa using g2
    rw [decide_eq_true g1, decide_eq_true (p := (1 : Int) ≤ _) (by omega), decide_eq_true (p := _ ≤ (1 : Int)) (by omega)] at hR
    simp only [Bool.true_and] at hR
    refine vloop_intro (σ := Nat) (fun i => i ≤ ts.length ∧ V.okTL D vars (ts.drop i) = R) (fun i => [(0, .pv (.lst 3 (Dt.pvL D))), (2, .pv (.int .i64 vars)), (4, .bp 0 0), (7, .pv (.int .i64 (V.pvL ts).length)), (8, .pv (.int .i64 i))])
      (fun _ => [.box 28 [.pv (.int .i64 k), .pv (.int .i64 n), .pv (.lst 3 (V.pvL ts))]]) (fun i => ts.length - i) 0 ⟨by simp, by simpa using hR⟩ (weak_sub ⟨(by kernel_rfl), (by kernel_rfl), (by kernel_rfl), (by kernel_rfl), (by kernel_rfl), trivial⟩) ?_
    rintro i ⟨hi, hs⟩
    set_option smartUnfolding false in conv => whnf
    refine br_intro (fun h => ?_) (fun h => ?_) <;> set_option smartUnfolding false in conv => whnf
    · replace h : i < ts.length := by have := dT h; rw [V.pvL_len] at this; simpa using this
      obtain ⟨⟨k', n', ts'⟩, hv, hg, _, hd⟩ := V.get_pvL h
      rw [V.pv_mk] at hg
      rw [hd, V.okTL_cons] at hs
      have hih := ih _ hv
      rw [V.pv_mk] at hih
      refine ⟨V.ag k' n' ts', ⟨by simp, by simpa using hg⟩, ?_⟩
      set_option smartUnfolding false in conv => whnf
      refine acall_det (ps := [.lst 3 (Dt.pvL D), V.ag k' n' ts', .int .i64 vars]) hih ?_
      set_option smartUnfolding false in conv => whnf
      refine br_intro (fun g => ?_) (fun g => ?_) <;> set_option smartUnfolding false in conv => whnf
      · have g : V.okT D vars (.mk k' n' ts') = false := by simpa using g
        exact rdB (by rw [← hs, g]; rfl)
      · have g : V.okT D vars (.mk k' n' ts') = true := by simpa using g
        rw [g, Bool.true_and] at hs
        refine ⟨i + 1, ⟨h, hs⟩, weak_sub ⟨(by kernel_rfl), (by kernel_rfl), (by kernel_rfl), (by kernel_rfl), sUp h hl, trivial⟩, subUp h⟩
    · replace h : ¬ i < ts.length := by have := dF h; rw [V.pvL_len] at this; simpa using this
      rw [List.drop_of_length_le (by omega), V.okTL_nil] at hs
      exact rdB hs
  have h8 := dF h8
  refine br_intro (fun h9 => ?_) (fun h9 => ?_) <;> set_option smartUnfolding false in conv => whnf
  · rw [show V.shape D vars k n = some (decide (n = 0), 1, 7) by have h9 := dT h9; simp [V.shape, h9]] at hR
    simp only at hR
    refine br_intro (fun g1 => ?_) (fun g1 => ?_) <;> set_option smartUnfolding false in conv => whnf
    · have g1 : ¬ n = 0 := by simpa using g1
      exact rdB (by rw [← hR]; simp [g1])
    have g1 : n = 0 := by simpa using g1
    refine br_intro (fun g2 => ?_) (fun g2 => ?_) <;> set_option smartUnfolding false in conv => whnf
    · have g2 := dT g2
      rw [V.pvL_len] at g2
      exact rdB (by rw [← hR, decide_eq_false (p := (1 : Int) ≤ _) (by omega)]; simp)
    refine br_intro (fun g3 => ?_) (fun g3 => ?_) <;> set_option smartUnfolding false in conv => whnf
    · have g3 := dT g3
      rw [V.pvL_len] at g3
      exact rdB (by rw [← hR, decide_eq_false (p := _ ≤ (7 : Int)) (by omega)]; simp)
    have g2 := dF g2
    have g3 := dF g3
    rw [V.pvL_len] at g2 g3
    rw [decide_eq_true g1, decide_eq_true (p := (1 : Int) ≤ _) (by omega), decide_eq_true (p := _ ≤ (7 : Int)) (by omega)] at hR
    simp only [Bool.true_and] at hR
    refine vloop_intro (σ := Nat) (fun i => i ≤ ts.length ∧ V.okTL D vars (ts.drop i) = R) (fun i => [(0, .pv (.lst 3 (Dt.pvL D))), (2, .pv (.int .i64 vars)), (4, .bp 0 0), (7, .pv (.int .i64 (V.pvL ts).length)), (8, .pv (.int .i64 i))])
      (fun _ => [.box 28 [.pv (.int .i64 k), .pv (.int .i64 n), .pv (.lst 3 (V.pvL ts))]]) (fun i => ts.length - i) 0 ⟨by simp, by simpa using hR⟩ (weak_sub ⟨(by kernel_rfl), (by kernel_rfl), (by kernel_rfl), (by kernel_rfl), (by kernel_rfl), trivial⟩) ?_
    rintro i ⟨hi, hs⟩
    set_option smartUnfolding false in conv => whnf
    refine br_intro (fun h => ?_) (fun h => ?_) <;> set_option smartUnfolding false in conv => whnf
    · replace h : i < ts.length := by have := dT h; rw [V.pvL_len] at this; simpa using this
      obtain ⟨⟨k', n', ts'⟩, hv, hg, _, hd⟩ := V.get_pvL h
      rw [V.pv_mk] at hg
      rw [hd, V.okTL_cons] at hs
      have hih := ih _ hv
      rw [V.pv_mk] at hih
      refine ⟨V.ag k' n' ts', ⟨by simp, by simpa using hg⟩, ?_⟩
      set_option smartUnfolding false in conv => whnf
      refine acall_det (ps := [.lst 3 (Dt.pvL D), V.ag k' n' ts', .int .i64 vars]) hih ?_
      set_option smartUnfolding false in conv => whnf
      refine br_intro (fun g => ?_) (fun g => ?_) <;> set_option smartUnfolding false in conv => whnf
      · have g : V.okT D vars (.mk k' n' ts') = false := by simpa using g
        exact rdB (by rw [← hs, g]; rfl)
      · have g : V.okT D vars (.mk k' n' ts') = true := by simpa using g
        rw [g, Bool.true_and] at hs
        refine ⟨i + 1, ⟨h, hs⟩, weak_sub ⟨(by kernel_rfl), (by kernel_rfl), (by kernel_rfl), (by kernel_rfl), sUp h hl, trivial⟩, subUp h⟩
    · replace h : ¬ i < ts.length := by have := dF h; rw [V.pvL_len] at this; simpa using this
      rw [List.drop_of_length_le (by omega), V.okTL_nil] at hs
      exact rdB hs
  have h9 := dF h9
  exact rdB (by rw [← hR, show V.shape D vars k n = Option.none by simp [V.shape, h1, h2, h3, h4, h5, h6, h7, h8, h9]])

theorem rValid_det (D : List Dt) (vars : Int) (t : V) (hc : t.cnt ≤ 1000000) : Det Tryz.prog 23 [.lst 3 (Dt.pvL D), t.pv, .int .i64 vars] (.bool (V.okW D vars t)) := by
  have a1 := rtsize_det t hc
  have a2 := rvalid_det D vars t
  have e : V.okW D vars t = (decide (t.cnt ≤ 200) && V.okT D vars t) := by rw [V.okW]
  rw [e]
  obtain ⟨k, n, ts⟩ := t
  rw [V.pv_mk] at a1 a2 ⊢
  refine det_of_vc' (E := S.E 0) rfl fol Tryz.func23 rfl rfl (slots := [6]) rfl rfl fun hw => ?_
  set_option smartUnfolding false in conv => whnf
  refine acall_det (ps := [V.ag k n ts]) a1 ?_
  set_option smartUnfolding false in conv => whnf
  refine br_intro (fun h => ?_) (fun h => ?_) <;> set_option smartUnfolding false in conv => whnf
  · refine acall_det (ps := [.lst 3 (Dt.pvL D), V.ag k n ts, .int .i64 vars]) a2 ?_
    set_option smartUnfolding false in conv => whnf
    have h := dT h
    exact rdB (by rw [decide_eq_true (by omega), Bool.true_and])
  · have h := dF h
    exact rdB (by rw [decide_eq_false (by omega), Bool.false_and])
end Go.AM
