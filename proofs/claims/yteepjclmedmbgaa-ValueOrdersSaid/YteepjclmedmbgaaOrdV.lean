import Derived.Test.YteepjclmedmbgaaValC
import Derived.Test.YteepjclmedmbgaaCmpA
set_option linter.all false
set_option maxRecDepth 4000
namespace Go.AM
open Go.Proofs

mutual
/-- The order of values. -/
def V.cmp : V → V → Int
  | .mk k n ks, .mk k' n' ks' => if cmpI k k' = 0 then (if cmpI n n' = 0 then (if cmpI ks.length ks'.length = 0 then V.cmpL ks ks' else cmpI ks.length ks'.length) else cmpI n n') else cmpI k k'
def V.cmpL : List V → List V → Int
  | v :: l, ws => match ws with
    | [] => 0
    | w :: m => if V.cmp v w = 0 then V.cmpL l m else V.cmp v w
  | [], _ => 0
end
theorem V.cmp_mk (k n : Int) (ks : List V) (k' n' : Int) (ks' : List V) : V.cmp (.mk k n ks) (.mk k' n' ks') = if cmpI k k' = 0 then (if cmpI n n' = 0 then (if cmpI ks.length ks'.length = 0 then V.cmpL ks ks' else cmpI ks.length ks'.length) else cmpI n n') else cmpI k k' := by rw [V.cmp]
theorem V.cmpL_nil (m : List V) : V.cmpL [] m = 0 := by rw [V.cmpL]
theorem V.cmpL_cons (v w : V) (l m : List V) : V.cmpL (v :: l) (w :: m) = if V.cmp v w = 0 then V.cmpL l m else V.cmp v w := by rw [V.cmpL]
attribute [irreducible] V.cmp V.cmpL
theorem cmpI_zero {a b : Int} : cmpI a b = 0 ↔ a = b := by
  unfold cmpI
  split
  · omega
  · split <;> omega

theorem less_det (b : Bool) : Det Try.prog 22 [.bool b] (.int .i64 (if b then -1 else 1)) := by
  refine det_of_vc' (E := S.E 0) rfl folC Try.func22 rfl rfl (slots := [2]) rfl rfl fun hw => ?_
  set_option smartUnfolding false in conv => whnf
  refine br_intro (fun h => ?_) (fun h => ?_) <;> set_option smartUnfolding false in conv => whnf
  · exact rdI (by simp [h])
  · exact rdI (by simp [h])

theorem vcmp_det (v : V) : ∀ w : V, Det Try.prog 11 [v.pv, w.pv] (.int .i64 (v.cmp w)) := by
  refine V.recOn' (p := fun v => ∀ w : V, Det Try.prog 11 [v.pv, w.pv] (.int .i64 (v.cmp w))) (fun k n ks ih w => ?_) v
  obtain ⟨k', n', ks'⟩ := w
  have o := or_int [cmpI k k', cmpI n n', cmpI ks.length ks'.length]
  have e : (V.mk k n ks).cmp (.mk k' n' ks') = if orI [cmpI k k', cmpI n n', cmpI ks.length ks'.length] = 0 then V.cmpL ks ks' else orI [cmpI k k', cmpI n n', cmpI ks.length ks'.length] := by
    by_cases h1 : cmpI k k' = 0 <;> by_cases h2 : cmpI n n' = 0 <;> by_cases h3 : cmpI ks.length ks'.length = 0 <;> simp [V.cmp_mk, orI_cons, orI_nil, h1, h2, h3]
  have el : orI [cmpI k k', cmpI n n', cmpI ks.length ks'.length] = 0 → ks.length = ks'.length := by
    simp only [orI_cons, orI_nil]
    intro h
    by_cases h1 : cmpI k k' = 0 <;> by_cases h2 : cmpI n n' = 0 <;> by_cases h3 : cmpI ks.length ks'.length = 0 <;> simp_all
    have := cmpI_zero.1 h3; omega
  simp only [intsP, List.map] at o
  rw [V.pv_mk, V.pv_mk]
  refine det_of_vc' (E := S.E 0) rfl folC Try.func11 rfl rfl (slots := [4]) rfl rfl fun hw => ?_
  have hl := V.lenle hw.1
  set_option smartUnfolding false in conv => whnf
  refine acall_det (ps := [.int .i64 k, .int .i64 k']) (cmp_int k k') ?_
  set_option smartUnfolding false in conv => whnf
  refine acall_det (ps := [.int .i64 n, .int .i64 n']) (cmp_int64 n n') ?_
  set_option smartUnfolding false in conv => whnf
  refine acall_det (ps := [.int .i64 (V.pvL ks).length, .int .i64 (V.pvL ks').length]) (cmp_int _ _) ?_
  rw [V.pvL_len, V.pvL_len]
  set_option smartUnfolding false in conv => whnf
  refine acall_intro (adet_read (S := [2]) o (.cons (.row (.head _) rfl (Nat.le_refl 3) (.cons (.pv _) (.cons (.pv _) (.cons (.pv _) .nil)))) .nil) rfl) ?_
  set_option smartUnfolding false in conv => whnf
  refine vloop_intro (σ := Nat × Int) (fun x => x.1 ≤ ks.length ∧ (if x.2 = 0 then V.cmpL (ks.drop x.1) (ks'.drop x.1) else x.2) = V.cmp (.mk k n ks) (.mk k' n' ks') ∧ (x.2 = 0 → ks.length = ks'.length))
    (fun x => [(2, .bp 0 0), (3, .bp 1 0), (5, .pv (.int .i64 x.2)), (6, .pv (.int .i64 x.1))])
    (fun _ => [.box 24 [.pv (.int .i64 k), .pv (.int .i64 n), .pv (.lst 3 (V.pvL ks))], .box 24 [.pv (.int .i64 k'), .pv (.int .i64 n'), .pv (.lst 3 (V.pvL ks'))]])
    (fun x => ks.length - x.1) (0, orI [cmpI k k', cmpI n n', cmpI ks.length ks'.length]) ⟨by simp, by simp [e], el⟩ (weak_ren [0, 1] 3 rfl ⟨rfl, rfl, trivial⟩ ⟨rfl, rfl, rfl, rfl, trivial⟩) ?_
  rintro ⟨i, c⟩ ⟨hi, hs, hc⟩
  simp only at hi hs hc
  set_option smartUnfolding false in conv => whnf
  refine br_intro (fun h => ?_) (fun h => ?_) <;> set_option smartUnfolding false in conv => whnf
  · have h := dT h
    subst h
    have hc := hc rfl
    rw [if_pos rfl] at hs
    refine br_intro (fun h => ?_) (fun h => ?_) <;> set_option smartUnfolding false in conv => whnf
    · replace h : i < ks.length := by have := dT h; rw [V.pvL_len] at this; simpa using this
      obtain ⟨⟨k1, n1, ks1⟩, hv, hg, _, hd⟩ := V.get_pvL h
      obtain ⟨⟨k2, n2, ks2⟩, hv2, hg2, _, hd2⟩ := V.get_pvL (l := ks') (i := i) (by omega)
      rw [V.pv_mk] at hg hg2
      rw [hd, hd2, V.cmpL_cons] at hs
      refine ⟨V.ag k1 n1 ks1, ⟨by simp, by simpa using hg⟩, ?_⟩
      set_option smartUnfolding false in conv => whnf
      refine ⟨V.ag k2 n2 ks2, ⟨by simp, by simpa using hg2⟩, ?_⟩
      set_option smartUnfolding false in conv => whnf
      refine acall_det (ps := [V.ag k1 n1 ks1, V.ag k2 n2 ks2]) (V.pv_mk k1 n1 ks1 ▸ V.pv_mk k2 n2 ks2 ▸ ih _ hv (.mk k2 n2 ks2)) ?_
      set_option smartUnfolding false in conv => whnf
      refine ⟨(i + 1, V.cmp (.mk k1 n1 ks1) (.mk k2 n2 ks2)), ⟨h, hs, fun _ => hc⟩, weak_sub ⟨rfl, rfl, rfl, sUp h hl, trivial⟩, subUp h⟩
    · replace h : ¬ i < ks.length := by have := dF h; rw [V.pvL_len] at this; simpa using this
      rw [List.drop_of_length_le (by omega), V.cmpL_nil] at hs
      exact rdI hs
  · have h := dF h
    rw [if_neg h] at hs
    exact rdI hs

theorem cmpI_ne {a b : Int} (h : ¬ a = b) : (if decide (a < b) = true then (-1 : Int) else 1) = cmpI a b := by
  unfold cmpI
  split <;> rename_i h1 <;> simp at h1
  · rw [if_pos h1]
  · rw [if_neg (by omega), if_pos (by omega)]
theorem cmpI_self (a : Int) : cmpI a a = 0 := cmpI_zero.2 rfl

theorem rcmp_det (v : V) : ∀ w : V, Det Try.prog 12 [v.pv, w.pv] (.int .i64 (v.cmp w)) := by
  refine V.recOn' (p := fun v => ∀ w : V, Det Try.prog 12 [v.pv, w.pv] (.int .i64 (v.cmp w))) (fun k n ks ih w => ?_) v
  obtain ⟨k', n', ks'⟩ := w
  have e : V.cmp (.mk k n ks) (.mk k' n' ks') = _ := V.cmp_mk k n ks k' n' ks'
  generalize V.cmp (.mk k n ks) (.mk k' n' ks') = R at e
  rw [V.pv_mk, V.pv_mk]
  refine det_of_vc' (E := S.E 0) rfl folC Try.func12 rfl rfl (slots := [4]) rfl rfl fun hw => ?_
  have hl := V.lenle hw.1
  set_option smartUnfolding false in conv => whnf
  refine br_intro (fun h => ?_) (fun h => ?_) <;> set_option smartUnfolding false in conv => whnf
  · refine acall_det (ps := [.bool (decide (k < k'))]) (less_det _) ?_
    set_option smartUnfolding false in conv => whnf
    have h : ¬ k = k' := by simpa using h
    exact rdI (by rw [cmpI_ne h, e, if_neg (fun h' => h (cmpI_zero.1 h'))])
  have h : k = k' := by simpa using h
  subst h
  rw [cmpI_self, if_pos rfl] at e
  refine br_intro (fun h => ?_) (fun h => ?_) <;> set_option smartUnfolding false in conv => whnf
  · refine acall_det (ps := [.bool (decide (n < n'))]) (less_det _) ?_
    set_option smartUnfolding false in conv => whnf
    have h : ¬ n = n' := by simpa using h
    exact rdI (by rw [cmpI_ne h, e, if_neg (fun h' => h (cmpI_zero.1 h'))])
  have h : n = n' := by simpa using h
  subst h
  rw [cmpI_self, if_pos rfl] at e
  refine br_intro (fun h => ?_) (fun h => ?_) <;> set_option smartUnfolding false in conv => whnf
  · refine acall_det (ps := [.bool (decide (((V.pvL ks).length : Int) < (V.pvL ks').length))]) (less_det _) ?_
    set_option smartUnfolding false in conv => whnf
    rw [V.pvL_len, V.pvL_len] at h
    have h : ¬ (ks.length : Int) = ks'.length := by simpa using h
    exact rdI (by rw [V.pvL_len, V.pvL_len, cmpI_ne h, e, if_neg (fun h' => h (cmpI_zero.1 h'))])
  rw [V.pvL_len, V.pvL_len] at h
  have hlen : ks.length = ks'.length := by simp at h; omega
  rw [hlen, cmpI_self, if_pos rfl] at e
  refine vloop_intro (σ := Nat) (fun i => i ≤ ks.length ∧ V.cmpL (ks.drop i) (ks'.drop i) = R)
    (fun i => [(2, .bp 0 0), (3, .bp 1 0), (5, .pv (.int .i64 i))])
    (fun _ => [.box 24 [.pv (.int .i64 k), .pv (.int .i64 n), .pv (.lst 3 (V.pvL ks))], .box 24 [.pv (.int .i64 k), .pv (.int .i64 n), .pv (.lst 3 (V.pvL ks'))]])
    (fun i => ks.length - i) 0 ⟨by simp, by simp [e]⟩ (weak_sub ⟨rfl, rfl, rfl, trivial⟩) ?_
  rintro i ⟨hi, hs⟩
  set_option smartUnfolding false in conv => whnf
  refine br_intro (fun h => ?_) (fun h => ?_) <;> set_option smartUnfolding false in conv => whnf
  · replace h : i < ks.length := by have := dT h; rw [V.pvL_len] at this; simpa using this
    obtain ⟨⟨k1, n1, ks1⟩, hv, hg, _, hd⟩ := V.get_pvL h
    obtain ⟨⟨k2, n2, ks2⟩, hv2, hg2, _, hd2⟩ := V.get_pvL (l := ks') (i := i) (by omega)
    rw [V.pv_mk] at hg hg2
    rw [hd, hd2, V.cmpL_cons] at hs
    refine ⟨V.ag k1 n1 ks1, ⟨by simp, by simpa using hg⟩, ?_⟩
    set_option smartUnfolding false in conv => whnf
    refine ⟨V.ag k2 n2 ks2, ⟨by simp, by simpa using hg2⟩, ?_⟩
    set_option smartUnfolding false in conv => whnf
    refine acall_det (ps := [V.ag k1 n1 ks1, V.ag k2 n2 ks2]) (V.pv_mk k1 n1 ks1 ▸ V.pv_mk k2 n2 ks2 ▸ ih _ hv (.mk k2 n2 ks2)) ?_
    set_option smartUnfolding false in conv => whnf
    refine br_intro (fun h2 => ?_) (fun h2 => ?_) <;> set_option smartUnfolding false in conv => whnf
    · rw [if_neg (by simpa using h2)] at hs
      exact rdI hs
    · rw [if_pos (by simpa using h2)] at hs
      refine ⟨i + 1, ⟨h, hs⟩, weak_sub ⟨rfl, rfl, sUp h hl, trivial⟩, subUp h⟩
  · replace h : ¬ i < ks.length := by have := dF h; rw [V.pvL_len] at this; simpa using this
    rw [List.drop_of_length_le (by omega), V.cmpL_nil] at hs
    exact rdI hs

/-- Equal lists, element by element. -/
theorem V.cmpL_zero_cons (v w : V) (l m : List V) : decide (V.cmpL (v :: l) (w :: m) = 0) = (decide (V.cmp v w = 0) && decide (V.cmpL l m = 0)) := by
  rw [V.cmpL_cons]; split <;> simp_all

/-- keep.SameValue and keep.SameValues. -/
theorem sameV_of (v w : V) (h : ∀ (k n : Int) (ks : List V) (k' n' : Int) (ks' : List V), v = .mk k n ks → w = .mk k' n' ks' → Det Try.prog 23 [.lst 3 (V.pvL ks), .lst 3 (V.pvL ks')] (.bool (decide (ks.length = ks'.length ∧ V.cmpL ks ks' = 0)))) :
    Det Try.prog 13 [v.pv, w.pv] (.bool (decide (v.cmp w = 0))) := by
  obtain ⟨k, n, ks⟩ := v
  obtain ⟨k', n', ks'⟩ := w
  have h := h _ _ _ _ _ _ rfl rfl
  have e : decide (V.cmp (.mk k n ks) (.mk k' n' ks') = 0) = _ := congrArg (fun x => decide (x = 0)) (V.cmp_mk k n ks k' n' ks')
  rw [e, V.pv_mk, V.pv_mk]
  refine det_of_vc' (E := S.E 0) rfl folC Try.func13 rfl rfl (slots := [4]) rfl rfl fun hw => ?_
  set_option smartUnfolding false in conv => whnf
  refine br_intro (fun h1 => ?_) (fun h1 => ?_) <;> set_option smartUnfolding false in conv => whnf
  · have h1 := dT h1
    refine br_intro (fun h2 => ?_) (fun h2 => ?_) <;> set_option smartUnfolding false in conv => whnf
    · have h2 := dT h2
      refine acall_det (ps := [.lst 3 (V.pvL ks), .lst 3 (V.pvL ks')]) h ?_
      set_option smartUnfolding false in conv => whnf
      refine rdB ?_
      rw [h1, h2, cmpI_self, cmpI_self]
      by_cases h3 : cmpI (ks.length : Int) ks'.length = 0
      · have := cmpI_zero.1 h3
        rw [h3]; simp; intro _; omega
      · have h4 : ¬ ks.length = ks'.length := fun h => h3 (cmpI_zero.2 (by rw [h]))
        simp [h3, h4]
    · have h2 := dF h2
      have h2' : ¬ cmpI n n' = 0 := fun h => h2 (cmpI_zero.1 h)
      exact rdB (by rw [h1, cmpI_self]; simp [h2'])
  · have h1 := dF h1
    have h1' : ¬ cmpI k k' = 0 := fun h => h1 (cmpI_zero.1 h)
    exact rdB (by simp [h1'])

theorem sameVs_of (ks ks' : List V) (ih : ∀ v ∈ ks, ∀ w : V, Det Try.prog 13 [v.pv, w.pv] (.bool (decide (v.cmp w = 0)))) :
    Det Try.prog 23 [.lst 3 (V.pvL ks), .lst 3 (V.pvL ks')] (.bool (decide (ks.length = ks'.length ∧ V.cmpL ks ks' = 0))) := by
  refine det_of_vc' (E := S.E 0) rfl folC Try.func23 rfl rfl (slots := [4]) rfl rfl fun hw => ?_
  have hl : ks.length ≤ 9223372036854775807 := by have := hw.1.1; rwa [V.pvL_len] at this
  set_option smartUnfolding false in conv => whnf
  refine br_intro (fun h => ?_) (fun h => ?_) <;> set_option smartUnfolding false in conv => whnf
  · have h : ¬ ks.length = ks'.length := by simp [V.pvL_len] at h; omega
    exact rdB (by simp [h])
  have hlen : ks.length = ks'.length := by simp [V.pvL_len] at h; omega
  generalize hR : decide (ks.length = ks'.length ∧ V.cmpL ks ks' = 0) = R
  have hR : decide (V.cmpL ks ks' = 0) = R := by rw [← hR]; simp [hlen]
  refine vloop_intro (σ := Nat) (fun i => i ≤ ks.length ∧ decide (V.cmpL (ks.drop i) (ks'.drop i) = 0) = R)
    (fun i => [(0, .pv (.lst 3 (V.pvL ks))), (1, .pv (.lst 3 (V.pvL ks'))), (12, .pv (.int .i64 (V.pvL ks).length)), (13, .pv (.int .i64 i))])
    (fun _ => []) (fun i => ks.length - i) 0 ⟨by simp, by simpa using hR⟩ (weak_bare rfl ⟨rfl, rfl, rfl, rfl, trivial⟩) ?_
  rintro i ⟨hi, hs⟩
  set_option smartUnfolding false in conv => whnf
  refine br_intro (fun h => ?_) (fun h => ?_) <;> set_option smartUnfolding false in conv => whnf
  · replace h : i < ks.length := by have := dT h; rw [V.pvL_len] at this; simpa using this
    obtain ⟨⟨k1, n1, ks1⟩, hv, hg, _, hd⟩ := V.get_pvL h
    obtain ⟨⟨k2, n2, ks2⟩, hv2, hg2, _, hd2⟩ := V.get_pvL (l := ks') (i := i) (by omega)
    rw [V.pv_mk] at hg hg2
    rw [hd, hd2, V.cmpL_zero_cons] at hs
    refine ⟨V.ag k1 n1 ks1, ⟨by simp, by simpa using hg⟩, ?_⟩
    set_option smartUnfolding false in conv => whnf
    refine ⟨V.ag k2 n2 ks2, ⟨by simp, by simpa using hg2⟩, ?_⟩
    set_option smartUnfolding false in conv => whnf
    refine acall_det (ps := [V.ag k1 n1 ks1, V.ag k2 n2 ks2]) (V.pv_mk k1 n1 ks1 ▸ V.pv_mk k2 n2 ks2 ▸ ih _ hv (.mk k2 n2 ks2)) ?_
    set_option smartUnfolding false in conv => whnf
    refine br_intro (fun h2 => ?_) (fun h2 => ?_) <;> set_option smartUnfolding false in conv => whnf
    · have h2 : decide (V.cmp (.mk k1 n1 ks1) (.mk k2 n2 ks2) = 0) = false := by simpa using h2
      exact rdB (by rw [← hs, h2]; rfl)
    · have h2 : decide (V.cmp (.mk k1 n1 ks1) (.mk k2 n2 ks2) = 0) = true := by simpa using h2
      rw [h2, Bool.true_and] at hs
      refine ⟨i + 1, ⟨h, hs⟩, weak_bare rfl ⟨rfl, rfl, rfl, sUp h hl, trivial⟩, subUp h⟩
  · replace h : ¬ i < ks.length := by have := dF h; rw [V.pvL_len] at this; simpa using this
    rw [List.drop_of_length_le (by omega), V.cmpL_nil] at hs
    exact rdB hs

theorem sameV_det (v : V) : ∀ w : V, Det Try.prog 13 [v.pv, w.pv] (.bool (decide (v.cmp w = 0))) := by
  refine V.recOn' (p := fun v => ∀ w : V, Det Try.prog 13 [v.pv, w.pv] (.bool (decide (v.cmp w = 0)))) (fun k n ks ih w => sameV_of _ _ ?_) v
  rintro k0 n0 ks0 k' n' ks' h rfl
  cases h
  exact sameVs_of ks ks' ih
theorem sameVs_det (ks ks' : List V) : Det Try.prog 23 [.lst 3 (V.pvL ks), .lst 3 (V.pvL ks')] (.bool (decide (ks.length = ks'.length ∧ V.cmpL ks ks' = 0))) := sameVs_of ks ks' fun v _ => sameV_det v
end Go.AM
