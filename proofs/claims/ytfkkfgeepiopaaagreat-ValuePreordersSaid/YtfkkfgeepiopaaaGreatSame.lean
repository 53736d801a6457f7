import Derived.Test.YtfkkfgeepiopaaaGreatSlV
set_option linter.all false
set_option maxRecDepth 20000
set_option maxHeartbeats 2000000
namespace Go.AM
open Go.Proofs

/-! ### keep.SameValue, keep.SameValues -/
mutual
def V.same : V → V → Bool
  | .mk k n ks, .mk k' n' ks' => decide (k = k') && decide (n = n') && V.sameL ks ks'
def V.sameL : List V → List V → Bool
  | v :: l, ts => match ts with
    | t :: m => V.same v t && V.sameL l m
    | [] => false
  | [], ts => ts.isEmpty
end
theorem V.same_mk (k n : Int) (ks : List V) (k' n' : Int) (ks' : List V) : V.same (.mk k n ks) (.mk k' n' ks') = (decide (k = k') && decide (n = n') && V.sameL ks ks') := by rw [V.same]
theorem V.sameL_cons (v t : V) (l m : List V) : V.sameL (v :: l) (t :: m) = (V.same v t && V.sameL l m) := by rw [V.sameL]
theorem V.sameL_nil : V.sameL [] [] = true := by simp [V.sameL]
theorem V.sameL_eq : ∀ l m : List V, eqL V.same l m = V.sameL l m
  | [], [] => by rw [eqL_nil, V.sameL_nil]
  | [], t :: m => by rw [eqL_len _ _ _ (by simp), V.sameL]; rfl
  | v :: l, [] => by rw [eqL_len _ _ _ (by simp), V.sameL]
  | v :: l, t :: m => by rw [eqL_cons, V.sameL_cons, V.sameL_eq l m]
mutual
theorem V.same_self : ∀ v : V, V.same v v = true
  | .mk k n ks => by rw [V.same_mk, V.sameL_self ks]; simp
theorem V.sameL_self : ∀ l : List V, V.sameL l l = true
  | [] => V.sameL_nil
  | v :: l => by rw [V.sameL_cons, V.same_self v, V.sameL_self l]; rfl
end
attribute [irreducible] V.same V.sameL

theorem sameV_of (v w : V) (h : ∀ (k n : Int) (ks : List V) (k' n' : Int) (ks' : List V), v = .mk k n ks → w = .mk k' n' ks' → Det Tryz.prog 7 [.lst 3 (V.pvL ks), .lst 3 (V.pvL ks')] (.bool (V.sameL ks ks'))) :
    Det Tryz.prog 12 [v.pv, w.pv] (.bool (v.same w)) := by
  obtain ⟨k, n, ks⟩ := v
  obtain ⟨k', n', ks'⟩ := w
  have h := h _ _ _ _ _ _ rfl rfl
  rw [V.same_mk, V.pv_mk, V.pv_mk]
  refine det_of_vc' (E := S.E 0) rfl fol Tryz.func12 rfl rfl (slots := [4]) rfl rfl fun hw => ?_
  set_option smartUnfolding false in conv => whnf
  refine br_intro (fun h1 => ?_) (fun h1 => ?_) <;> set_option smartUnfolding false in conv => whnf
  · refine br_intro (fun h2 => ?_) (fun h2 => ?_) <;> set_option smartUnfolding false in conv => whnf
    · refine acall_det (ps := [.lst 3 (V.pvL ks), .lst 3 (V.pvL ks')]) h ?_
      set_option smartUnfolding false in conv => whnf
      exact rdB (by rw [h1, h2]; rfl)
    · exact rdB (by rw [h2]; simp)
  · exact rdB (by rw [h1]; rfl)
theorem sameVs_of (ks ks' : List V) (ih : ∀ v ∈ ks, ∀ w : V, Det Tryz.prog 12 [v.pv, w.pv] (.bool (v.same w))) :
    Det Tryz.prog 7 [.lst 3 (V.pvL ks), .lst 3 (V.pvL ks')] (.bool (V.sameL ks ks')) := by
  rw [← V.sameL_eq]
  generalize hqd : V.same = q at ih ⊢
  refine det_of_vc' (E := S.E 0) rfl fol Tryz.func7 rfl rfl (slots := [4]) rfl rfl fun hw => ?_
  have hl : ks.length ≤ 9223372036854775807 := by have := hw.1.1; rwa [V.pvL_len] at this
  set_option smartUnfolding false in conv => whnf
  refine br_intro (fun h => ?_) (fun h => ?_) <;> set_option smartUnfolding false in conv => whnf
  · have h : ¬ ks.length = ks'.length := by simp [V.pvL_len] at h; omega
    exact rdB (by rw [eqL_len q ks ks' h])
  have hlen : ks.length = ks'.length := by simp [V.pvL_len] at h; omega
  refine vloop_intro (σ := Nat) (fun i => i ≤ ks.length ∧ eqL q (ks.drop i) (ks'.drop i) = eqL q ks ks')
    (fun i => [(0, .pv (.lst 3 (V.pvL ks))), (1, .pv (.lst 3 (V.pvL ks'))), (12, .pv (.int .i64 (V.pvL ks).length)), (13, .pv (.int .i64 i))])
    (fun _ => []) (fun i => ks.length - i) 0 ⟨by simp, by simp⟩ (weak_bare rfl ⟨(by kernel_rfl), (by kernel_rfl), (by kernel_rfl), (by kernel_rfl), trivial⟩) ?_
  rintro i ⟨hi, hs⟩
  set_option smartUnfolding false in conv => whnf
  refine br_intro (fun h => ?_) (fun h => ?_) <;> set_option smartUnfolding false in conv => whnf
  · replace h : i < ks.length := by have := dT h; rw [V.pvL_len] at this; simpa using this
    refine V.get_elim h fun k1 n1 ks1 hv hg hg0 hd => ?_
    refine V.get_elim (l := ks') (i := i) (by omega) fun k2 n2 ks2 hv2 hg2 hg20 hd2 => ?_
    rw [hd, hd2, eqL_cons] at hs
    have hq1 := ih _ hv (.mk k2 n2 ks2)
    rw [V.pv_mk, V.pv_mk] at hq1
    refine ⟨V.ag k1 n1 ks1, ⟨by simp, by simpa using hg⟩, ?_⟩
    set_option smartUnfolding false in conv => whnf
    refine ⟨V.ag k2 n2 ks2, ⟨by simp, by simpa using hg2⟩, ?_⟩
    set_option smartUnfolding false in conv => whnf
    refine acall_det (ps := [V.ag k1 n1 ks1, V.ag k2 n2 ks2]) hq1 ?_
    set_option smartUnfolding false in conv => whnf
    refine br_intro (fun h2 => ?_) (fun h2 => ?_) <;> set_option smartUnfolding false in conv => whnf
    · have h2 : q (.mk k1 n1 ks1) (.mk k2 n2 ks2) = false := by simpa using h2
      exact rdB (by rw [← hs, h2]; rfl)
    · have h2 : q (.mk k1 n1 ks1) (.mk k2 n2 ks2) = true := by simpa using h2
      rw [h2, Bool.true_and] at hs
      exact ⟨i + 1, ⟨h, hs⟩, weak_bare rfl ⟨(by kernel_rfl), (by kernel_rfl), (by kernel_rfl), sUp h hl, trivial⟩, subUp h⟩
  · replace h : ¬ i < ks.length := by have := dF h; rw [V.pvL_len] at this; simpa using this
    rw [List.drop_of_length_le (by omega), List.drop_of_length_le (by omega), eqL_nil] at hs
    exact rdB hs
theorem sameV_det (v : V) : ∀ w : V, Det Tryz.prog 12 [v.pv, w.pv] (.bool (v.same w)) := by
  refine V.recOn' (p := fun v => ∀ w : V, Det Tryz.prog 12 [v.pv, w.pv] (.bool (v.same w))) (fun k n ks ih w => sameV_of _ _ ?_) v
  rintro k0 n0 ks0 k' n' ks' h rfl
  cases h
  exact sameVs_of ks ks' ih
theorem sameVs_det (ks ks' : List V) : Det Tryz.prog 7 [.lst 3 (V.pvL ks), .lst 3 (V.pvL ks')] (.bool (V.sameL ks ks')) := sameVs_of ks ks' fun v _ => sameV_det v
end Go.AM
