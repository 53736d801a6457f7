import Derived.Test.YtfkkfgeepiopaaaGreatTypR
set_option linter.all false
set_option maxRecDepth 4000
namespace Go.AM
open Go.Proofs

mutual
/-- The variables of a type replaced. -/
def V.sub (us : List V) : V → V
  | .mk k n ts => if k = 4 ∧ 0 ≤ n ∧ n < us.length then (us[n.toNat]?.getD (.mk 0 0 [])) else .mk k n (V.subL us ts)
def V.subL (us : List V) : List V → List V
  | [] => []
  | t :: l => V.sub us t :: V.subL us l
end
theorem V.sub_mk (us : List V) (k n : Int) (ts : List V) : V.sub us (.mk k n ts) = if k = 4 ∧ 0 ≤ n ∧ n < us.length then (us[n.toNat]?.getD (.mk 0 0 [])) else .mk k n (V.subL us ts) := by rw [V.sub]
theorem V.subL_nil (us : List V) : V.subL us [] = [] := by rw [V.subL]
theorem V.subL_cons (us : List V) (t : V) (l : List V) : V.subL us (t :: l) = V.sub us t :: V.subL us l := by rw [V.subL]
mutual
theorem V.sub_none : ∀ t : V, V.sub [] t = t
  | .mk k n ts => by rw [V.sub_mk, if_neg (by rintro ⟨_, h1, h2⟩; simp at h2; omega), V.subL_none ts]
theorem V.subL_none : ∀ l : List V, V.subL [] l = l
  | [] => V.subL_nil _
  | t :: l => by rw [V.subL_cons, V.sub_none t, V.subL_none l]
end
attribute [irreducible] V.sub V.subL
theorem V.pvL_cons (v : V) (l : List V) : V.pvL (v :: l) = v.pv :: V.pvL l := by simp [V.pvL_eq]
theorem V.pvL_nil : V.pvL [] = [] := by simp [V.pvL_eq]

theorem copied_det (t : V) : t.cnt ≤ 1000000 → Det Tryz.prog 79 [t.pv] t.pv := by
  refine V.recOn' (p := fun t => t.cnt ≤ 1000000 → Det Tryz.prog 79 [t.pv] t.pv) (fun k n ts ih hc => ?_) t
  rw [V.cnt_mk] at hc
  have hlc := V.len_cntL ts
  rw [V.pv_mk]
  refine det_of_vcc (E := S.E 0) rfl fol Tryz.func79 rfl rfl (cell := (2, 28)) rfl rfl fun hw => ?_
  have hl := V.lenle hw.1
  set_option smartUnfolding false in conv => whnf
  refine vloop_intro (σ := Nat × List PV) (fun x => x.1 ≤ ts.length ∧ x.2 ++ V.pvL (ts.drop x.1) = V.pvL ts ∧ x.2.length = x.1) (fun x => [(1, .bp 0 0), (2, .bp 1 0), (3, .bp 2 0), (4, .pv (.int .i64 x.1))])
    (fun x => [.box 28 [.pv (.int .i64 k), .pv (.int .i64 n), .pv (.lst 3 (V.pvL ts))], .box 28 [.pv (.int .i64 0), .pv (.int .i64 0), .pv .nils], .box 28 [.pv (.int .i64 k), .pv (.int .i64 n), lsV 3 x.2], lsB 28 3 x.2])
    (fun x => ts.length - x.1) (0, []) ⟨by simp, by simp, rfl⟩ (weak_ren [0, 1, 2, 3] 4 (by kernel_rfl) (blk (by kernel_rfl) (blk (by kernel_rfl) (blk (by kernel_rfl) (blkD trivial)))) ⟨(by kernel_rfl), (by kernel_rfl), (by kernel_rfl), (by kernel_rfl), trivial⟩) ?_
  rintro ⟨i, ps⟩ ⟨hi, hs, hpl⟩
  simp only at hi hs hpl
  set_option smartUnfolding false in conv => whnf
  refine br_intro (fun h => ?_) (fun h => ?_) <;> set_option smartUnfolding false in conv => whnf
  · replace h : i < ts.length := by have := dT h; rw [V.pvL_len] at this; simpa using this
    obtain ⟨⟨k', n', ts'⟩, hv, hg, _, hd⟩ := V.get_pvL h
    have hih := ih _ hv (by have := V.cnt_mem hv; omega)
    rw [V.pv_mk] at hg hih
    rw [hd, V.pvL_cons, V.pv_mk] at hs
    refine ⟨V.ag k' n' ts', ⟨by simp, by simpa using hg⟩, ?_⟩
    set_option smartUnfolding false in conv => whnf
    refine acall_det (ps := [V.ag k' n' ts']) hih ?_
    set_option smartUnfolding false in conv => whnf
    refine ⟨Nat.le_refl 1, ?_⟩
    set_option smartUnfolding false in conv => whnf
    cases ps with
    | nil =>
      set_option smartUnfolding false in conv => whnf
      refine ⟨⟨⟨by decide, by decide⟩, by decide⟩, ?_⟩
      set_option smartUnfolding false in conv => whnf
      exact ⟨(i + 1, [] ++ [V.ag k' n' ts']), ⟨h, hs, by simp at hpl ⊢; omega⟩, weak_ren [0, 1, 2, 5] 6 (by kernel_rfl) (blk (by kernel_rfl) (blk (by kernel_rfl) (blk (by kernel_rfl) (blk (by kernel_rfl) trivial)))) ⟨(by kernel_rfl), (by kernel_rfl), (by kernel_rfl), sUp h hl, trivial⟩, subUp h⟩
    | cons p ps =>
      set_option smartUnfolding false in conv => whnf
      simp only [List.length_cons] at hpl
      refine ⟨⟨⟨by simp [pvs_len], by simp only [Nat.succ_eq_add_one]; omega⟩, by rw [show ((S.E 0).te 28).bytes = 40 from rfl]; simp only [Nat.succ_eq_add_one]; omega⟩, ?_⟩
      set_option smartUnfolding false in conv => whnf
      exact ⟨(i + 1, (p :: ps) ++ [V.ag k' n' ts']), ⟨h, by rw [← hs]; simp, by simp; omega⟩, weak_ren [0, 1, 2, 5] 6 (by kernel_rfl) (blk (by kernel_rfl) (blk (by kernel_rfl) (blk (by simp only [lsV_snoc]; kernel_rfl) (blkR_snoc (by kernel_rfl) trivial)))) ⟨(by kernel_rfl), (by kernel_rfl), (by kernel_rfl), sUp h hl, trivial⟩, subUp h⟩
  · replace h : ¬ i < ts.length := by have := dF h; rw [V.pvL_len] at this; simpa using this
    rw [List.drop_of_length_le (by omega), V.pvL_nil, List.append_nil] at hs
    cases ps with
    | nil =>
      set_option smartUnfolding false in conv => whnf
      exact .le (.agg (.cons (.refl _) (.cons (.refl _) (.cons (ple_nils hs) .nil))))
    | cons p ps =>
      set_option smartUnfolding false in conv => whnf
      exact .mix (.cons (.pv _) (.cons (.pv _) (.cons (rd_lsE (k := 3) hs rfl trivial rfl) .nil)))
end Go.AM
