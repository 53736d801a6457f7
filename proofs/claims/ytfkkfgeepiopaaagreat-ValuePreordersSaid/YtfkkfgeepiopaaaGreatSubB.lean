import Derived.Test.YtfkkfgeepiopaaaGreatSubA
set_option linter.all false
set_option maxRecDepth 4000
set_option maxHeartbeats 2000000
namespace Go.AM
open Go.Proofs

theorem V.sub_else {us : List V} {k n : Int} (ts : List V) (h : ¬ (k = 4 ∧ 0 ≤ n ∧ n < us.length)) : V.sub us (.mk k n ts) = .mk k n (V.subL us ts) := by rw [V.sub_mk, if_neg h]



theorem tsubst_of (us : List V) (hclone : ∀ u ∈ us, Det Tryz.prog 72 [u.pv] u.pv) (t : V) : t.cnt ≤ 1000000 → Det Tryz.prog 52 [t.pv, .lst 3 (V.pvL us)] (V.sub us t).pv := by
  refine V.recOn' (p := fun t => t.cnt ≤ 1000000 → Det Tryz.prog 52 [t.pv, .lst 3 (V.pvL us)] (V.sub us t).pv) (fun k n ts ih hc => ?_) t
  rw [V.cnt_mk] at hc
  have hlc := V.len_cntL ts
  rw [V.pv_mk]
  refine det_of_vcc (E := S.E 0) rfl fol Tryz.func52 rfl rfl (cell := (4, 28)) rfl rfl fun hw => ?_
  have hl := V.lenle hw.1
  set_option smartUnfolding false in conv => whnf
  refine br_intro (fun h1 => ?_) (fun h1 => ?_) <;> set_option smartUnfolding false in conv => whnf
  rotate_left
  · have hno : ¬ (k = 4 ∧ 0 ≤ n ∧ n < us.length) := fun h => dF h1 h.1
    rw [V.sub_else ts hno, V.pv_mk]
    refine vloop_intro (σ := Nat × List PV) (fun x => x.1 ≤ ts.length ∧ x.2 ++ V.pvL (V.subL us (ts.drop x.1)) = V.pvL (V.subL us ts) ∧ x.2.length = x.1) (fun x => [(1, .pv (.lst 3 (V.pvL us))), (2, .bp 0 0), (4, .bp 1 0), (5, .bp 2 0), (35, .pv (.lst 3 (V.pvL ts))), (36, .pv (.int .i64 (V.pvL ts).length)), (37, .pv (.int .i64 x.1))])
      (fun x => [.box 28 [.pv (.int .i64 k), .pv (.int .i64 n), .pv (.lst 3 (V.pvL ts))], .box 28 [.pv (.int .i64 0), .pv (.int .i64 0), .pv .nils], .box 28 [.pv (.int .i64 k), .pv (.int .i64 n), lsV 3 x.2], lsB 28 3 x.2])
      (fun x => ts.length - x.1) (0, []) ⟨by simp, by simp, rfl⟩ (weak_ren [0, 1, 2, 3] 4 (by kernel_rfl) (blk (by kernel_rfl) (blk (by kernel_rfl) (blk (by kernel_rfl) (blkD trivial)))) ⟨(by kernel_rfl), (by kernel_rfl), (by kernel_rfl), (by kernel_rfl), (by kernel_rfl), (by kernel_rfl), (by kernel_rfl), trivial⟩) ?_
    rintro ⟨i, ps⟩ ⟨hi, hs, hpl⟩
    simp only at hi hs hpl
    set_option smartUnfolding false in conv => whnf
    refine br_intro (fun h => ?_) (fun h => ?_) <;> set_option smartUnfolding false in conv => whnf
    · replace h : i < ts.length := by have := dT h; rw [V.pvL_len] at this; simpa using this
      obtain ⟨⟨k', n', ts'⟩, hv, hg, _, hd⟩ := V.get_pvL h
      have hih := ih _ hv (by have := V.cnt_mem hv; omega)
      rw [hd, V.subL_cons, V.pvL_cons] at hs
      cases hsub : V.sub us (.mk k' n' ts') with
      | mk k2 n2 ts2 =>
        rw [hsub, V.pv_mk] at hs hih
        rw [V.pv_mk] at hg hih
        refine ⟨V.ag k' n' ts', ⟨by simp, by simpa using hg⟩, ?_⟩
        set_option smartUnfolding false in conv => whnf
        refine acall_det (ps := [V.ag k' n' ts', .lst 3 (V.pvL us)]) hih ?_
        set_option smartUnfolding false in conv => whnf
        refine ⟨Nat.le_refl 1, ?_⟩
        set_option smartUnfolding false in conv => whnf
        cases ps with
        | nil =>
          set_option smartUnfolding false in conv => whnf
          refine ⟨⟨⟨by decide, by decide⟩, by decide⟩, ?_⟩
          set_option smartUnfolding false in conv => whnf
          exact ⟨(i + 1, [] ++ [V.ag k2 n2 ts2]), ⟨h, hs, by simp at hpl ⊢; omega⟩, weak_ren [0, 1, 2, 6] 7 (by kernel_rfl) (blk (by kernel_rfl) (blk (by kernel_rfl) (blk (by kernel_rfl) (blk (by kernel_rfl) trivial)))) ⟨(by kernel_rfl), (by kernel_rfl), (by kernel_rfl), (by kernel_rfl), (by kernel_rfl), (by kernel_rfl), sUp h hl, trivial⟩, subUp h⟩
        | cons p ps =>
          set_option smartUnfolding false in conv => whnf
          simp only [List.length_cons] at hpl
          refine ⟨⟨⟨by simp [pvs_len], by simp only [Nat.succ_eq_add_one]; omega⟩, by rw [show ((S.E 0).te 28).bytes = 40 from rfl]; simp only [Nat.succ_eq_add_one]; omega⟩, ?_⟩
          set_option smartUnfolding false in conv => whnf
          exact ⟨(i + 1, (p :: ps) ++ [V.ag k2 n2 ts2]), ⟨h, by rw [← hs]; simp, by simp; omega⟩, weak_ren [0, 1, 2, 6] 7 (by kernel_rfl) (blk (by kernel_rfl) (blk (by kernel_rfl) (blk (by simp only [lsV_snoc]; kernel_rfl) (blkR_snoc (by kernel_rfl) trivial)))) ⟨(by kernel_rfl), (by kernel_rfl), (by kernel_rfl), (by kernel_rfl), (by kernel_rfl), (by kernel_rfl), sUp h hl, trivial⟩, subUp h⟩
    · replace h : ¬ i < ts.length := by have := dF h; rw [V.pvL_len] at this; simpa using this
      rw [List.drop_of_length_le (by omega), V.subL_nil, V.pvL_nil, List.append_nil] at hs
      cases ps with
      | nil =>
        set_option smartUnfolding false in conv => whnf
        exact .le (.agg (.cons (.refl _) (.cons (.refl _) (.cons (ple_nils hs) .nil))))
      | cons p ps =>
        set_option smartUnfolding false in conv => whnf
        exact .mix (.cons (.pv _) (.cons (.pv _) (.cons (rd_lsE (k := 3) hs rfl trivial rfl) .nil)))
  refine br_intro (fun h2 => ?_) (fun h2 => ?_) <;> set_option smartUnfolding false in conv => whnf
  rotate_left
  · have hno : ¬ (k = 4 ∧ 0 ≤ n ∧ n < us.length) := fun h => dF h2 h.2.1
    rw [V.sub_else ts hno, V.pv_mk]
    refine vloop_intro (σ := Nat × List PV) (fun x => x.1 ≤ ts.length ∧ x.2 ++ V.pvL (V.subL us (ts.drop x.1)) = V.pvL (V.subL us ts) ∧ x.2.length = x.1) (fun x => [(1, .pv (.lst 3 (V.pvL us))), (2, .bp 0 0), (4, .bp 1 0), (5, .bp 2 0), (35, .pv (.lst 3 (V.pvL ts))), (36, .pv (.int .i64 (V.pvL ts).length)), (37, .pv (.int .i64 x.1))])
      (fun x => [.box 28 [.pv (.int .i64 k), .pv (.int .i64 n), .pv (.lst 3 (V.pvL ts))], .box 28 [.pv (.int .i64 0), .pv (.int .i64 0), .pv .nils], .box 28 [.pv (.int .i64 k), .pv (.int .i64 n), lsV 3 x.2], lsB 28 3 x.2])
      (fun x => ts.length - x.1) (0, []) ⟨by simp, by simp, rfl⟩ (weak_ren [0, 1, 2, 3] 4 (by kernel_rfl) (blk (by kernel_rfl) (blk (by kernel_rfl) (blk (by kernel_rfl) (blkD trivial)))) ⟨(by kernel_rfl), (by kernel_rfl), (by kernel_rfl), (by kernel_rfl), (by kernel_rfl), (by kernel_rfl), (by kernel_rfl), trivial⟩) ?_
    rintro ⟨i, ps⟩ ⟨hi, hs, hpl⟩
    simp only at hi hs hpl
    set_option smartUnfolding false in conv => whnf
    refine br_intro (fun h => ?_) (fun h => ?_) <;> set_option smartUnfolding false in conv => whnf
    · replace h : i < ts.length := by have := dT h; rw [V.pvL_len] at this; simpa using this
      obtain ⟨⟨k', n', ts'⟩, hv, hg, _, hd⟩ := V.get_pvL h
      have hih := ih _ hv (by have := V.cnt_mem hv; omega)
      rw [hd, V.subL_cons, V.pvL_cons] at hs
      cases hsub : V.sub us (.mk k' n' ts') with
      | mk k2 n2 ts2 =>
        rw [hsub, V.pv_mk] at hs hih
        rw [V.pv_mk] at hg hih
        refine ⟨V.ag k' n' ts', ⟨by simp, by simpa using hg⟩, ?_⟩
        set_option smartUnfolding false in conv => whnf
        refine acall_det (ps := [V.ag k' n' ts', .lst 3 (V.pvL us)]) hih ?_
        set_option smartUnfolding false in conv => whnf
        refine ⟨Nat.le_refl 1, ?_⟩
        set_option smartUnfolding false in conv => whnf
        cases ps with
        | nil =>
          set_option smartUnfolding false in conv => whnf
          refine ⟨⟨⟨by decide, by decide⟩, by decide⟩, ?_⟩
          set_option smartUnfolding false in conv => whnf
          exact ⟨(i + 1, [] ++ [V.ag k2 n2 ts2]), ⟨h, hs, by simp at hpl ⊢; omega⟩, weak_ren [0, 1, 2, 6] 7 (by kernel_rfl) (blk (by kernel_rfl) (blk (by kernel_rfl) (blk (by kernel_rfl) (blk (by kernel_rfl) trivial)))) ⟨(by kernel_rfl), (by kernel_rfl), (by kernel_rfl), (by kernel_rfl), (by kernel_rfl), (by kernel_rfl), sUp h hl, trivial⟩, subUp h⟩
        | cons p ps =>
          set_option smartUnfolding false in conv => whnf
          simp only [List.length_cons] at hpl
          refine ⟨⟨⟨by simp [pvs_len], by simp only [Nat.succ_eq_add_one]; omega⟩, by rw [show ((S.E 0).te 28).bytes = 40 from rfl]; simp only [Nat.succ_eq_add_one]; omega⟩, ?_⟩
          set_option smartUnfolding false in conv => whnf
          exact ⟨(i + 1, (p :: ps) ++ [V.ag k2 n2 ts2]), ⟨h, by rw [← hs]; simp, by simp; omega⟩, weak_ren [0, 1, 2, 6] 7 (by kernel_rfl) (blk (by kernel_rfl) (blk (by kernel_rfl) (blk (by simp only [lsV_snoc]; kernel_rfl) (blkR_snoc (by kernel_rfl) trivial)))) ⟨(by kernel_rfl), (by kernel_rfl), (by kernel_rfl), (by kernel_rfl), (by kernel_rfl), (by kernel_rfl), sUp h hl, trivial⟩, subUp h⟩
    · replace h : ¬ i < ts.length := by have := dF h; rw [V.pvL_len] at this; simpa using this
      rw [List.drop_of_length_le (by omega), V.subL_nil, V.pvL_nil, List.append_nil] at hs
      cases ps with
      | nil =>
        set_option smartUnfolding false in conv => whnf
        exact .le (.agg (.cons (.refl _) (.cons (.refl _) (.cons (ple_nils hs) .nil))))
      | cons p ps =>
        set_option smartUnfolding false in conv => whnf
        exact .mix (.cons (.pv _) (.cons (.pv _) (.cons (rd_lsE (k := 3) hs rfl trivial rfl) .nil)))
  refine br_intro (fun h3 => ?_) (fun h3 => ?_) <;> set_option smartUnfolding false in conv => whnf
  rotate_left
  · have hno : ¬ (k = 4 ∧ 0 ≤ n ∧ n < us.length) := fun h => by have h3 := dF h3; rw [V.pvL_len] at h3; omega
    rw [V.sub_else ts hno, V.pv_mk]
    refine vloop_intro (σ := Nat × List PV) (fun x => x.1 ≤ ts.length ∧ x.2 ++ V.pvL (V.subL us (ts.drop x.1)) = V.pvL (V.subL us ts) ∧ x.2.length = x.1) (fun x => [(1, .pv (.lst 3 (V.pvL us))), (2, .bp 0 0), (4, .bp 1 0), (5, .bp 2 0), (35, .pv (.lst 3 (V.pvL ts))), (36, .pv (.int .i64 (V.pvL ts).length)), (37, .pv (.int .i64 x.1))])
      (fun x => [.box 28 [.pv (.int .i64 k), .pv (.int .i64 n), .pv (.lst 3 (V.pvL ts))], .box 28 [.pv (.int .i64 0), .pv (.int .i64 0), .pv .nils], .box 28 [.pv (.int .i64 k), .pv (.int .i64 n), lsV 3 x.2], lsB 28 3 x.2])
      (fun x => ts.length - x.1) (0, []) ⟨by simp, by simp, rfl⟩ (weak_ren [0, 1, 2, 3] 4 (by kernel_rfl) (blk (by kernel_rfl) (blk (by kernel_rfl) (blk (by kernel_rfl) (blkD trivial)))) ⟨(by kernel_rfl), (by kernel_rfl), (by kernel_rfl), (by kernel_rfl), (by kernel_rfl), (by kernel_rfl), (by kernel_rfl), trivial⟩) ?_
    rintro ⟨i, ps⟩ ⟨hi, hs, hpl⟩
    simp only at hi hs hpl
    set_option smartUnfolding false in conv => whnf
    refine br_intro (fun h => ?_) (fun h => ?_) <;> set_option smartUnfolding false in conv => whnf
    · replace h : i < ts.length := by have := dT h; rw [V.pvL_len] at this; simpa using this
      obtain ⟨⟨k', n', ts'⟩, hv, hg, _, hd⟩ := V.get_pvL h
      have hih := ih _ hv (by have := V.cnt_mem hv; omega)
      rw [hd, V.subL_cons, V.pvL_cons] at hs
      cases hsub : V.sub us (.mk k' n' ts') with
      | mk k2 n2 ts2 =>
        rw [hsub, V.pv_mk] at hs hih
        rw [V.pv_mk] at hg hih
        refine ⟨V.ag k' n' ts', ⟨by simp, by simpa using hg⟩, ?_⟩
        set_option smartUnfolding false in conv => whnf
        refine acall_det (ps := [V.ag k' n' ts', .lst 3 (V.pvL us)]) hih ?_
        set_option smartUnfolding false in conv => whnf
        refine ⟨Nat.le_refl 1, ?_⟩
        set_option smartUnfolding false in conv => whnf
        cases ps with
        | nil =>
          set_option smartUnfolding false in conv => whnf
          refine ⟨⟨⟨by decide, by decide⟩, by decide⟩, ?_⟩
          set_option smartUnfolding false in conv => whnf
          exact ⟨(i + 1, [] ++ [V.ag k2 n2 ts2]), ⟨h, hs, by simp at hpl ⊢; omega⟩, weak_ren [0, 1, 2, 6] 7 (by kernel_rfl) (blk (by kernel_rfl) (blk (by kernel_rfl) (blk (by kernel_rfl) (blk (by kernel_rfl) trivial)))) ⟨(by kernel_rfl), (by kernel_rfl), (by kernel_rfl), (by kernel_rfl), (by kernel_rfl), (by kernel_rfl), sUp h hl, trivial⟩, subUp h⟩
        | cons p ps =>
          set_option smartUnfolding false in conv => whnf
          simp only [List.length_cons] at hpl
          refine ⟨⟨⟨by simp [pvs_len], by simp only [Nat.succ_eq_add_one]; omega⟩, by rw [show ((S.E 0).te 28).bytes = 40 from rfl]; simp only [Nat.succ_eq_add_one]; omega⟩, ?_⟩
          set_option smartUnfolding false in conv => whnf
          exact ⟨(i + 1, (p :: ps) ++ [V.ag k2 n2 ts2]), ⟨h, by rw [← hs]; simp, by simp; omega⟩, weak_ren [0, 1, 2, 6] 7 (by kernel_rfl) (blk (by kernel_rfl) (blk (by kernel_rfl) (blk (by simp only [lsV_snoc]; kernel_rfl) (blkR_snoc (by kernel_rfl) trivial)))) ⟨(by kernel_rfl), (by kernel_rfl), (by kernel_rfl), (by kernel_rfl), (by kernel_rfl), (by kernel_rfl), sUp h hl, trivial⟩, subUp h⟩
    · replace h : ¬ i < ts.length := by have := dF h; rw [V.pvL_len] at this; simpa using this
      rw [List.drop_of_length_le (by omega), V.subL_nil, V.pvL_nil, List.append_nil] at hs
      cases ps with
      | nil =>
        set_option smartUnfolding false in conv => whnf
        exact .le (.agg (.cons (.refl _) (.cons (.refl _) (.cons (ple_nils hs) .nil))))
      | cons p ps =>
        set_option smartUnfolding false in conv => whnf
        exact .mix (.cons (.pv _) (.cons (.pv _) (.cons (rd_lsE (k := 3) hs rfl trivial rfl) .nil)))
  have h1 := dT h1
  have h2 := dT h2
  have h3 := dT h3
  rw [V.pvL_len] at h3
  obtain ⟨⟨k', n', ts'⟩, hv, hg, hg2, _⟩ := V.get_pvL (l := us) (i := n.toNat) (by omega)
  have e : V.sub us (.mk k n ts) = .mk k' n' ts' := by rw [V.sub_mk, if_pos ⟨h1, h2, h3⟩, hg2]; rfl
  have hcl := hclone _ hv
  rw [V.pv_mk] at hg hcl
  rw [e, V.pv_mk]
  refine ⟨V.ag k' n' ts', ⟨h2, hg⟩, ?_⟩
  set_option smartUnfolding false in conv => whnf
  refine acall_det (ps := [V.ag k' n' ts']) hcl ?_
  set_option smartUnfolding false in conv => whnf
  exact .pv _

theorem tclone_det (t : V) (hc : t.cnt ≤ 1000000) : Det Tryz.prog 72 [t.pv] t.pv := by
  have h := tsubst_of [] (fun u hu => by simp at hu) t hc
  rw [V.sub_none, V.pvL_nil] at h
  have h : Det Tryz.prog 52 [t.pv, .nils] t.pv := h.le (.cons (.refl _) (.cons (.nils 3) .nil))
  obtain ⟨k, n, ts⟩ := t
  rw [V.pv_mk] at h ⊢
  refine det_of_vcc (E := S.E 0) rfl fol Tryz.func72 rfl rfl (cell := (2, 28)) rfl rfl fun hw => ?_
  set_option smartUnfolding false in conv => whnf
  refine acall_det (ps := [V.ag k n ts, .nils]) h ?_
  set_option smartUnfolding false in conv => whnf
  exact .pv _
theorem tsubst_det (us : List V) (hu : ∀ u ∈ us, u.cnt ≤ 1000000) (t : V) (hc : t.cnt ≤ 1000000) : Det Tryz.prog 52 [t.pv, .lst 3 (V.pvL us)] (V.sub us t).pv :=
  tsubst_of us (fun u h => tclone_det u (hu u h)) t hc
end Go.AM
