import Derived.Test.YtfkkfgeepiopaaaGreatDatP
set_option linter.all false
set_option maxRecDepth 20000
set_option maxHeartbeats 20000000
namespace Go.AM
open Go.Proofs

theorem strsP_cons (a : ByteArray) (l : List ByteArray) : strsP (a :: l) = .str a :: strsP l := by unfold strsP; rfl
theorem strsP_nil : strsP [] = [] := by unfold strsP; rfl
theorem strsP_app (l k : List ByteArray) : strsP (l ++ k) = strsP l ++ strsP k := by unfold strsP; simp
theorem Dt.pvL_take (D : List Dt) (n : Nat) : (Dt.pvL D).take n = Dt.pvL (D.take n) := by unfold Dt.pvL; simp
theorem take_snoc {α : Type} {l : List α} {i : Nat} {a : α} (h : l[i]? = some a) : l.take (i + 1) = l.take i ++ [a] := by rw [List.take_add_one, h]; rfl


theorem validData_r {D : List Dt} (hD : DOK D) (hN : DN D) : Det Tryz.prog 22 [.lst 3 (Dt.pvL D)] (.bool (dvalid D)) := by
  generalize hR : dvalid D = R
  unfold dvalid at hR
  have hDl := hD.len
  refine det_of_vc' (E := S.E 0) rfl fol Tryz.func22 rfl rfl (slots := [2]) rfl rfl fun hw => ?_
  set_option smartUnfolding false in conv => whnf
  refine br_intro (fun h0 => ?_) (fun h0 => ?_) <;> set_option smartUnfolding false in conv => whnf
  · have h0 := dT h0
    rw [Dt.pvL_len] at h0
    exact rdB (by rw [← hR, decide_eq_false (by omega)]; rfl)
  have h0 := dF h0
  rw [Dt.pvL_len] at h0
  rw [decide_eq_true (by omega), Bool.true_and] at hR
  refine vloop_intro (σ := Nat × List PV × List PV) (fun x => x.1 ≤ D.length ∧ (decsR D x.1 (D.drop x.1) && (ndup (namesOf D) && ndup (cnamesOf D))) = R ∧ x.2.1 = strsP (namesOf (D.take x.1)) ∧ x.2.2 = strsP (cnamesOf (D.take x.1)) ∧ x.2.1.length ≤ 1000000 ∧ x.2.2.length ≤ 1000 * x.1) (fun x => [(0, .pv (.lst 3 (Dt.pvL D))), (3, lsV 0 x.2.1), (4, lsV 1 x.2.2), (5, .pv (.int .i64 x.1))])
    (fun x => [lsB 9 1 x.2.1, lsB 9 1 x.2.2]) (fun x => D.length - x.1) (0, [], []) ⟨by simp, hR, by simp [namesOf, strsP_nil], by simp [cnamesOf, strsP_nil], by simp, by simp⟩ (weak_ren [0, 1] 2 (by kernel_rfl) (blkD (blkD trivial)) ⟨(by kernel_rfl), (by kernel_rfl), (by kernel_rfl), (by kernel_rfl), trivial⟩) ?_
  rintro ⟨i, As, Bs⟩ ⟨hi, hs, hA, hB, hAl, hBl⟩
  simp only at hi hs hA hB hAl hBl
  set_option smartUnfolding false in conv => whnf
  refine br_intro (fun h => ?_) (fun h => ?_) <;> set_option smartUnfolding false in conv => whnf
  rotate_left
  · replace h : D.length ≤ i := by have := dF h; rw [Dt.pvL_len] at this; simp only at this; omega
    rw [List.drop_of_length_le h, decsR_nil, Bool.true_and] at hs
    rw [List.take_of_length_le h] at hA hB
    refine acall_intro (adet_read (S := [0]) (repeats_det (namesOf D)) (.cons (rd_lsE (k := 0) (t := 9) hA rfl (.head _) rfl) .nil) rfl) ?_
    set_option smartUnfolding false in conv => whnf
    refine br_intro (fun g => ?_) (fun g => ?_) <;> set_option smartUnfolding false in conv => whnf
    · have g : ndup (namesOf D) = true := by simpa using g
      rw [g, Bool.true_and] at hs
      refine acall_intro (adet_read (S := [1]) (repeats_det (cnamesOf D)) (.cons (rd_lsE (k := 1) (t := 9) hB rfl (.head _) rfl) .nil) rfl) ?_
      set_option smartUnfolding false in conv => whnf
      exact rdB (by rw [← hs]; simp)
    · have g : ndup (namesOf D) = false := by simpa using g
      exact rdB (by rw [← hs, g]; rfl)
  replace h : i < D.length := by have := dT h; rw [Dt.pvL_len] at this; simp only at this; omega
  refine Dt.get_elim h fun nm vs cs hmem hg hg2 hd => ?_
  rw [hd, decsR_cons] at hs
  simp only at hs
  have hNn := hN.name _ hmem
  have hNc := hN.cname _ hmem
  have hDa := hD.arg _ hmem
  have hDl2 := hD.args _ hmem
  simp only at hNn hNc hDa hDl2
  refine ⟨Dt.ag nm vs cs, ⟨(by first | omega | (simp only; omega)), by simpa using hg⟩, ?_⟩
  set_option smartUnfolding false in conv => whnf
  refine br_intro (fun g => ?_) (fun g => ?_) <;> set_option smartUnfolding false in conv => whnf
  · have g := dT g
    exact rdB (by rw [← hs, decide_eq_false (p := 0 ≤ vs) (by omega)]; simp)
  have g1 : 0 ≤ vs := by have := dF g; omega
  refine br_intro (fun g => ?_) (fun g => ?_) <;> set_option smartUnfolding false in conv => whnf
  · have g := dT g
    exact rdB (by rw [← hs, decide_eq_false (p := vs ≤ 6) (by omega)]; simp)
  have g2 : vs ≤ 6 := by have := dF g; omega
  refine br_intro (fun g => ?_) (fun g => ?_) <;> set_option smartUnfolding false in conv => whnf
  · have g := dT g
    rw [Cn.pvL_len] at g
    exact rdB (by rw [← hs, decide_eq_false (p := 1 ≤ cs.length) (by omega)]; simp)
  have g3 : 1 ≤ cs.length := by have := dF g; rw [Cn.pvL_len] at this; omega
  refine br_intro (fun g => ?_) (fun g => ?_) <;> set_option smartUnfolding false in conv => whnf
  · have g := dT g
    rw [Cn.pvL_len] at g
    exact rdB (by rw [← hs, decide_eq_false (p := cs.length ≤ 8) (by omega)]; simp)
  have g4 : cs.length ≤ 8 := by have := dF g; rw [Cn.pvL_len] at this; omega
  refine acall_det (ps := [.str nm]) (upper_r nm hNn) ?_
  set_option smartUnfolding false in conv => whnf
  refine br_intro (fun g => ?_) (fun g => ?_) <;> set_option smartUnfolding false in conv => whnf
  · have g : upName nm = false := by simpa using g
    exact rdB (by rw [← hs, g]; simp)
  have g5 : upName nm = true := by simpa using g
  rw [decide_eq_true g1, decide_eq_true g2, decide_eq_true g3, decide_eq_true g4, g5] at hs
  simp only [Bool.true_and] at hs
  have hA' : As ++ [PV.str nm] = strsP (namesOf (D.take (i + 1))) := by
    rw [take_snoc hg2]
    unfold namesOf
    rw [List.map_append, strsP_app, ← namesOf, hA]; simp [strsP_cons, strsP_nil]
  have hB' : strsP (cnamesOf (D.take (i + 1))) = Bs ++ strsP (cs.map (·.name)) := by
    rw [take_snoc hg2]
    unfold cnamesOf
    rw [List.flatMap_append, strsP_app, ← cnamesOf, hB]; simp
  have hAi : As.length = i := by rw [hA, strsP_len]; simp [namesOf]; omega
  clear hA hB
  refine ⟨Nat.le_refl 1, ?_⟩
  set_option smartUnfolding false in conv => whnf
  apply vloop_cut (α := List PV) (fun A => A = As ++ [PV.str nm]) (fun A => [(0, .pv (.lst 3 (Dt.pvL D))), (3, lsV 0 A), (4, lsV 1 Bs), (5, .pv (.int .i64 i)), (6, .bp 2 0), (7, .pv (.int .i64 0))]) (fun A => [lsB 9 1 A, lsB 9 1 Bs, .box 36 [.pv (.str nm), .pv (.int .i64 vs), .pv (.lst 2 (Cn.pvL cs))]])
  · intro mid
    cases As with
    | nil =>
      set_option smartUnfolding false in conv => whnf
      refine ⟨⟨⟨by decide, by decide⟩, by decide⟩, ?_⟩
      set_option smartUnfolding false in conv => whnf
      exact vloop_shift (mid _ rfl) (weak_ren [4, 1, 2] 5 (by kernel_rfl) (blk (by kernel_rfl) (blkR_ls (by kernel_rfl) (blk (by kernel_rfl) trivial))) ⟨(by kernel_rfl), (by kernel_rfl), sLs (by kernel_rfl), (by kernel_rfl), (by kernel_rfl), (by kernel_rfl), trivial⟩)
    | cons p As =>
      set_option smartUnfolding false in conv => whnf
      simp only [List.length_cons] at hAl
      refine ⟨⟨⟨by simp [pvs_len], by simp only [Nat.succ_eq_add_one]; omega⟩, by rw [show ((S.E 0).te 9).bytes = 16 from rfl]; simp only [Nat.succ_eq_add_one]; omega⟩, ?_⟩
      set_option smartUnfolding false in conv => whnf
      exact vloop_shift (mid _ rfl) (weak_ren [4, 1, 2] 5 (by kernel_rfl) (blkR_snoc (by kernel_rfl) (blkR_ls (by kernel_rfl) (blk (by kernel_rfl) trivial))) ⟨(by kernel_rfl), by simp only [lsV_snoc]; kernel_rfl, sLs (by kernel_rfl), (by kernel_rfl), (by kernel_rfl), (by kernel_rfl), trivial⟩)
  rintro A hAe
  rw [← hAe] at hA'
  refine vloop_intro (σ := Nat × List PV) (fun x => x.1 ≤ cs.length ∧ (consR D i vs (cs.drop x.1) && decsR D (i + 1) (D.drop (i + 1)) && (ndup (namesOf D) && ndup (cnamesOf D))) = R ∧ x.2 = Bs ++ strsP ((cs.take x.1).map (·.name)) ∧ x.2.length ≤ 1000 * i + x.1) (fun x => [(0, .pv (.lst 3 (Dt.pvL D))), (3, lsV 0 A), (4, lsV 1 x.2), (5, .pv (.int .i64 i)), (6, .bp 2 0), (7, .pv (.int .i64 x.1))])
    (fun x => [lsB 9 1 A, lsB 9 1 x.2, .box 36 [.pv (.str nm), .pv (.int .i64 vs), .pv (.lst 2 (Cn.pvL cs))]]) (fun x => cs.length - x.1) (0, Bs) ⟨by simp, by simpa using hs, by simp [strsP_nil], by simp only; omega⟩ (weak_ren [0, 1, 2] 3 (by kernel_rfl) (blkR_ls (by kernel_rfl) (blkR_ls (by kernel_rfl) (blk (by kernel_rfl) trivial))) ⟨(by kernel_rfl), sLs (by kernel_rfl), sLs (by kernel_rfl), (by kernel_rfl), (by kernel_rfl), (by kernel_rfl), trivial⟩) ?_
  rintro ⟨j, B2⟩ ⟨hj, hs2, hB2, hBl2⟩
  simp only at hj hs2 hB2 hBl2
  set_option smartUnfolding false in conv => whnf
  refine br_intro (fun h' => ?_) (fun h' => ?_) <;> set_option smartUnfolding false in conv => whnf
  rotate_left
  · replace h' : cs.length ≤ j := by have := dF h'; rw [Cn.pvL_len] at this; simp only at this; omega
    rw [List.drop_of_length_le h', consR_nil, Bool.true_and] at hs2
    rw [List.take_of_length_le h', ← hB'] at hB2
    have hAl2 : A.length ≤ 1000000 := by rw [hAe]; simp; omega
    exact ⟨(i + 1, A, B2), ⟨by simp only; omega, hs2, hA', hB2, hAl2, by simp only; omega⟩, weak_ren [0, 1] 3 (by kernel_rfl) (blkR_ls (by kernel_rfl) (blkR_ls (by kernel_rfl) trivial)) ⟨(by kernel_rfl), sLs (by kernel_rfl), sLs (by kernel_rfl), sUp h (by omega), trivial⟩, by show D.length - (i + 1) < D.length - i; omega⟩
  replace h' : j < cs.length := by have := dT h'; rw [Cn.pvL_len] at this; simp only at this; omega
  refine Cn.get_elim h' fun cn cas hcm hcg hcg2 hcd => ?_
  rw [hcd, consR_cons] at hs2
  simp only at hs2
  have hcn := hNc _ hcm
  have hca := hDa _ hcm
  have hcl := hDl2 _ hcm
  simp only at hcn hca hcl
  refine ⟨Cn.ag cn cas, ⟨(by first | omega | (simp only; omega)), by simpa using hcg⟩, ?_⟩
  set_option smartUnfolding false in conv => whnf
  refine acall_det (ps := [.str cn]) (upper_r cn hcn) ?_
  set_option smartUnfolding false in conv => whnf
  refine br_intro (fun g => ?_) (fun g => ?_) <;> set_option smartUnfolding false in conv => whnf
  · have g : upName cn = false := by simpa using g
    exact rdB (by rw [← hs2, g]; simp)
  have g6 : upName cn = true := by simpa using g
  refine ⟨Cn.ag cn cas, ⟨(by first | omega | (simp only; omega)), by simpa using hcg⟩, ?_⟩
  set_option smartUnfolding false in conv => whnf
  refine br_intro (fun g => ?_) (fun g => ?_) <;> set_option smartUnfolding false in conv => whnf
  · have g := dT g
    rw [V.pvL_len] at g
    exact rdB (by rw [← hs2, decide_eq_false (p := cas.length ≤ 6) (by omega)]; simp)
  have g7 : cas.length ≤ 6 := by have := dF g; rw [V.pvL_len] at this; omega
  rw [g6, decide_eq_true g7] at hs2
  simp only [Bool.true_and] at hs2
  have hB3 : B2 ++ [PV.str cn] = Bs ++ strsP ((cs.take (j + 1)).map (·.name)) := by
    rw [take_snoc hcg2, List.map_append, strsP_app, hB2]; simp [strsP_cons, strsP_nil]
  refine ⟨Cn.ag cn cas, ⟨(by first | omega | (simp only; omega)), by simpa using hcg⟩, ?_⟩
  set_option smartUnfolding false in conv => whnf
  refine ⟨Nat.le_refl 1, ?_⟩
  set_option smartUnfolding false in conv => whnf
  apply vloop_cut (α := List PV) (fun B => B = B2 ++ [PV.str cn]) (fun B => [(0, .pv (.lst 3 (Dt.pvL D))), (3, lsV 0 A), (4, lsV 1 B), (5, .pv (.int .i64 i)), (6, .bp 2 0), (7, .pv (.int .i64 j)), (93, .pv (.lst 3 (V.pvL cas))), (94, .pv (.int .i64 (V.pvL cas).length)), (95, .pv (.int .i64 0))]) (fun B => [lsB 9 1 A, lsB 9 1 B, .box 36 [.pv (.str nm), .pv (.int .i64 vs), .pv (.lst 2 (Cn.pvL cs))]])
  · intro inn
    cases B2 with
    | nil =>
      set_option smartUnfolding false in conv => whnf
      refine ⟨⟨⟨by decide, by decide⟩, by decide⟩, ?_⟩
      set_option smartUnfolding false in conv => whnf
      refine ⟨Cn.ag cn cas, ⟨(by first | omega | (simp only; omega)), by simpa using hcg⟩, ?_⟩
      set_option smartUnfolding false in conv => whnf
      exact vloop_shift (inn _ rfl) (weak_ren [0, 4, 2] 5 (by kernel_rfl) (blkR_ls (by kernel_rfl) (blk (by kernel_rfl) (blk (by kernel_rfl) trivial))) ⟨(by kernel_rfl), sLs (by kernel_rfl), (by kernel_rfl), (by kernel_rfl), (by kernel_rfl), (by kernel_rfl), (by kernel_rfl), (by kernel_rfl), (by kernel_rfl), trivial⟩)
    | cons p B2 =>
      set_option smartUnfolding false in conv => whnf
      simp only [List.length_cons] at hBl2
      refine ⟨⟨⟨by simp [pvs_len], by simp only [Nat.succ_eq_add_one]; omega⟩, by rw [show ((S.E 0).te 9).bytes = 16 from rfl]; simp only [Nat.succ_eq_add_one]; omega⟩, ?_⟩
      set_option smartUnfolding false in conv => whnf
      refine ⟨Cn.ag cn cas, ⟨(by first | omega | (simp only; omega)), by simpa using hcg⟩, ?_⟩
      set_option smartUnfolding false in conv => whnf
      exact vloop_shift (inn _ rfl) (weak_ren [0, 4, 2] 5 (by kernel_rfl) (blkR_ls (by kernel_rfl) (blkR_snoc (by kernel_rfl) (blk (by kernel_rfl) trivial))) ⟨(by kernel_rfl), sLs (by kernel_rfl), by simp only [lsV_snoc]; kernel_rfl, (by kernel_rfl), (by kernel_rfl), (by kernel_rfl), (by kernel_rfl), (by kernel_rfl), (by kernel_rfl), trivial⟩)
  rintro B hBe
  rw [← hBe] at hB3
  refine vloop_intro (σ := Nat) (fun l => l ≤ cas.length ∧ (argsR D i vs (cas.drop l) && consR D i vs (cs.drop (j + 1)) && decsR D (i + 1) (D.drop (i + 1)) && (ndup (namesOf D) && ndup (cnamesOf D))) = R) (fun l => [(0, .pv (.lst 3 (Dt.pvL D))), (3, lsV 0 A), (4, lsV 1 B), (5, .pv (.int .i64 i)), (6, .bp 2 0), (7, .pv (.int .i64 j)), (93, .pv (.lst 3 (V.pvL cas))), (94, .pv (.int .i64 (V.pvL cas).length)), (95, .pv (.int .i64 l))])
    (fun l => [lsB 9 1 A, lsB 9 1 B, .box 36 [.pv (.str nm), .pv (.int .i64 vs), .pv (.lst 2 (Cn.pvL cs))]]) (fun l => cas.length - l) 0 ⟨by simp, by simpa using hs2⟩ (weak_ren [0, 1, 2] 3 (by kernel_rfl) (blkR_ls (by kernel_rfl) (blkR_ls (by kernel_rfl) (blk (by kernel_rfl) trivial))) ⟨(by kernel_rfl), sLs (by kernel_rfl), sLs (by kernel_rfl), (by kernel_rfl), (by kernel_rfl), (by kernel_rfl), (by kernel_rfl), (by kernel_rfl), (by kernel_rfl), trivial⟩) ?_
  rintro l ⟨hl, hs3⟩
  set_option smartUnfolding false in conv => whnf
  refine br_intro (fun h2 => ?_) (fun h2 => ?_) <;> set_option smartUnfolding false in conv => whnf
  rotate_left
  · replace h2 : cas.length ≤ l := by have := dF h2; rw [V.pvL_len] at this; omega
    rw [List.drop_of_length_le h2, argsR_nil, Bool.true_and] at hs3
    exact ⟨(j + 1, B), ⟨by simp only; omega, hs3, hB3, by simp only [hBe]; simp; omega⟩, weak_ren [0, 1, 2] 3 (by kernel_rfl) (blkR_ls (by kernel_rfl) (blkR_ls (by kernel_rfl) (blk (by kernel_rfl) trivial))) ⟨(by kernel_rfl), sLs (by kernel_rfl), sLs (by kernel_rfl), (by kernel_rfl), (by kernel_rfl), sUp h' (by omega), trivial⟩, by show cs.length - (j + 1) < cs.length - j; omega⟩
  replace h2 : l < cas.length := by have := dT h2; rw [V.pvL_len] at this; omega
  refine V.get_elim h2 fun k' n' ts' hv hge _ hde => ?_
  rw [hde, argsR_cons] at hs3
  have hsf := isSelf_det (.mk k' n' ts') i vs
  have hok := rValid_det (D.take i) vs (.mk k' n' ts') (by have := hca _ hv; omega)
  rw [V.pv_mk] at hsf hok
  rw [← Dt.pvL_take] at hok
  have har : argR D i vs (.mk k' n' ts') = (isSelf i vs (.mk k' n' ts') || V.okW (D.take i) vs (.mk k' n' ts')) := by unfold argR; rfl
  refine ⟨V.ag k' n' ts', ⟨by simp, by simpa using hge⟩, ?_⟩
  set_option smartUnfolding false in conv => whnf
  refine acall_det (ps := [V.ag k' n' ts', .int .i64 i, .int .i64 vs]) hsf ?_
  set_option smartUnfolding false in conv => whnf
  refine br_intro (fun g => ?_) (fun g => ?_) <;> set_option smartUnfolding false in conv => whnf
  · rw [har, g] at hs3
    simp only [Bool.true_or, Bool.true_and] at hs3
    exact ⟨l + 1, ⟨by omega, hs3⟩, weak_ren [0, 1, 2] 4 (by kernel_rfl) (blkR_ls (by kernel_rfl) (blkR_ls (by kernel_rfl) (blk (by kernel_rfl) trivial))) ⟨(by kernel_rfl), sLs (by kernel_rfl), sLs (by kernel_rfl), (by kernel_rfl), (by kernel_rfl), (by kernel_rfl), (by kernel_rfl), (by kernel_rfl), sUp h2 (by omega), trivial⟩, by show cas.length - (l + 1) < cas.length - l; omega⟩
  refine ⟨⟨by omega, by rw [Dt.pvL_len]; omega⟩, ?_⟩
  set_option smartUnfolding false in conv => whnf
  refine acall_det (ps := [.lst 3 ((Dt.pvL D).take i), V.ag k' n' ts', .int .i64 vs]) hok ?_
  set_option smartUnfolding false in conv => whnf
  refine br_intro (fun g2' => ?_) (fun g2' => ?_) <;> set_option smartUnfolding false in conv => whnf
  · have g2' : V.okW (D.take i) vs (.mk k' n' ts') = false := by simpa using g2'
    exact rdB (by rw [← hs3, har, g, g2']; rfl)
  · have g2' : V.okW (D.take i) vs (.mk k' n' ts') = true := by simpa using g2'
    rw [har, g, g2'] at hs3
    simp only [Bool.false_or, Bool.true_and] at hs3
    exact ⟨l + 1, ⟨by omega, hs3⟩, weak_ren [0, 1, 2] 4 (by kernel_rfl) (blkR_ls (by kernel_rfl) (blkR_ls (by kernel_rfl) (blk (by kernel_rfl) trivial))) ⟨(by kernel_rfl), sLs (by kernel_rfl), sLs (by kernel_rfl), (by kernel_rfl), (by kernel_rfl), (by kernel_rfl), (by kernel_rfl), (by kernel_rfl), sUp h2 (by omega), trivial⟩, by show cas.length - (l + 1) < cas.length - l; omega⟩
end Go.AM
