import Derived.Test.YtfkkfgeepiopaaaGreatRecA
set_option linter.all false
set_option maxRecDepth 20000
set_option maxHeartbeats 2000000
namespace Go.AM
open Go.Proofs



theorem trec_det {D : List Dt} (hD : DOK D) (d c : Int) : Det Tryz.prog 16 [.lst 3 (Dt.pvL D), .int .i64 d, .int .i64 c] (.lst 1 (boolsP (recS D d c))) := by
  generalize hR : PV.lst 1 (boolsP (recS D d c)) = R
  refine det_of_vc' (E := S.E 0) rfl fol Tryz.func16 rfl rfl (slots := [6]) rfl rfl fun hw => ?_
  set_option smartUnfolding false in conv => whnf
  have no : conAt D d c = Option.none → .lst 1 [] = R := fun h => by rw [← hR, recS, h]; rfl
  refine br_intro (fun h2 => ?_) (fun h2 => ?_) <;> set_option smartUnfolding false in conv => whnf
  · have h2 := dT h2
    rw [← no (by rw [conAt, if_neg (by omega)])]; exact .le (.nils 1)
  have h2 := dF h2
  refine br_intro (fun h3 => ?_) (fun h3 => ?_) <;> set_option smartUnfolding false in conv => whnf
  · have h3 := dT h3
    rw [Dt.pvL_len] at h3
    rw [← no (by rw [conAt, List.getElem?_eq_none (by omega)]; split <;> rfl)]; exact .le (.nils 1)
  have h3 := dF h3
  rw [Dt.pvL_len] at h3
  obtain ⟨nm, vs, cs, hd, hg, hg2, _⟩ := Dt.get_pvL (l := D) (i := d.toNat) (by omega)
  refine br_intro (fun h5 => ?_) (fun h5 => ?_) <;> set_option smartUnfolding false in conv => whnf
  · have h5 := dT h5
    rw [← no (by rw [conAt, if_neg (by omega)])]; exact .le (.nils 1)
  have h5 := dF h5
  refine ⟨Dt.ag nm vs cs, ⟨by omega, hg⟩, ?_⟩
  set_option smartUnfolding false in conv => whnf
  refine br_intro (fun h6 => ?_) (fun h6 => ?_) <;> set_option smartUnfolding false in conv => whnf
  · have h6 := dT h6
    rw [Cn.pvL_len] at h6
    rw [← no (by simp only [conAt, hg2]; rw [List.getElem?_eq_none (by omega)]; simp)]; exact .le (.nils 1)
  have h6 := dF h6
  rw [Cn.pvL_len] at h6
  obtain ⟨cn, cas, hc, hcg, hcg2, _⟩ := Cn.get_pvL (l := cs) (i := c.toNat) (by omega)
  have hcl := hD.args _ hd _ hc
  simp only at hcl
  have ec : conAt D d c = some (vs, ⟨cn, cas⟩) := by simp only [conAt, hg2, hcg2]; rw [if_pos (by omega)]
  rw [recS, ec] at hR
  simp only at hR
  refine ⟨Dt.ag nm vs cs, ⟨by omega, hg⟩, ?_⟩
  set_option smartUnfolding false in conv => whnf
  refine ⟨Cn.ag cn cas, ⟨by omega, hcg⟩, ?_⟩
  set_option smartUnfolding false in conv => whnf
  have hl : cas.length ≤ 9223372036854775807 := by omega
  refine vloop_intro (σ := Nat × List PV) (fun x => x.1 ≤ cas.length ∧ .lst 1 (x.2 ++ boolsP ((cas.drop x.1).map (isSelf d vs))) = R ∧ x.2.length = x.1) (fun x => [(0, .pv (.lst 3 (Dt.pvL D))), (1, .pv (.int .i64 d)), (7, lsV 0 x.2), (43, .pv (.lst 3 (V.pvL cas))), (44, .pv (.int .i64 (V.pvL cas).length)), (45, .pv (.int .i64 x.1))])
    (fun x => [lsB 4 1 x.2])
    (fun x => cas.length - x.1) (0, []) ⟨by simp, by simpa using hR, rfl⟩ (weak_ren [0] 1 (by kernel_rfl) (blkD trivial) ⟨(by kernel_rfl), (by kernel_rfl), (by kernel_rfl), (by kernel_rfl), (by kernel_rfl), (by kernel_rfl), trivial⟩) ?_
  rintro ⟨i, ps⟩ ⟨hi, hs, hpl⟩
  simp only at hi hs hpl
  set_option smartUnfolding false in conv => whnf
  refine br_intro (fun h => ?_) (fun h => ?_) <;> set_option smartUnfolding false in conv => whnf
  · replace h : i < cas.length := by have := dT h; rw [V.pvL_len] at this; simpa using this
    refine V.get_elim h fun k' n' ts' hv hge _ hde => ?_
    rw [hde, List.map_cons, boolsP_cons] at hs
    refine ⟨V.ag k' n' ts', ⟨by simp, by simpa using hge⟩, ?_⟩
    set_option smartUnfolding false in conv => whnf
    have hl' : ts'.length ≤ 9223372036854775807 := by
      have h1 := hD.arg _ hd _ hc _ hv
      have h2 := V.len_cntL ts'
      rw [V.cnt_mk] at h1
      omega
    have hsm := isSelf_mk d vs k' n' ts'
    refine br_intro (fun g1 => ?_) (fun g1 => ?_) <;> set_option smartUnfolding false in conv => whnf
    · refine br_intro (fun g2 => ?_) (fun g2 => ?_) <;> set_option smartUnfolding false in conv => whnf
      · refine ⟨Dt.ag nm vs cs, ⟨by omega, hg⟩, ?_⟩
        set_option smartUnfolding false in conv => whnf
        refine vloop_intro (σ := Nat × Bool) (fun x => x.1 ≤ ts'.length ∧ (x.2 && selfArgs (ts'.drop x.1) x.1) = isSelf d vs (.mk k' n' ts')) (fun x => [(0, .pv (.lst 3 (Dt.pvL D))), (1, .pv (.int .i64 d)), (7, lsV 0 ps), (43, .pv (.lst 3 (V.pvL cas))), (44, .pv (.int .i64 (V.pvL cas).length)), (45, .pv (.int .i64 i)), (10, .pv (.bool x.2)), (70, .pv (.lst 3 (V.pvL ts'))), (71, .pv (.int .i64 (V.pvL ts').length)), (72, .pv (.int .i64 x.1))])
          (fun x => [lsB 4 1 ps]) (fun x => ts'.length - x.1) (0, decide (((V.pvL ts').length : Int) = vs)) ⟨by simp, (by rw [hsm, g1, g2, V.pvL_len]; simp)⟩ (weak_ren [0] 2 (by kernel_rfl) (blkR_ls (by kernel_rfl) trivial) ⟨(by kernel_rfl), (by kernel_rfl), sLs (by kernel_rfl), (by kernel_rfl), (by kernel_rfl), (by kernel_rfl), (by kernel_rfl), (by kernel_rfl), (by kernel_rfl), (by kernel_rfl), trivial⟩) ?_
        rintro ⟨j, b⟩ ⟨hj, hb⟩
        simp only at hj hb
        set_option smartUnfolding false in conv => whnf
        refine br_intro (fun h' => ?_) (fun h' => ?_) <;> set_option smartUnfolding false in conv => whnf
        · replace h' : j < ts'.length := by have := dT h'; rw [V.pvL_len] at this; simpa using this
          refine V.get_elim h' fun k2 n2 ts2 hv2 hg2' _ hd2 => ?_
          rw [hd2, selfArgs_cons] at hb
          refine ⟨V.ag k2 n2 ts2, ⟨by simp, by simpa using hg2'⟩, ?_⟩
          set_option smartUnfolding false in conv => whnf
          refine br_intro (fun e1 => ?_) (fun e1 => ?_) <;> set_option smartUnfolding false in conv => whnf
          · subst e1
            refine br_intro (fun e2 => ?_) (fun e2 => ?_) <;> set_option smartUnfolding false in conv => whnf
            · refine br_intro (fun e3 => ?_) (fun e3 => ?_) <;> set_option smartUnfolding false in conv => whnf
              · refine ⟨(j + 1, decide (((V.pvL ts2).length : Int) = 0)), ⟨h', ?_⟩, weak_ren [0] 3 (by kernel_rfl) (blkR_ls (by kernel_rfl) trivial) ⟨(by kernel_rfl), (by kernel_rfl), sLs (by kernel_rfl), (by kernel_rfl), (by kernel_rfl), (by kernel_rfl), (by kernel_rfl), (by kernel_rfl), (by kernel_rfl), sUp h' hl', trivial⟩, subUp h'⟩
                rw [← hb, e2, e3, V.pvL_len]; simp
              · refine ⟨(j + 1, false), ⟨h', ?_⟩, weak_ren [0] 3 (by kernel_rfl) (blkR_ls (by kernel_rfl) trivial) ⟨(by kernel_rfl), (by kernel_rfl), sLs (by kernel_rfl), (by kernel_rfl), (by kernel_rfl), (by kernel_rfl), (by kernel_rfl), (by kernel_rfl), (by kernel_rfl), sUp h' hl', trivial⟩, subUp h'⟩
                rw [← hb, e3]; simp
            · refine ⟨(j + 1, false), ⟨h', ?_⟩, weak_ren [0] 3 (by kernel_rfl) (blkR_ls (by kernel_rfl) trivial) ⟨(by kernel_rfl), (by kernel_rfl), sLs (by kernel_rfl), (by kernel_rfl), (by kernel_rfl), (by kernel_rfl), (by kernel_rfl), (by kernel_rfl), (by kernel_rfl), sUp h' hl', trivial⟩, subUp h'⟩
              rw [← hb, e2]; simp
          · subst e1
            refine ⟨(j + 1, false), ⟨h', ?_⟩, weak_ren [0] 3 (by kernel_rfl) (blkR_ls (by kernel_rfl) trivial) ⟨(by kernel_rfl), (by kernel_rfl), sLs (by kernel_rfl), (by kernel_rfl), (by kernel_rfl), (by kernel_rfl), (by kernel_rfl), (by kernel_rfl), (by kernel_rfl), sUp h' hl', trivial⟩, subUp h'⟩
            rw [← hb]; simp
        · replace h' : ¬ j < ts'.length := by have := dF h'; rw [V.pvL_len] at this; simpa using this
          rw [List.drop_of_length_le (by omega), selfArgs_nil, Bool.and_true] at hb
          subst hb
          refine ⟨Nat.le_refl 1, ?_⟩
          set_option smartUnfolding false in conv => whnf
          cases ps with
          | nil =>
            set_option smartUnfolding false in conv => whnf
            refine ⟨⟨⟨by decide, by decide⟩, by decide⟩, ?_⟩
            set_option smartUnfolding false in conv => whnf
            exact ⟨(i + 1, [] ++ [.bool (isSelf d vs (.mk k' n' ts'))]), ⟨h, hs, by simp at hpl ⊢; omega⟩, weak_ren [2] 3 (by kernel_rfl) (blk (by kernel_rfl) trivial) ⟨(by kernel_rfl), (by kernel_rfl), (by kernel_rfl), (by kernel_rfl), (by kernel_rfl), sUp h hl, trivial⟩, subUp h⟩
          | cons p ps =>
            set_option smartUnfolding false in conv => whnf
            simp only [List.length_cons] at hpl
            refine ⟨⟨⟨by simp [pvs_len], by simp only [Nat.succ_eq_add_one]; omega⟩, by rw [show ((S.E 0).te 4).bytes = 1 from rfl]; simp only [Nat.succ_eq_add_one]; omega⟩, ?_⟩
            set_option smartUnfolding false in conv => whnf
            exact ⟨(i + 1, (p :: ps) ++ [.bool (isSelf d vs (.mk k' n' ts'))]), ⟨h, by rw [← hs]; simp, by simp; omega⟩, weak_ren [2] 3 (by kernel_rfl) (blkR_snoc (by kernel_rfl) trivial) ⟨(by kernel_rfl), (by kernel_rfl), by simp only [lsV_snoc]; kernel_rfl, (by kernel_rfl), (by kernel_rfl), sUp h hl, trivial⟩, subUp h⟩
      · refine vloop_intro (σ := Nat × Bool) (fun x => x.1 ≤ ts'.length ∧ (x.2 && selfArgs (ts'.drop x.1) x.1) = isSelf d vs (.mk k' n' ts')) (fun x => [(0, .pv (.lst 3 (Dt.pvL D))), (1, .pv (.int .i64 d)), (7, lsV 0 ps), (43, .pv (.lst 3 (V.pvL cas))), (44, .pv (.int .i64 (V.pvL cas).length)), (45, .pv (.int .i64 i)), (10, .pv (.bool x.2)), (70, .pv (.lst 3 (V.pvL ts'))), (71, .pv (.int .i64 (V.pvL ts').length)), (72, .pv (.int .i64 x.1))])
          (fun x => [lsB 4 1 ps]) (fun x => ts'.length - x.1) (0, false) ⟨by simp, (by rw [hsm, g2]; simp)⟩ (weak_ren [0] 2 (by kernel_rfl) (blkR_ls (by kernel_rfl) trivial) ⟨(by kernel_rfl), (by kernel_rfl), sLs (by kernel_rfl), (by kernel_rfl), (by kernel_rfl), (by kernel_rfl), (by kernel_rfl), (by kernel_rfl), (by kernel_rfl), (by kernel_rfl), trivial⟩) ?_
        rintro ⟨j, b⟩ ⟨hj, hb⟩
        simp only at hj hb
        set_option smartUnfolding false in conv => whnf
        refine br_intro (fun h' => ?_) (fun h' => ?_) <;> set_option smartUnfolding false in conv => whnf
        · replace h' : j < ts'.length := by have := dT h'; rw [V.pvL_len] at this; simpa using this
          refine V.get_elim h' fun k2 n2 ts2 hv2 hg2' _ hd2 => ?_
          rw [hd2, selfArgs_cons] at hb
          refine ⟨V.ag k2 n2 ts2, ⟨by simp, by simpa using hg2'⟩, ?_⟩
          set_option smartUnfolding false in conv => whnf
          refine br_intro (fun e1 => ?_) (fun e1 => ?_) <;> set_option smartUnfolding false in conv => whnf
          · subst e1
            refine br_intro (fun e2 => ?_) (fun e2 => ?_) <;> set_option smartUnfolding false in conv => whnf
            · refine br_intro (fun e3 => ?_) (fun e3 => ?_) <;> set_option smartUnfolding false in conv => whnf
              · refine ⟨(j + 1, decide (((V.pvL ts2).length : Int) = 0)), ⟨h', ?_⟩, weak_ren [0] 3 (by kernel_rfl) (blkR_ls (by kernel_rfl) trivial) ⟨(by kernel_rfl), (by kernel_rfl), sLs (by kernel_rfl), (by kernel_rfl), (by kernel_rfl), (by kernel_rfl), (by kernel_rfl), (by kernel_rfl), (by kernel_rfl), sUp h' hl', trivial⟩, subUp h'⟩
                rw [← hb, e2, e3, V.pvL_len]; simp
              · refine ⟨(j + 1, false), ⟨h', ?_⟩, weak_ren [0] 3 (by kernel_rfl) (blkR_ls (by kernel_rfl) trivial) ⟨(by kernel_rfl), (by kernel_rfl), sLs (by kernel_rfl), (by kernel_rfl), (by kernel_rfl), (by kernel_rfl), (by kernel_rfl), (by kernel_rfl), (by kernel_rfl), sUp h' hl', trivial⟩, subUp h'⟩
                rw [← hb, e3]; simp
            · refine ⟨(j + 1, false), ⟨h', ?_⟩, weak_ren [0] 3 (by kernel_rfl) (blkR_ls (by kernel_rfl) trivial) ⟨(by kernel_rfl), (by kernel_rfl), sLs (by kernel_rfl), (by kernel_rfl), (by kernel_rfl), (by kernel_rfl), (by kernel_rfl), (by kernel_rfl), (by kernel_rfl), sUp h' hl', trivial⟩, subUp h'⟩
              rw [← hb, e2]; simp
          · subst e1
            refine ⟨(j + 1, false), ⟨h', ?_⟩, weak_ren [0] 3 (by kernel_rfl) (blkR_ls (by kernel_rfl) trivial) ⟨(by kernel_rfl), (by kernel_rfl), sLs (by kernel_rfl), (by kernel_rfl), (by kernel_rfl), (by kernel_rfl), (by kernel_rfl), (by kernel_rfl), (by kernel_rfl), sUp h' hl', trivial⟩, subUp h'⟩
            rw [← hb]; simp
        · replace h' : ¬ j < ts'.length := by have := dF h'; rw [V.pvL_len] at this; simpa using this
          rw [List.drop_of_length_le (by omega), selfArgs_nil, Bool.and_true] at hb
          subst hb
          refine ⟨Nat.le_refl 1, ?_⟩
          set_option smartUnfolding false in conv => whnf
          cases ps with
          | nil =>
            set_option smartUnfolding false in conv => whnf
            refine ⟨⟨⟨by decide, by decide⟩, by decide⟩, ?_⟩
            set_option smartUnfolding false in conv => whnf
            exact ⟨(i + 1, [] ++ [.bool (isSelf d vs (.mk k' n' ts'))]), ⟨h, hs, by simp at hpl ⊢; omega⟩, weak_ren [2] 3 (by kernel_rfl) (blk (by kernel_rfl) trivial) ⟨(by kernel_rfl), (by kernel_rfl), (by kernel_rfl), (by kernel_rfl), (by kernel_rfl), sUp h hl, trivial⟩, subUp h⟩
          | cons p ps =>
            set_option smartUnfolding false in conv => whnf
            simp only [List.length_cons] at hpl
            refine ⟨⟨⟨by simp [pvs_len], by simp only [Nat.succ_eq_add_one]; omega⟩, by rw [show ((S.E 0).te 4).bytes = 1 from rfl]; simp only [Nat.succ_eq_add_one]; omega⟩, ?_⟩
            set_option smartUnfolding false in conv => whnf
            exact ⟨(i + 1, (p :: ps) ++ [.bool (isSelf d vs (.mk k' n' ts'))]), ⟨h, by rw [← hs]; simp, by simp; omega⟩, weak_ren [2] 3 (by kernel_rfl) (blkR_snoc (by kernel_rfl) trivial) ⟨(by kernel_rfl), (by kernel_rfl), by simp only [lsV_snoc]; kernel_rfl, (by kernel_rfl), (by kernel_rfl), sUp h hl, trivial⟩, subUp h⟩
    · refine vloop_intro (σ := Nat × Bool) (fun x => x.1 ≤ ts'.length ∧ (x.2 && selfArgs (ts'.drop x.1) x.1) = isSelf d vs (.mk k' n' ts')) (fun x => [(0, .pv (.lst 3 (Dt.pvL D))), (1, .pv (.int .i64 d)), (7, lsV 0 ps), (43, .pv (.lst 3 (V.pvL cas))), (44, .pv (.int .i64 (V.pvL cas).length)), (45, .pv (.int .i64 i)), (10, .pv (.bool x.2)), (70, .pv (.lst 3 (V.pvL ts'))), (71, .pv (.int .i64 (V.pvL ts').length)), (72, .pv (.int .i64 x.1))])
        (fun x => [lsB 4 1 ps]) (fun x => ts'.length - x.1) (0, false) ⟨by simp, (by rw [hsm, g1]; simp)⟩ (weak_ren [0] 2 (by kernel_rfl) (blkR_ls (by kernel_rfl) trivial) ⟨(by kernel_rfl), (by kernel_rfl), sLs (by kernel_rfl), (by kernel_rfl), (by kernel_rfl), (by kernel_rfl), (by kernel_rfl), (by kernel_rfl), (by kernel_rfl), (by kernel_rfl), trivial⟩) ?_
      rintro ⟨j, b⟩ ⟨hj, hb⟩
      simp only at hj hb
      set_option smartUnfolding false in conv => whnf
      refine br_intro (fun h' => ?_) (fun h' => ?_) <;> set_option smartUnfolding false in conv => whnf
      · replace h' : j < ts'.length := by have := dT h'; rw [V.pvL_len] at this; simpa using this
        refine V.get_elim h' fun k2 n2 ts2 hv2 hg2' _ hd2 => ?_
        rw [hd2, selfArgs_cons] at hb
        refine ⟨V.ag k2 n2 ts2, ⟨by simp, by simpa using hg2'⟩, ?_⟩
        set_option smartUnfolding false in conv => whnf
        refine br_intro (fun e1 => ?_) (fun e1 => ?_) <;> set_option smartUnfolding false in conv => whnf
        · subst e1
          refine br_intro (fun e2 => ?_) (fun e2 => ?_) <;> set_option smartUnfolding false in conv => whnf
          · refine br_intro (fun e3 => ?_) (fun e3 => ?_) <;> set_option smartUnfolding false in conv => whnf
            · refine ⟨(j + 1, decide (((V.pvL ts2).length : Int) = 0)), ⟨h', ?_⟩, weak_ren [0] 3 (by kernel_rfl) (blkR_ls (by kernel_rfl) trivial) ⟨(by kernel_rfl), (by kernel_rfl), sLs (by kernel_rfl), (by kernel_rfl), (by kernel_rfl), (by kernel_rfl), (by kernel_rfl), (by kernel_rfl), (by kernel_rfl), sUp h' hl', trivial⟩, subUp h'⟩
              rw [← hb, e2, e3, V.pvL_len]; simp
            · refine ⟨(j + 1, false), ⟨h', ?_⟩, weak_ren [0] 3 (by kernel_rfl) (blkR_ls (by kernel_rfl) trivial) ⟨(by kernel_rfl), (by kernel_rfl), sLs (by kernel_rfl), (by kernel_rfl), (by kernel_rfl), (by kernel_rfl), (by kernel_rfl), (by kernel_rfl), (by kernel_rfl), sUp h' hl', trivial⟩, subUp h'⟩
              rw [← hb, e3]; simp
          · refine ⟨(j + 1, false), ⟨h', ?_⟩, weak_ren [0] 3 (by kernel_rfl) (blkR_ls (by kernel_rfl) trivial) ⟨(by kernel_rfl), (by kernel_rfl), sLs (by kernel_rfl), (by kernel_rfl), (by kernel_rfl), (by kernel_rfl), (by kernel_rfl), (by kernel_rfl), (by kernel_rfl), sUp h' hl', trivial⟩, subUp h'⟩
            rw [← hb, e2]; simp
        · subst e1
          refine ⟨(j + 1, false), ⟨h', ?_⟩, weak_ren [0] 3 (by kernel_rfl) (blkR_ls (by kernel_rfl) trivial) ⟨(by kernel_rfl), (by kernel_rfl), sLs (by kernel_rfl), (by kernel_rfl), (by kernel_rfl), (by kernel_rfl), (by kernel_rfl), (by kernel_rfl), (by kernel_rfl), sUp h' hl', trivial⟩, subUp h'⟩
          rw [← hb]; simp
      · replace h' : ¬ j < ts'.length := by have := dF h'; rw [V.pvL_len] at this; simpa using this
        rw [List.drop_of_length_le (by omega), selfArgs_nil, Bool.and_true] at hb
        subst hb
        refine ⟨Nat.le_refl 1, ?_⟩
        set_option smartUnfolding false in conv => whnf
        cases ps with
        | nil =>
          set_option smartUnfolding false in conv => whnf
          refine ⟨⟨⟨by decide, by decide⟩, by decide⟩, ?_⟩
          set_option smartUnfolding false in conv => whnf
          exact ⟨(i + 1, [] ++ [.bool (isSelf d vs (.mk k' n' ts'))]), ⟨h, hs, by simp at hpl ⊢; omega⟩, weak_ren [2] 3 (by kernel_rfl) (blk (by kernel_rfl) trivial) ⟨(by kernel_rfl), (by kernel_rfl), (by kernel_rfl), (by kernel_rfl), (by kernel_rfl), sUp h hl, trivial⟩, subUp h⟩
        | cons p ps =>
          set_option smartUnfolding false in conv => whnf
          simp only [List.length_cons] at hpl
          refine ⟨⟨⟨by simp [pvs_len], by simp only [Nat.succ_eq_add_one]; omega⟩, by rw [show ((S.E 0).te 4).bytes = 1 from rfl]; simp only [Nat.succ_eq_add_one]; omega⟩, ?_⟩
          set_option smartUnfolding false in conv => whnf
          exact ⟨(i + 1, (p :: ps) ++ [.bool (isSelf d vs (.mk k' n' ts'))]), ⟨h, by rw [← hs]; simp, by simp; omega⟩, weak_ren [2] 3 (by kernel_rfl) (blkR_snoc (by kernel_rfl) trivial) ⟨(by kernel_rfl), (by kernel_rfl), by simp only [lsV_snoc]; kernel_rfl, (by kernel_rfl), (by kernel_rfl), sUp h hl, trivial⟩, subUp h⟩
  · replace h : ¬ i < cas.length := by have := dF h; rw [V.pvL_len] at this; simpa using this
    rw [List.drop_of_length_le (by omega), List.map_nil, boolsP_nil, List.append_nil] at hs
    rw [← hs]
    exact rd_ls (k := 0) rfl trivial rfl
end Go.AM
