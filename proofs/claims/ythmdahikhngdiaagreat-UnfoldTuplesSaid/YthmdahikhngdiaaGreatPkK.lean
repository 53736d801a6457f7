import Derived.Test.YthmdahikhngdiaaGreatPkJ
set_option linter.all false
set_option maxRecDepth 20000
set_option maxHeartbeats 4000000
namespace Go.AM
open Go.Proofs

/-! ### The sanity check of layer 18: unfold.Cons at the element of a constructor without arguments -/
abbrev uI : PV := .agg [.int .i64 0, .lst 2 []]
abbrev uT : PV := .agg [.int .i64 5, .int .i64 0, .lst 3 []]
abbrev uC : PV := .agg [.str ⟨#[67]⟩, .lst 3 []]
abbrev uDe : PV := .agg [.str ⟨#[68]⟩, .int .i64 0, .lst 2 [uC]]
abbrev uD : PV := .lst 3 [uDe]
abbrev uX : PV := .agg [.int .i64 0, .lst 2 [uI]]
abbrev vH (a : AV) : Heap := [.box 67 [a], .box 90 [.fn 63 [.bp 0 0, .bp 1 0]]]
theorem visit1 : HDet Tryz.prog 63 [.pv (.lst 2 [uI]), .pv (.int .i64 0), .pv .nils, .bp 0 0, .bp 1 0] (vH (.pv .nils)) (.pv (.tuple [])) (vH (.pv .nils)) := by
  refine hdet_of_vc' (E := S.E 2) fol Tryz.func63 rfl rfl (slots := []) rfl rfl ?_ ?_ ?_ fun hw => ?_
  · exact Nat.le_refl 2
  · exact ⟨trivial, trivial, trivial, rfl, rfl, trivial⟩
  · exact fun i => by
      rcases i with _ | _ | i
      · exact ⟨trivial, trivial⟩
      · exact ⟨⟨rfl, rfl, trivial⟩, trivial⟩
      · rw [hget_ge (by simp [hlen])]; exact trivial
  set_option smartUnfolding false in conv => whnf
  exact weak_ren [0, 1] 2 (by kernel_rfl) (blk (by kernel_rfl) (blk (by kernel_rfl) trivial)) ⟨(by kernel_rfl), trivial⟩
theorem visit2 : HDet Tryz.prog 63 [.pv (.lst 2 []), .pv (.int .i64 0), .pv .nils, .bp 0 0, .bp 1 0] (vH (.pv .nils)) (.pv (.tuple [])) (vH (.row 2 1) ++ [.row 42 1 [.pv .nils]]) := by
  refine hdet_of_vc' (E := S.E 2) fol Tryz.func63 rfl rfl (slots := []) rfl rfl ?_ ?_ ?_ fun hw => ?_
  · exact Nat.le_refl 2
  · exact ⟨trivial, trivial, trivial, rfl, rfl, trivial⟩
  · exact fun i => by
      rcases i with _ | _ | i
      · exact ⟨trivial, trivial⟩
      · exact ⟨⟨rfl, rfl, trivial⟩, trivial⟩
      · rw [hget_ge (by simp [hlen])]; exact trivial
  set_option smartUnfolding false in conv => whnf
  refine ⟨Nat.le_refl 1, ?_⟩
  set_option smartUnfolding false in conv => whnf
  refine ⟨⟨⟨by decide, by decide⟩, by decide⟩, ?_⟩
  set_option smartUnfolding false in conv => whnf
  exact weak_ren [0, 1, 3] 4 (by kernel_rfl) (blk (by kernel_rfl) (blk (by kernel_rfl) (blk (by kernel_rfl) trivial))) ⟨(by kernel_rfl), trivial⟩
theorem cuts1 : Det Tryz.prog 40 [.lst 2 [uI], .int .i64 0] (.lst 1 []) := by
  refine det_of_vc' (E := S.E 0) rfl fol Tryz.func40 rfl rfl (slots := [4]) rfl rfl fun hw => ?_
  set_option smartUnfolding false in conv => whnf
  refine acall_hdet visit1 [0, 1] 2 rfl rfl ⟨rfl, rfl, trivial⟩ ?_
  set_option smartUnfolding false in conv => whnf
  exact .le (.nils 1)
theorem cuts2 : Det Tryz.prog 40 [.lst 2 [], .int .i64 0] (.lst 1 [.lst 1 []]) := by
  refine det_of_vc' (E := S.E 0) rfl fol Tryz.func40 rfl rfl (slots := [4]) rfl rfl fun hw => ?_
  set_option smartUnfolding false in conv => whnf
  refine acall_hdet visit2 [0, 1] 2 rfl rfl ⟨rfl, rfl, trivial⟩ ?_
  set_option smartUnfolding false in conv => whnf
  exact Rd.row (id := 2) (n := 1) (t := 42) (sz := 1) (xs := [.pv .nils]) (ps := [.lst 1 []]) trivial rfl (Nat.le_refl 1) (.cons (.le (.nils 1)) .nil)
abbrev aH (r : AV) (b : AB) : Heap := [.box 63 [.pv (.lst 1 [])], .box 23 [.pv (.lst 3 [])], .box 63 [.pv (.lst 1 [])], .box 42 [r], b]
theorem add1 : HDet Tryz.prog 39 [.pv (.lst 2 [uI]), .fn 41 [.bp 4 0, .bp 1 0, .bp 2 0], .bp 0 0, .bp 1 0, .bp 2 0, .bp 3 0] (aH (.pv .nils) (.box 22 [.pv uD])) (.pv (.tuple [])) (aH (.pv .nils) (.box 22 [.pv uD])) := by
  refine hdet_of_vc' (E := S.E 5) fol Tryz.func39 rfl rfl (slots := []) rfl rfl ?_ ?_ ?_ fun hw => ?_
  · exact Nat.le_refl 5
  · exact ⟨trivial, ⟨rfl, rfl, rfl, trivial⟩, rfl, rfl, rfl, rfl, trivial⟩
  · exact fun i => by
      rcases i with _ | _ | _ | _ | _ | i
      iterate 5 exact ⟨trivial, trivial⟩
      rw [hget_ge (by simp [hlen])]; exact trivial
  set_option smartUnfolding false in conv => whnf
  refine acall_det (ps := [.lst 2 [uI], .int .i64 0]) cuts1 ?_
  set_option smartUnfolding false in conv => whnf
  refine vloop_intro (σ := Unit) (fun _ => True) (fun _ => [(18, .pv (.lst 1 [])), (19, .pv (.int .i64 0)), (20, .pv (.int .i64 0))]) (fun _ => aH (.pv .nils) (.box 22 [.pv uD])) (fun _ => 0) () trivial (weak_ren [0, 1, 2, 3, 4] 5 (by kernel_rfl) (blk (by kernel_rfl) (blk (by kernel_rfl) (blk (by kernel_rfl) (blk (by kernel_rfl) (blk (by kernel_rfl) trivial))))) ⟨(by kernel_rfl), (by kernel_rfl), (by kernel_rfl), trivial⟩) ?_
  rintro ⟨⟩ _
  set_option smartUnfolding false in conv => whnf
  exact weak_ren [0, 1, 2, 3, 4] 5 (by kernel_rfl) (blk (by kernel_rfl) (blk (by kernel_rfl) (blk (by kernel_rfl) (blk (by kernel_rfl) (blk (by kernel_rfl) trivial))))) ⟨(by kernel_rfl), trivial⟩
abbrev aHs (r : AV) (b c : AB) : Heap := [.box 63 [.pv (.lst 1 [])], .box 23 [.pv (.lst 3 [])], .box 63 [.pv (.lst 1 [])], .box 42 [r], b, c]
abbrev uIb : AB := .box 28 [.pv (.int .i64 0), .pv (.lst 2 [uI])]
abbrev aR : Heap := [.row 26 1 [.row 6 0], .row 28 2 []]
theorem add2 : HDet Tryz.prog 39 [.pv (.lst 2 []), .fn 43 [.bp 4 0], .bp 0 0, .bp 1 0, .bp 2 0, .bp 3 0] (aH (.pv .nils) uIb) (.pv (.tuple [])) (aH (.row 5 1) uIb ++ aR) := by
  refine hdet_of_vc' (E := S.E 5) fol Tryz.func39 rfl rfl (slots := []) rfl rfl ?_ ?_ ?_ fun hw => ?_
  · exact Nat.le_refl 5
  · exact ⟨trivial, ⟨rfl, trivial⟩, rfl, rfl, rfl, rfl, trivial⟩
  · exact fun i => by
      rcases i with _ | _ | _ | _ | _ | i
      iterate 4 exact ⟨trivial, trivial⟩
      · exact ⟨trivial, trivial, trivial⟩
      rw [hget_ge (by simp [hlen])]; exact trivial
  set_option smartUnfolding false in conv => whnf
  refine acall_det (ps := [.lst 2 [], .int .i64 0]) cuts2 ?_
  set_option smartUnfolding false in conv => whnf
  refine vloop_intro (σ := Bool) (fun _ => True) (fun b => [(1, .fn 43 [.bp 4 0]), (2, .bp 0 0), (3, .bp 1 0), (4, .bp 2 0), (5, .bp 3 0), (18, .pv (.lst 1 [.lst 1 []])), (19, .pv (.int .i64 1)), (20, .pv (.int .i64 (cond b 1 0)))]) (fun b => cond b (aH (.row 5 1) uIb ++ aR) (aH (.pv .nils) uIb)) (fun b => cond b 0 1) false trivial (weak_ren [0, 1, 2, 3, 4] 5 (by kernel_rfl) (blk (by kernel_rfl) (blk (by kernel_rfl) (blk (by kernel_rfl) (blk (by kernel_rfl) (blk (by kernel_rfl) trivial))))) ⟨(by kernel_rfl), (by kernel_rfl), (by kernel_rfl), (by kernel_rfl), (by kernel_rfl), (by kernel_rfl), (by kernel_rfl), (by kernel_rfl), trivial⟩) ?_
  rintro b _
  cases b with
  | true =>
    set_option smartUnfolding false in conv => whnf
    exact weak_ren [0, 1, 2, 3, 4, 5, 6] 7 (by kernel_rfl) (blk (by kernel_rfl) (blk (by kernel_rfl) (blk (by kernel_rfl) (blk (by kernel_rfl) (blk (by kernel_rfl) (blk (by kernel_rfl) (blk (by kernel_rfl) trivial))))))) ⟨(by kernel_rfl), trivial⟩
  | false =>
    set_option smartUnfolding false in conv => whnf
    refine ⟨.lst 1 [], ⟨by decide, rfl⟩, ?_⟩
    set_option smartUnfolding false in conv => whnf
    refine ⟨by decide, ?_⟩
    set_option smartUnfolding false in conv => whnf
    refine vloop_intro (σ := Unit) (fun _ => True) (fun _ => [(2, .bp 0 0), (3, .bp 1 0), (4, .bp 2 0), (5, .bp 3 0), (1, .fn 43 [.bp 4 0]), (9, .pv (.lst 1 [])), (10, .row 5 0), (18, .pv (.lst 1 [.lst 1 []])), (19, .pv (.int .i64 1)), (20, .pv (.int .i64 0)), (27, .pv (.lst 1 [])), (28, .pv (.int .i64 0)), (29, .pv (.int .i64 0))]) (fun _ => aHs (.pv .nils) uIb (.row 28 2 [])) (fun _ => 0) () trivial (weak_ren [0, 1, 2, 3, 4, 5] 6 (by kernel_rfl) (blk (by kernel_rfl) (blk (by kernel_rfl) (blk (by kernel_rfl) (blk (by kernel_rfl) (blk (by kernel_rfl) (blk (by kernel_rfl) trivial)))))) ⟨(by kernel_rfl), (by kernel_rfl), (by kernel_rfl), (by kernel_rfl), (by kernel_rfl), (by kernel_rfl), (by kernel_rfl), (by kernel_rfl), (by kernel_rfl), (by kernel_rfl), (by kernel_rfl), (by kernel_rfl), (by kernel_rfl), trivial⟩) ?_
    rintro ⟨⟩ _
    set_option smartUnfolding false in conv => whnf
    refine vloop_intro (σ := Unit) (fun _ => True) (fun _ => [(2, .bp 0 0), (3, .bp 1 0), (4, .bp 2 0), (5, .bp 3 0), (1, .fn 43 [.bp 4 0]), (9, .pv (.lst 1 [])), (10, .row 5 0), (18, .pv (.lst 1 [.lst 1 []])), (19, .pv (.int .i64 1)), (20, .pv (.int .i64 0)), (41, .pv (.lst 1 [])), (42, .pv (.int .i64 0)), (43, .pv (.int .i64 0))]) (fun _ => aHs (.pv .nils) uIb (.row 28 2 [])) (fun _ => 0) () trivial (weak_ren [0, 1, 2, 3, 4, 5] 6 (by kernel_rfl) (blk (by kernel_rfl) (blk (by kernel_rfl) (blk (by kernel_rfl) (blk (by kernel_rfl) (blk (by kernel_rfl) (blk (by kernel_rfl) trivial)))))) ⟨(by kernel_rfl), (by kernel_rfl), (by kernel_rfl), (by kernel_rfl), (by kernel_rfl), (by kernel_rfl), (by kernel_rfl), (by kernel_rfl), (by kernel_rfl), (by kernel_rfl), (by kernel_rfl), (by kernel_rfl), (by kernel_rfl), trivial⟩) ?_
    rintro ⟨⟩ _
    set_option smartUnfolding false in conv => whnf
    refine ⟨Nat.le_refl 1, ?_⟩
    set_option smartUnfolding false in conv => whnf
    refine ⟨⟨⟨by decide, by decide⟩, by decide⟩, ?_⟩
    set_option smartUnfolding false in conv => whnf
    exact ⟨true, trivial, weak_ren [0, 1, 2, 3, 4, 7, 5] 8 (by kernel_rfl) (blk (by kernel_rfl) (blk (by kernel_rfl) (blk (by kernel_rfl) (blk (by kernel_rfl) (blk (by kernel_rfl) (blk (by kernel_rfl) (blk (by kernel_rfl) trivial))))))) ⟨(by kernel_rfl), (by kernel_rfl), (by kernel_rfl), (by kernel_rfl), (by kernel_rfl), (by kernel_rfl), (by kernel_rfl), (by kernel_rfl), trivial⟩, Nat.lt_succ_self 0⟩

/-! ### slices.SortFunc of one element -/
abbrev sH : Heap := [.row 26 1 [.row 1 0], .row 28 2 []]
theorem len64_1 : Det Tryz.prog 102 [.int .u64 1] (.int .i64 1) := by
  refine det_of_vc' (E := S.E 0) rfl fol Tryz.func102 rfl rfl (slots := [2]) rfl rfl fun hw => ?_
  set_option smartUnfolding false in conv => whnf
  refine ⟨by decide, ?_⟩
  set_option smartUnfolding false in conv => whnf
  exact rdI rfl
theorem len_1 : Det Tryz.prog 67 [.int .u64 1] (.int .i64 1) := by
  refine det_of_vc' (E := S.E 0) rfl fol Tryz.func67 rfl rfl (slots := [2]) rfl rfl fun hw => ?_
  set_option smartUnfolding false in conv => whnf
  refine acall_det (ps := [.int .u64 1]) len64_1 ?_
  set_option smartUnfolding false in conv => whnf
  exact rdI rfl
theorem ins_1 : HDet Tryz.prog 93 [.row 0 1, .pv (.int .i64 0), .pv (.int .i64 1), .pv (.fn 45 [])] sH (.pv (.tuple [])) sH := by
  refine hdet_of_vc' (E := S.E 2) fol Tryz.func93 rfl rfl (slots := []) rfl rfl ?_ ?_ ?_ fun hw => ?_
  · exact Nat.le_refl 2
  · repeat (first | exact trivial | (refine ⟨?_, ?_⟩) | rfl | trivial)
  · exact fun i => by
      rcases i with _ | _ | i
      · exact ⟨rfl, trivial⟩
      · exact trivial
      · rw [hget_ge (by simp [hlen])]; exact trivial
  set_option smartUnfolding false in conv => whnf
  refine vloop_intro (σ := Unit) (fun _ => True) (fun _ => [(2, .pv (.int .i64 1)), (8, .pv (.int .i64 1))]) (fun _ => sH) (fun _ => 0) () trivial (weak_ren [0, 1] 2 (by kernel_rfl) (blk (by kernel_rfl) (blk (by kernel_rfl) trivial)) ⟨(by kernel_rfl), (by kernel_rfl), trivial⟩) ?_
  rintro ⟨⟩ _
  set_option smartUnfolding false in conv => whnf
  exact weak_ren [0, 1] 2 (by kernel_rfl) (blk (by kernel_rfl) (blk (by kernel_rfl) trivial)) ⟨(by kernel_rfl), trivial⟩
theorem pdq_1 : HDet Tryz.prog 66 [.row 0 1, .pv (.int .i64 0), .pv (.int .i64 1), .pv (.int .i64 1), .pv (.fn 45 [])] sH (.pv (.tuple [])) sH := by
  refine hdet_of_vc' (E := S.E 2) fol Tryz.func66 rfl rfl (slots := []) rfl rfl ?_ ?_ ?_ fun hw => ?_
  · exact Nat.le_refl 2
  · repeat (first | exact trivial | (refine ⟨?_, ?_⟩) | rfl | trivial)
  · exact fun i => by
      rcases i with _ | _ | i
      · exact ⟨rfl, trivial⟩
      · exact trivial
      · rw [hget_ge (by simp [hlen])]; exact trivial
  set_option smartUnfolding false in conv => whnf
  refine vloop_intro (σ := Unit) (fun _ => True) (fun _ => [(0, .row 0 1), (1, .pv (.int .i64 0)), (2, .pv (.int .i64 1)), (4, .pv (.fn 45 []))]) (fun _ => sH) (fun _ => 0) () trivial (weak_ren [0, 1] 2 (by kernel_rfl) (blk (by kernel_rfl) (blk (by kernel_rfl) trivial)) ⟨(by kernel_rfl), (by kernel_rfl), (by kernel_rfl), (by kernel_rfl), trivial⟩) ?_
  rintro ⟨⟩ _
  set_option smartUnfolding false in conv => whnf
  refine acall_hdet ins_1 [0, 1] 2 rfl rfl ⟨rfl, rfl, trivial⟩ ?_
  set_option smartUnfolding false in conv => whnf
  exact weak_ren [0, 1] 2 (by kernel_rfl) (blk (by kernel_rfl) (blk (by kernel_rfl) trivial)) ⟨(by kernel_rfl), trivial⟩
theorem sort_1 : HDet Tryz.prog 44 [.row 0 1, .pv (.fn 45 [])] sH (.pv (.tuple [])) sH := by
  refine hdet_of_vc' (E := S.E 2) fol Tryz.func44 rfl rfl (slots := []) rfl rfl ?_ ?_ ?_ fun hw => ?_
  · exact Nat.le_refl 2
  · repeat (first | exact trivial | (refine ⟨?_, ?_⟩) | rfl | trivial)
  · exact fun i => by
      rcases i with _ | _ | i
      · exact ⟨rfl, trivial⟩
      · exact trivial
      · rw [hget_ge (by simp [hlen])]; exact trivial
  set_option smartUnfolding false in conv => whnf
  refine acall_det (ps := [.int .u64 1]) len_1 ?_
  set_option smartUnfolding false in conv => whnf
  refine acall_hdet pdq_1 [0, 1] 2 rfl rfl ⟨rfl, rfl, trivial⟩ ?_
  set_option smartUnfolding false in conv => whnf
  exact weak_ren [0, 1] 2 (by kernel_rfl) (blk (by kernel_rfl) (blk (by kernel_rfl) trivial)) ⟨(by kernel_rfl), trivial⟩
end Go.AM

set_option linter.all false
set_option maxRecDepth 20000
set_option maxHeartbeats 4000000
namespace Go.AM
open Go.Proofs

theorem pv_uX : (Ix.mk 0 [.mk 0 []]).pv = uX := by
  rw [Ix.pv_mk]; simp only [Ix.ag, Ix.pvL_cons, Ix.pvL_nil, Ix.pv_mk]
theorem D0_fields : fieldsS D0 leaf0 0 = some [] := rfl
theorem D0_rec : recS D0 0 0 = [] := by rfl
theorem uX_deg : degS D0 leaf0 (.mk 0 [.mk 0 []]) = 1 := by
  rw [degS_yes leaf0_known]
  unfold leaf0
  rw [Ix.deg_mk]
  have hp : payS D0 (.mk 5 0 []) 0 = some [] := by
    have : fieldsS D0 (.mk 5 0 []) 0 = some [] := rfl
    rw [payS_some this, picks_nil]
  have : Ix.degE D0 (.mk 5 0 []) 0 [.mk 0 []] = some 1 := by
    rw [Ix.degE_cons, Ix.degK_mk, hp]
    simp only
    rw [Ix.degL_nil]
    simp only
    rw [if_neg (by omega), Ix.degE_nil]; rfl
  rw [if_neg (by omega), if_neg (by omega), if_pos rfl, if_pos ⟨rfl, by decide⟩, this]; rfl
theorem cons_valid : Det Tryz.prog 27 [uD, uT, uX] (.bool true) := by
  have h := iValid_det D0_ok.1 D0_ok.2 leaf0 (.mk 0 [.mk 0 []])
  rw [uX_deg, D0_pv, leaf0_pv, pv_uX] at h
  exact h
theorem cons_con : Det Tryz.prog 32 [uD, uT, .int .i64 0] (.int .i64 0) := by
  refine det_of_vc' (E := S.E 0) rfl fol Tryz.func32 rfl rfl (slots := [6]) rfl rfl fun hw => ?_
  set_option smartUnfolding false in conv => whnf
  refine ⟨uDe, ⟨by decide, rfl⟩, ?_⟩
  set_option smartUnfolding false in conv => whnf
  exact rdP (.refl _)
theorem cons_fields : Det Tryz.prog 33 [uD, uT, .int .i64 0] (.tuple [.lst 3 [], .bool true]) := by
  have h := tfields_det D0_ok.1 leaf0 (by rw [leaf0_cnt]; omega) 0
  rw [D0_fields, optP_some, V.pvL_nil, List.append_nil, D0_pv, leaf0_pv] at h
  exact h
theorem cons_pay : Det Tryz.prog 35 [uD, uT, .int .i64 0] (.tuple [.lst 1 [], .lst 1 [], .bool true]) := by
  have h := ipayload_det D0_ok.1 D0_ok.2 0 [] (by have := leaf0_cnt; unfold leaf0 at this; omega) leaf0_known 0 (fs := []) D0_fields
  rw [D0_rec, pos_nil, pos_nil, natsP_nil, D0_pv] at h
  have e := leaf0_pv
  unfold leaf0 at e
  rw [e] at h
  exact h
theorem cons_det : Det Tryz.prog 18 [uD, uT, .int .i64 0, uX] (.tuple [.lst 1 [.lst 2 []], .int .i64 0]) := by
  refine det_of_vc' (E := S.E 0) rfl fol Tryz.func18 rfl rfl (slots := [8, 9]) rfl rfl fun hw => ?_
  set_option smartUnfolding false in conv => whnf
  refine acall_det (ps := [uD, uT, uX]) cons_valid ?_
  set_option smartUnfolding false in conv => whnf
  refine acall_det (ps := [uD, uT, .int .i64 0]) cons_con ?_
  set_option smartUnfolding false in conv => whnf
  refine acall_det (ps := [uD, uT, .int .i64 0]) cons_fields ?_
  set_option smartUnfolding false in conv => whnf
  refine acall_det (ps := [uD, uT, .int .i64 0]) cons_pay ?_
  set_option smartUnfolding false in conv => whnf
  refine acall_hdet add1 [5, 3, 4, 6, 0] 7 rfl rfl ⟨rfl, rfl, rfl, rfl, rfl, trivial⟩ ?_
  set_option smartUnfolding false in conv => whnf
  refine ⟨uI, ⟨by decide, rfl⟩, ?_⟩
  set_option smartUnfolding false in conv => whnf
  refine ⟨by decide, ?_⟩
  set_option smartUnfolding false in conv => whnf
  refine acall_hdet add2 [5, 3, 4, 6, 2] 7 rfl rfl ⟨rfl, rfl, rfl, rfl, rfl, trivial⟩ ?_
  set_option smartUnfolding false in conv => whnf
  refine acall_hdet sort_1 [7, 8] 9 rfl rfl ⟨rfl, rfl, trivial⟩ ?_
  set_option smartUnfolding false in conv => whnf
  exact .tup (.cons (Rd.row (id := 7) (n := 1) (t := 26) (sz := 1) (xs := [.row 8 0]) (ps := [.lst 2 []]) trivial rfl (Nat.le_refl 1) (.cons (Rd.row (id := 8) (n := 0) (t := 28) (sz := 2) (xs := []) (ps := []) trivial rfl (Nat.le_refl 0) .nil) .nil)) (.cons (.pv _) .nil))
theorem awake18_det : Det Tryz.prog 13 [] (.bool true) := by
  refine det_of_vc' (E := S.E 0) rfl fol Tryz.func13 rfl rfl (slots := [0]) rfl rfl fun hw => ?_
  set_option smartUnfolding false in conv => whnf
  refine acall_intro (adet_eat (S := [1, 0, 2]) cons_det (.cons (Rd.row (id := 1) (n := 1) (t := 61) (sz := 3) (xs := [.mix [.pv (.str ⟨#[68]⟩), .pv (.int .i64 0), .row 0 1]]) (ps := [uDe]) (.head _) (by kernel_rfl) (Nat.le_refl 1)
    (.cons (.mix (.cons (.pv _) (.cons (.pv _) (.cons (Rd.row (id := 0) (n := 1) (t := 58) (sz := 2) (xs := [.pv (.agg [.str ⟨#[67]⟩, .nils])]) (ps := [uC]) (.tail _ (.head _)) (by kernel_rfl) (Nat.le_refl 1) (.cons (.le (.agg (.cons (.refl _) (.cons (.nils 3) .nil)))) .nil)) .nil)))) .nil))
    (.cons (.le (.agg (.cons (.refl _) (.cons (.refl _) (.cons (.nils 3) .nil))))) (.cons (.pv _) (.cons (.mix (.cons (.pv _) (.cons (Rd.row (id := 2) (n := 1) (t := 28) (sz := 2) (xs := [.pv (.agg [.int .i64 0, .nils])]) (ps := [uI]) (.tail _ (.tail _ (.head _))) (by kernel_rfl) (Nat.le_refl 1) (.cons (.le (.agg (.cons (.refl _) (.cons (.nils 2) .nil)))) .nil)) .nil))) .nil))))) ?_
  set_option smartUnfolding false in conv => whnf
  refine ⟨.lst 2 [], ⟨by decide, rfl⟩, ?_⟩
  set_option smartUnfolding false in conv => whnf
  exact rdB rfl
end Go.AM

set_option linter.all false
set_option maxRecDepth 20000
set_option maxHeartbeats 4000000
namespace Go.AM
open Go.Proofs

/-! ### An index is the same as itself -/
theorem samI_of (n : Int) (ks : List Ix) (h : Det Tryz.prog 12 [.lst 2 (Ix.pvL ks), .lst 2 (Ix.pvL ks)] (.bool true)) : Det Tryz.prog 17 [Ix.ag n ks, Ix.ag n ks] (.bool true) := by
  refine det_of_vc' (E := S.E 0) rfl fol Tryz.func17 rfl rfl (slots := [4]) rfl rfl fun hw => ?_
  set_option smartUnfolding false in conv => whnf
  refine br_intro (fun h2 => ?_) (fun h2 => ?_) <;> set_option smartUnfolding false in conv => whnf
  · refine acall_det (ps := [.lst 2 (Ix.pvL ks), .lst 2 (Ix.pvL ks)]) h ?_
    set_option smartUnfolding false in conv => whnf
    exact rdB rfl
  · simp at h2
theorem samIs_of (ks : List Ix) (ih : ∀ v ∈ ks, Det Tryz.prog 17 [v.pv, v.pv] (.bool true)) : Det Tryz.prog 12 [.lst 2 (Ix.pvL ks), .lst 2 (Ix.pvL ks)] (.bool true) := by
  refine det_of_vc' (E := S.E 0) rfl fol Tryz.func12 rfl rfl (slots := [4]) rfl rfl fun hw => ?_
  have hl : ks.length ≤ 9223372036854775807 := by have := hw.1.1; rwa [Ix.pvL_len] at this
  set_option smartUnfolding false in conv => whnf
  refine br_intro (fun h => ?_) (fun h => ?_) <;> set_option smartUnfolding false in conv => whnf
  · simp at h
  refine vloop_intro (σ := Nat) (fun i => i ≤ ks.length)
    (fun i => [(0, .pv (.lst 2 (Ix.pvL ks))), (1, .pv (.lst 2 (Ix.pvL ks))), (12, .pv (.int .i64 (Ix.pvL ks).length)), (13, .pv (.int .i64 i))])
    (fun _ => []) (fun i => ks.length - i) 0 (Nat.zero_le _) (weak_bare rfl ⟨(by kernel_rfl), (by kernel_rfl), (by kernel_rfl), (by kernel_rfl), trivial⟩) ?_
  rintro i hi
  set_option smartUnfolding false in conv => whnf
  refine br_intro (fun h => ?_) (fun h => ?_) <;> set_option smartUnfolding false in conv => whnf
  · replace h : i < ks.length := by have := dT h; rw [Ix.pvL_len] at this; simpa using this
    obtain ⟨⟨n1, ks1⟩, hv, hg, _, hd⟩ := Ix.get_pvL h
    have hih := ih _ hv
    rw [Ix.pv_mk] at hg hih
    refine ⟨Ix.ag n1 ks1, ⟨by simp, by simpa using hg⟩, ?_⟩
    set_option smartUnfolding false in conv => whnf
    refine ⟨Ix.ag n1 ks1, ⟨by simp, by simpa using hg⟩, ?_⟩
    set_option smartUnfolding false in conv => whnf
    refine acall_det (ps := [Ix.ag n1 ks1, Ix.ag n1 ks1]) hih ?_
    set_option smartUnfolding false in conv => whnf
    exact ⟨i + 1, h, weak_bare rfl ⟨(by kernel_rfl), (by kernel_rfl), (by kernel_rfl), sUp h hl, trivial⟩, subUp h⟩
  · exact rdB rfl
theorem samI_self (v : Ix) : Det Tryz.prog 17 [v.pv, v.pv] (.bool true) := by
  refine Ix.recOn' (p := fun v => Det Tryz.prog 17 [v.pv, v.pv] (.bool true)) (fun n ks ih => ?_) v
  rw [Ix.pv_mk]
  exact samI_of n ks (samIs_of ks ih)
theorem samIs_self (ks : List Ix) : Det Tryz.prog 12 [.lst 2 (Ix.pvL ks), .lst 2 (Ix.pvL ks)] (.bool true) := samIs_of ks fun v _ => samI_self v
end Go.AM

set_option linter.all false
set_option maxRecDepth 20000
set_option maxHeartbeats 4000000
namespace Go.AM
open Go.Proofs

/-! ### keep.Data -/
def keepCs : List Cn → Bool
  | [] => true
  | c :: l => (decide (c.name.size ≤ 40) && decide (c.args.length ≤ 8) && (V.valL c.args 20).1) && keepCs l
def keepDs : List Dt → Bool
  | [] => true
  | d :: l => (decide (d.name.size ≤ 40) && decide (d.cons.length ≤ 10) && keepCs d.cons) && keepDs l
def keepD (D : List Dt) : Bool := decide (D.length ≤ 14) && keepDs D
theorem keepCs_nil : keepCs [] = true := rfl
theorem keepCs_cons (c : Cn) (l : List Cn) : keepCs (c :: l) = ((decide (c.name.size ≤ 40) && decide (c.args.length ≤ 8) && (V.valL c.args 20).1) && keepCs l) := rfl
theorem keepDs_nil : keepDs [] = true := rfl
theorem keepDs_cons (d : Dt) (l : List Dt) : keepDs (d :: l) = ((decide (d.name.size ≤ 40) && decide (d.cons.length ≤ 10) && keepCs d.cons) && keepDs l) := rfl
attribute [irreducible] keepCs keepDs

theorem keepData_det (D : List Dt) : Det Tryz.prog 24 [.lst 3 (Dt.pvL D)] (.bool (keepD D)) := by
  generalize hR : keepD D = R
  unfold keepD at hR
  refine det_of_vc' (E := S.E 0) rfl fol Tryz.func24 rfl rfl (slots := [2]) rfl rfl fun hw => ?_
  set_option smartUnfolding false in conv => whnf
  refine br_intro (fun h0 => ?_) (fun h0 => ?_) <;> set_option smartUnfolding false in conv => whnf
  · have h0 := dT h0
    rw [Dt.pvL_len] at h0
    exact rdB (by rw [← hR, decide_eq_false (by omega)]; rfl)
  have h0 := dF h0
  rw [Dt.pvL_len] at h0
  rw [decide_eq_true (by omega), Bool.true_and] at hR
  refine vloop_intro (σ := Nat) (fun i => i ≤ D.length ∧ keepDs (D.drop i) = R) (fun i => [(13, .pv (.lst 3 (Dt.pvL D))), (14, .pv (.int .i64 (Dt.pvL D).length)), (15, .pv (.int .i64 i))]) (fun _ => []) (fun i => D.length - i) 0 ⟨by simp, by simpa using hR⟩ (weak_bare rfl ⟨(by kernel_rfl), (by kernel_rfl), (by kernel_rfl), trivial⟩) ?_
  rintro i ⟨hi, hs⟩
  set_option smartUnfolding false in conv => whnf
  refine br_intro (fun h => ?_) (fun h => ?_) <;> set_option smartUnfolding false in conv => whnf
  rotate_left
  · replace h : D.length ≤ i := by have := dF h; rw [Dt.pvL_len] at this; omega
    rw [List.drop_of_length_le h, keepDs_nil] at hs
    exact rdB hs
  replace h : i < D.length := by have := dT h; rw [Dt.pvL_len] at this; omega
  refine Dt.get_elim h fun nm vs cs hmem hg hg2 hd => ?_
  rw [hd, keepDs_cons] at hs
  simp only at hs
  refine ⟨Dt.ag nm vs cs, ⟨by omega, by simpa using hg⟩, ?_⟩
  set_option smartUnfolding false in conv => whnf
  refine br_intro (fun g => ?_) (fun g => ?_) <;> set_option smartUnfolding false in conv => whnf
  · have g := dT g
    exact rdB (by rw [← hs, decide_eq_false (by omega)]; rfl)
  have g1 := dF g
  refine br_intro (fun g => ?_) (fun g => ?_) <;> set_option smartUnfolding false in conv => whnf
  · have g := dT g
    rw [Cn.pvL_len] at g
    exact rdB (by rw [← hs, decide_eq_false (p := cs.length ≤ 10) (by omega)]; simp)
  have g2 := dF g
  rw [Cn.pvL_len] at g2
  rw [decide_eq_true (by omega), decide_eq_true (p := cs.length ≤ 10) (by omega), Bool.true_and, Bool.true_and] at hs
  refine vloop_intro (σ := Nat) (fun j => j ≤ cs.length ∧ (keepCs (cs.drop j) && keepDs (D.drop (i + 1))) = R) (fun j => [(13, .pv (.lst 3 (Dt.pvL D))), (14, .pv (.int .i64 (Dt.pvL D).length)), (15, .pv (.int .i64 i)), (30, .pv (.lst 2 (Cn.pvL cs))), (31, .pv (.int .i64 (Cn.pvL cs).length)), (32, .pv (.int .i64 j))]) (fun _ => []) (fun j => cs.length - j) 0 ⟨by simp, by simpa using hs⟩ (weak_bare rfl ⟨(by kernel_rfl), (by kernel_rfl), (by kernel_rfl), (by kernel_rfl), (by kernel_rfl), (by kernel_rfl), trivial⟩) ?_
  rintro j ⟨hj, hs2⟩
  set_option smartUnfolding false in conv => whnf
  refine br_intro (fun h' => ?_) (fun h' => ?_) <;> set_option smartUnfolding false in conv => whnf
  rotate_left
  · replace h' : cs.length ≤ j := by have := dF h'; rw [Cn.pvL_len] at this; omega
    rw [List.drop_of_length_le h', keepCs_nil, Bool.true_and] at hs2
    exact ⟨i + 1, ⟨h, hs2⟩, weak_bare rfl ⟨(by kernel_rfl), (by kernel_rfl), sUp h (by omega), trivial⟩, subUp h⟩
  replace h' : j < cs.length := by have := dT h'; rw [Cn.pvL_len] at this; omega
  refine Cn.get_elim h' fun cn cas hcm hcg hcg2 hcd => ?_
  rw [hcd, keepCs_cons] at hs2
  simp only at hs2
  refine ⟨Cn.ag cn cas, ⟨by omega, by simpa using hcg⟩, ?_⟩
  set_option smartUnfolding false in conv => whnf
  refine br_intro (fun g => ?_) (fun g => ?_) <;> set_option smartUnfolding false in conv => whnf
  · have g := dT g
    exact rdB (by rw [← hs2, decide_eq_false (by omega)]; rfl)
  have g3 := dF g
  refine br_intro (fun g => ?_) (fun g => ?_) <;> set_option smartUnfolding false in conv => whnf
  · have g := dT g
    rw [V.pvL_len] at g
    exact rdB (by rw [← hs2, decide_eq_false (p := cas.length ≤ 8) (by omega)]; simp)
  have g4 := dF g
  rw [V.pvL_len] at g4
  rw [decide_eq_true (by omega), decide_eq_true (p := cas.length ≤ 8) (by omega), Bool.true_and, Bool.true_and] at hs2
  refine vloop_intro (σ := Nat × Int) (fun x => x.1 ≤ cas.length ∧ ((V.valL (cas.drop x.1) x.2).1 && keepCs (cs.drop (j + 1)) && keepDs (D.drop (i + 1))) = R) (fun x => [(7, .bp 0 0), (13, .pv (.lst 3 (Dt.pvL D))), (14, .pv (.int .i64 (Dt.pvL D).length)), (15, .pv (.int .i64 i)), (30, .pv (.lst 2 (Cn.pvL cs))), (31, .pv (.int .i64 (Cn.pvL cs).length)), (32, .pv (.int .i64 j)), (47, .pv (.lst 3 (V.pvL cas))), (48, .pv (.int .i64 (V.pvL cas).length)), (49, .pv (.int .i64 x.1))]) (fun x => [.box 3 [.pv (.int .i64 x.2)]]) (fun x => cas.length - x.1) (0, 20) ⟨by simp, by simpa using hs2⟩ (weak_ren [1] 2 (by kernel_rfl) (blk (by kernel_rfl) trivial) ⟨(by kernel_rfl), (by kernel_rfl), (by kernel_rfl), (by kernel_rfl), (by kernel_rfl), (by kernel_rfl), (by kernel_rfl), (by kernel_rfl), (by kernel_rfl), (by kernel_rfl), trivial⟩) ?_
  rintro ⟨m, s⟩ ⟨hm, hs3⟩
  simp only at hm hs3
  set_option smartUnfolding false in conv => whnf
  refine br_intro (fun h2 => ?_) (fun h2 => ?_) <;> set_option smartUnfolding false in conv => whnf
  rotate_left
  · replace h2 : cas.length ≤ m := by have := dF h2; rw [V.pvL_len] at this; simp only at this; omega
    rw [List.drop_of_length_le h2, V.valL_nil] at hs3
    simp only [Bool.true_and] at hs3
    exact ⟨j + 1, ⟨h', hs3⟩, weak_bare rfl ⟨(by kernel_rfl), (by kernel_rfl), (by kernel_rfl), (by kernel_rfl), (by kernel_rfl), sUp h' (by omega), trivial⟩, subUp h'⟩
  replace h2 : m < cas.length := by have := dT h2; rw [V.pvL_len] at this; simp only at this; omega
  refine V.get_elim h2 fun k' n' ts' hv hge hg0 hde => ?_
  rw [hde, V.valL_cons] at hs3
  have ht := typ_hdet (.mk k' n' ts') s
  rw [V.pv_mk] at ht
  refine ⟨V.ag k' n' ts', ⟨(by first | omega | (simp only; omega)), by simpa using hge⟩, ?_⟩
  set_option smartUnfolding false in conv => whnf
  refine acall_hdet ht [0] 2 rfl rfl ⟨rfl, trivial⟩ ?_
  set_option smartUnfolding false in conv => whnf
  refine br_intro (fun g => ?_) (fun g => ?_) <;> set_option smartUnfolding false in conv => whnf
  · have g : ((V.mk k' n' ts').val s).1 = false := by simpa using g
    cases hx : (V.mk k' n' ts').val s with
    | mk b n2 =>
      rw [hx] at g hs3
      simp only at g
      subst g
      exact rdB hs3
  · have g : ((V.mk k' n' ts').val s).1 = true := by simpa using g
    cases hx : (V.mk k' n' ts').val s with
    | mk b n2 =>
      rw [hx] at g hs3
      simp only at g
      subst g
      simp only at hs3
      exact ⟨(m + 1, n2), ⟨h2, hs3⟩, weak_ren [0] 2 (by kernel_rfl) (blk (by kernel_rfl) trivial) ⟨(by kernel_rfl), (by kernel_rfl), (by kernel_rfl), (by kernel_rfl), (by kernel_rfl), (by kernel_rfl), (by kernel_rfl), (by kernel_rfl), (by kernel_rfl), sUp h2 (by omega), trivial⟩, by show cas.length - (m + 1) < cas.length - m; omega⟩

theorem keepCs_mem : ∀ {l : List Cn} {c : Cn}, keepCs l = true → c ∈ l → c.name.size ≤ 40 ∧ c.args.length ≤ 8 ∧ (V.valL c.args 20).1 = true
  | [], c, _, h => by simp at h
  | y :: l, c, h, hc => by
    rw [keepCs_cons] at h
    simp only [Bool.and_eq_true, decide_eq_true_eq] at h
    rcases List.mem_cons.1 hc with rfl | hc
    · exact ⟨h.1.1.1, h.1.1.2, h.1.2⟩
    · exact keepCs_mem h.2 hc
theorem keepDs_mem : ∀ {l : List Dt} {d : Dt}, keepDs l = true → d ∈ l → d.name.size ≤ 40 ∧ d.cons.length ≤ 10 ∧ keepCs d.cons = true
  | [], d, _, h => by simp at h
  | y :: l, d, h, hd => by
    rw [keepDs_cons] at h
    simp only [Bool.and_eq_true, decide_eq_true_eq] at h
    rcases List.mem_cons.1 hd with rfl | hd
    · exact ⟨h.1.1.1, h.1.1.2, h.1.2⟩
    · exact keepDs_mem h.2 hd
theorem keepD_ok {D : List Dt} (h : keepD D = true) : DOK D ∧ DN D := by
  unfold keepD at h
  simp only [Bool.and_eq_true, decide_eq_true_eq] at h
  refine ⟨⟨by omega, fun d hd => by have := keepDs_mem h.2 hd; omega, fun d hd c hc => ?_, fun d hd c hc a ha => ?_⟩, ⟨fun d hd => by have := keepDs_mem h.2 hd; omega, fun d hd c hc => ?_⟩⟩
  · have := keepCs_mem (keepDs_mem h.2 hd).2.2 hc; omega
  · have h3 := (keepCs_mem (keepDs_mem h.2 hd).2.2 hc).2.2
    have := (V.valL_spec c.args 20 (by omega) (by omega)).1 h3
    have := V.cnt_mem ha
    omega
  · have := keepCs_mem (keepDs_mem h.2 hd).2.2 hc; omega
end Go.AM

set_option linter.all false
set_option maxRecDepth 20000
set_option maxHeartbeats 4000000
namespace Go.AM
open Go.Proofs

theorem keepT_cntU {v : V} (h : (v.val 250).1 = true) : v.cnt ≤ 250 := by
  have := (V.val_spec v 250 (by omega) (by omega)).1 h; omega
theorem small18_det (D : List Dt) (t : V) : Det Tryz.prog 8 [.lst 3 (Dt.pvL D), t.pv] (.bool (keepD D && (t.val 250).1)) := by
  have k1 := keepData_det D
  have k3 := keepT_det t
  generalize keepD D = b1 at k1
  generalize (t.val 250).1 = b3 at k3
  obtain ⟨tk, tn, ts⟩ := t
  rw [V.pv_mk] at k3 ⊢
  refine det_of_vc' (E := S.E 0) rfl fol Tryz.func8 rfl rfl (slots := [4]) rfl rfl fun hw => ?_
  set_option smartUnfolding false in conv => whnf
  refine acall_det (ps := [.lst 3 (Dt.pvL D)]) k1 ?_
  set_option smartUnfolding false in conv => whnf
  refine br_intro (fun h1 => ?_) (fun h1 => ?_) <;> set_option smartUnfolding false in conv => whnf
  · refine acall_det (ps := [V.ag tk tn ts]) k3 ?_
    set_option smartUnfolding false in conv => whnf
    exact rdB (by rw [h1]; simp)
  · exact rdB (by rw [h1]; simp)

/-! ### Tuple, both -/
def Ix.kids : Ix → List Ix | .mk _ ks => ks
def V.kd : V → Int | .mk k _ _ => k
noncomputable def tupS (D : List Dt) (t : V) (i : Ix) : Int × List Ix := if 0 ≤ degS D t i then (if t.kd = 6 then (0, i.kids) else (6, [])) else (1, [])
def tupP (x : Int × List Ix) : PV := .tuple [.lst 2 (Ix.pvL x.2), .int .i64 x.1]
theorem tuple_det {D : List Dt} (hD : DOK D) (hN : DN D) (t : V) (i : Ix) (hc : i.cnt ≤ 1000000) : Det Tryz.prog 10 [.lst 3 (Dt.pvL D), t.pv, i.pv] (tupP (tupS D t i)) := by
  have h1 := iValid_det hD hN t i
  have h2 : ∀ n ks, i = .mk n ks → Det Tryz.prog 28 [.lst 2 (Ix.pvL ks)] (.lst 2 (Ix.pvL ks)) := fun n ks h => uclones_det ks (by rw [h, Ix.cnt_mk] at hc; omega)
  generalize hS : tupS D t i = r
  unfold tupS at hS
  by_cases hg : 0 ≤ degS D t i
  · rw [if_pos hg] at hS
    rw [decide_eq_true hg] at h1
    obtain ⟨tk, tn, ts⟩ := t
    obtain ⟨n, ks⟩ := i
    replace hS : (if tk = 6 then ((0 : Int), ks) else ((6 : Int), ([] : List Ix))) = r := hS
    rw [V.pv_mk, Ix.pv_mk] at h1
    rw [V.pv_mk, Ix.pv_mk]
    refine det_of_vc' (E := S.E 0) rfl fol Tryz.func10 rfl rfl (slots := [6, 7]) rfl rfl fun hw => ?_
    set_option smartUnfolding false in conv => whnf
    refine acall_det (ps := [.lst 3 (Dt.pvL D), V.ag tk tn ts, Ix.ag n ks]) h1 ?_
    set_option smartUnfolding false in conv => whnf
    refine br_intro (fun g => ?_) (fun g => ?_) <;> set_option smartUnfolding false in conv => whnf
    · have g : ¬ tk = 6 := by simpa using g
      rw [if_neg g] at hS
      subst hS
      exact .le (.tuple (.cons (by unfold Ix.pvL; exact .nils 2) (.cons (.refl _) .nil)))
    · have g : tk = 6 := by simpa using g
      rw [if_pos g] at hS
      subst hS
      refine acall_det (ps := [.lst 2 (Ix.pvL ks)]) (h2 n ks rfl) ?_
      set_option smartUnfolding false in conv => whnf
      exact rdP (.refl _)
  · rw [if_neg hg] at hS
    rw [decide_eq_false hg] at h1
    subst hS
    obtain ⟨tk, tn, ts⟩ := t
    obtain ⟨n, ks⟩ := i
    rw [V.pv_mk, Ix.pv_mk] at h1
    rw [V.pv_mk, Ix.pv_mk]
    refine det_of_vc' (E := S.E 0) rfl fol Tryz.func10 rfl rfl (slots := [6, 7]) rfl rfl fun hw => ?_
    set_option smartUnfolding false in conv => whnf
    refine acall_det (ps := [.lst 3 (Dt.pvL D), V.ag tk tn ts, Ix.ag n ks]) h1 ?_
    set_option smartUnfolding false in conv => whnf
    exact .le (.tuple (.cons (by unfold Ix.pvL; exact .nils 2) (.cons (.refl _) .nil)))
theorem rtuple_det {D : List Dt} (hD : DOK D) (hN : DN D) (t : V) (ht : t.cnt ≤ 1000000) (i : Ix) (hc : i.cnt ≤ 1000000) : Det Tryz.prog 11 [.lst 3 (Dt.pvL D), t.pv, i.pv] (tupP (tupS D t i)) := by
  have h1 := rIValid_det hD hN t ht i
  have h2 : ∀ n ks, i = .mk n ks → Det Tryz.prog 30 [Ix.ag n ks] (Ix.ag n ks) := fun n ks h => by rw [h] at hc; have := copy17_det (.mk n ks) hc; rwa [Ix.pv_mk] at this
  generalize hS : tupS D t i = r
  unfold tupS at hS
  by_cases hg : 0 ≤ degS D t i
  · rw [if_pos hg] at hS
    rw [decide_eq_true hg] at h1
    obtain ⟨tk, tn, ts⟩ := t
    obtain ⟨n, ks⟩ := i
    replace hS : (if tk = 6 then ((0 : Int), ks) else ((6 : Int), ([] : List Ix))) = r := hS
    rw [V.pv_mk, Ix.pv_mk] at h1
    rw [V.pv_mk, Ix.pv_mk]
    refine det_of_vc' (E := S.E 0) rfl fol Tryz.func11 rfl rfl (slots := [6, 7]) rfl rfl fun hw => ?_
    set_option smartUnfolding false in conv => whnf
    refine acall_det (ps := [.lst 3 (Dt.pvL D), V.ag tk tn ts, Ix.ag n ks]) h1 ?_
    set_option smartUnfolding false in conv => whnf
    refine br_intro (fun g => ?_) (fun g => ?_) <;> set_option smartUnfolding false in conv => whnf
    · have g : ¬ tk = 6 := by simpa using g
      rw [if_neg g] at hS
      subst hS
      exact .le (.tuple (.cons (by unfold Ix.pvL; exact .nils 2) (.cons (.refl _) .nil)))
    · have g : tk = 6 := by simpa using g
      rw [if_pos g] at hS
      subst hS
      refine acall_det (ps := [Ix.ag n ks]) (h2 n ks rfl) ?_
      set_option smartUnfolding false in conv => whnf
      exact rdP (.refl _)
  · rw [if_neg hg] at hS
    rw [decide_eq_false hg] at h1
    subst hS
    obtain ⟨tk, tn, ts⟩ := t
    obtain ⟨n, ks⟩ := i
    rw [V.pv_mk, Ix.pv_mk] at h1
    rw [V.pv_mk, Ix.pv_mk]
    refine det_of_vc' (E := S.E 0) rfl fol Tryz.func11 rfl rfl (slots := [6, 7]) rfl rfl fun hw => ?_
    set_option smartUnfolding false in conv => whnf
    refine acall_det (ps := [.lst 3 (Dt.pvL D), V.ag tk tn ts, Ix.ag n ks]) h1 ?_
    set_option smartUnfolding false in conv => whnf
    exact .le (.tuple (.cons (by unfold Ix.pvL; exact .nils 2) (.cons (.refl _) .nil)))
theorem unfoldTuples_det (D : List Dt) (t : V) (i : Ix) : Det Tryz.prog 3 [.lst 3 (Dt.pvL D), t.pv, i.pv] (.bool true) := by
  have k1 := small18_det D t
  have k2 := keepI_det i
  have p1 := fun (h : keepD D = true) (hc : (i.val 40).1 = true) => tuple_det (keepD_ok h).1 (keepD_ok h).2 t i (by have := keepI_cnt hc; omega)
  have p2 := fun (h : keepD D = true) (h2 : (t.val 250).1 = true) (hc : (i.val 40).1 = true) => rtuple_det (keepD_ok h).1 (keepD_ok h).2 t (by have := keepT_cntU h2; omega) i (by have := keepI_cnt hc; omega)
  generalize tupS D t i = r at p1 p2
  obtain ⟨e, L⟩ := r
  unfold tupP at p1 p2
  have p3 := samIs_self L
  generalize hb : (keepD D && (t.val 250).1) = b1 at k1
  generalize (i.val 40).1 = b2 at k2 p1 p2
  obtain ⟨tk, tn, ts⟩ := t
  obtain ⟨n, ks⟩ := i
  rw [V.pv_mk] at k1 p1 p2
  rw [Ix.pv_mk] at k2 p1 p2
  rw [V.pv_mk, Ix.pv_mk]
  refine det_of_vc' (E := S.E 0) rfl fol Tryz.func3 rfl rfl (slots := [6]) rfl rfl fun hw => ?_
  set_option smartUnfolding false in conv => whnf
  refine acall_det (ps := [.lst 3 (Dt.pvL D), V.ag tk tn ts]) k1 ?_
  set_option smartUnfolding false in conv => whnf
  refine br_intro (fun h1 => ?_) (fun h1 => ?_) <;> set_option smartUnfolding false in conv => whnf
  · exact rdB rfl
  have h1 : b1 = true := by simpa using h1
  rw [h1] at hb
  simp only [Bool.and_eq_true] at hb
  refine acall_det (ps := [Ix.ag n ks]) k2 ?_
  set_option smartUnfolding false in conv => whnf
  refine br_intro (fun h2 => ?_) (fun h2 => ?_) <;> set_option smartUnfolding false in conv => whnf
  · exact rdB rfl
  have h2 : b2 = true := by simpa using h2
  refine acall_det (ps := [.lst 3 (Dt.pvL D), V.ag tk tn ts, Ix.ag n ks]) (p1 hb.1 h2) ?_
  set_option smartUnfolding false in conv => whnf
  refine acall_det (ps := [.lst 3 (Dt.pvL D), V.ag tk tn ts, Ix.ag n ks]) (p2 hb.1 hb.2 h2) ?_
  set_option smartUnfolding false in conv => whnf
  refine br_intro (fun h4 => ?_) (fun h4 => ?_) <;> set_option smartUnfolding false in conv => whnf
  · refine acall_det (ps := [.lst 2 (Ix.pvL L), .lst 2 (Ix.pvL L)]) p3 ?_
    set_option smartUnfolding false in conv => whnf
    refine acall_det (ps := []) awake18_det ?_
    set_option smartUnfolding false in conv => whnf
    exact rdB rfl
  · have := dF h4; exact absurd rfl this
end Go.AM
