import Derived.Test.YtfkkfgeepiopaaaGreatDatT
set_option linter.all false
set_option maxRecDepth 20000
set_option maxHeartbeats 2000000
namespace Go.AM
open Go.Proofs

/-! ### core.Valid, of data types alone -/
def coreP (D : List Dt) : PV := .agg [.lst 3 (Dt.pvL D), .nils, .nils, .nils]
def progC (D : List Dt) : List PV := [.lst 3 (Dt.pvL D), .nils, .nils, .nils, .lst 1 [], .lst 1 [], .lst 1 [], .nils]

theorem allT_nil (g : Nat) (caps : List PV) : Det Tryz.prog 41 [.nils, .fn g caps] (.bool true) := by
  have h := (hasT_det [] 59 [.cp [.fn g caps]] (fun _ => false) (by simp)).le (ps := [.nils, .fn 59 [.cp [.fn g caps]]]) (.cons (by rw [V.pvL_nil]; exact .nils 3) (.cons (.refl _) .nil))
  refine det_of_vc' (E := S.E 0) rfl fol Tryz.func41 rfl rfl (slots := [4]) rfl rfl fun hw => ?_
  set_option smartUnfolding false in conv => whnf
  refine acall_intro (adet_read (S := [0]) h (.cons (.pv _) (.cons (.fn (.cons (.bp (.head _) rfl (.cons (.pv _) .nil)) .nil)) .nil)) rfl) ?_
  set_option smartUnfolding false in conv => whnf
  exact rdB rfl

theorem codes_det (D : List Dt) : Det Tryz.prog 43 [.cp (progC D)] (.bool true) := by
  unfold progC
  refine det_of_vc' (E := S.E 0) rfl fol Tryz.func43 rfl rfl (slots := [2]) rfl rfl fun hw => ?_
  set_option smartUnfolding false in conv => whnf
  refine vloop_intro (σ := Unit) (fun _ => True) (fun _ => [(13, .pv (.int .i64 0)), (14, .pv (.int .i64 0))]) (fun _ => []) (fun _ => 0) () trivial (weak_bare rfl ⟨(by kernel_rfl), (by kernel_rfl), trivial⟩) ?_
  rintro ⟨⟩ _
  set_option smartUnfolding false in conv => whnf
  exact rdB rfl

theorem forest_det (D : List Dt) : Det Tryz.prog 44 [.cp (progC D)] (.bool true) := by
  unfold progC
  refine det_of_vc' (E := S.E 0) rfl fol Tryz.func44 rfl rfl (slots := [2]) rfl rfl fun hw => ?_
  set_option smartUnfolding false in conv => whnf
  refine vloop_intro (σ := Unit) (fun _ => True) (fun _ => [(0, .pv (.cp (progC D))), (14, .pv (.int .i64 0)), (15, .pv (.int .i64 0))]) (fun _ => []) (fun _ => 0) () trivial (weak_bare rfl ⟨(by kernel_rfl), (by kernel_rfl), (by kernel_rfl), trivial⟩) ?_
  rintro ⟨⟩ _
  set_option smartUnfolding false in conv => whnf
  refine vloop_intro (σ := Unit) (fun _ => True) (fun _ => [(0, .pv (.cp (progC D))), (36, .pv (.int .i64 0)), (37, .pv (.int .i64 0))]) (fun _ => []) (fun _ => 0) () trivial (weak_bare rfl ⟨(by kernel_rfl), (by kernel_rfl), (by kernel_rfl), trivial⟩) ?_
  rintro ⟨⟩ _
  set_option smartUnfolding false in conv => whnf
  refine vloop_intro (σ := Unit) (fun _ => True) (fun _ => [(0, .pv (.cp (progC D))), (65, .pv (.int .i64 0)), (66, .pv (.int .i64 0))]) (fun _ => []) (fun _ => 0) () trivial (weak_bare rfl ⟨(by kernel_rfl), (by kernel_rfl), (by kernel_rfl), trivial⟩) ?_
  rintro ⟨⟩ _
  set_option smartUnfolding false in conv => whnf
  exact rdB rfl

theorem bound_det (D : List Dt) : Det Tryz.prog 45 [.cp (progC D)] (.bool true) := by
  unfold progC
  refine det_of_vc' (E := S.E 0) rfl fol Tryz.func45 rfl rfl (slots := [2]) rfl rfl fun hw => ?_
  set_option smartUnfolding false in conv => whnf
  refine ⟨⟨by decide, by decide, by decide, by decide⟩, ?_⟩
  set_option smartUnfolding false in conv => whnf
  refine vloop_intro (σ := Unit) (fun _ => True) (fun _ => [(0, .pv (.cp (progC D))), (4, .bp 0 0), (23, .pv (.int .i64 0)), (24, .pv (.int .i64 0))]) (fun _ => [.box 3 [.pv (.int .i64 0)]]) (fun _ => 0) () trivial (weak_ren [2] 4 (by kernel_rfl) (blk (by kernel_rfl) trivial) ⟨(by kernel_rfl), (by kernel_rfl), (by kernel_rfl), (by kernel_rfl), trivial⟩) ?_
  rintro ⟨⟩ _
  set_option smartUnfolding false in conv => whnf
  refine vloop_intro (σ := Unit) (fun _ => True) (fun _ => [(0, .pv (.cp (progC D))), (4, .bp 0 0), (46, .pv (.int .i64 0)), (47, .pv (.int .i64 0))]) (fun _ => [.box 3 [.pv (.int .i64 0)]]) (fun _ => 0) () trivial (weak_ren [0] 1 (by kernel_rfl) (blk (by kernel_rfl) trivial) ⟨(by kernel_rfl), (by kernel_rfl), (by kernel_rfl), (by kernel_rfl), trivial⟩) ?_
  rintro ⟨⟩ _
  set_option smartUnfolding false in conv => whnf
  exact rdB rfl

def progH (D : List Dt) : Heap := [.box 71 [.pv (.lst 3 (Dt.pvL D)), .pv .nils, .pv .nils, .pv .nils, .row 1 0, .row 2 0, .row 3 0, .pv .nils], .row 3 1 [], .row 3 1 [], .row 3 1 []]
def progH' (D : List Dt) : Heap := [.box 71 [.pv (.lst 3 (Dt.pvL D)), .pv .nils, .pv .nils, .pv .nils, .row 1 0, .row 2 0, .row 3 0, .row 4 0], .row 3 1 [], .row 3 1 [], .row 3 1 [], .row 68 1 []]
theorem scopes_hdet (D : List Dt) : HDet Tryz.prog 46 [.bp 0 0] (progH D) (.pv (.tuple [])) (progH' D) := by
  refine hdet_of_vc' (E := S.E 4) fol Tryz.func46 rfl rfl (slots := []) rfl rfl ?_ ?_ ?_ fun hw => ?_
  · exact Nat.le_refl 4
  · exact ⟨rfl, trivial⟩
  · intro i
    match i with
    | 0 => exact ⟨trivial, trivial, trivial, trivial, rfl, rfl, rfl, trivial, trivial⟩
    | 1 => exact trivial
    | 2 => exact trivial
    | 3 => exact trivial
    | i + 4 => unfold progH; simp only [hget, hget_nil]; exact trivial
  unfold progH
  set_option smartUnfolding false in conv => whnf
  refine ⟨⟨by decide, by decide, by decide, by decide⟩, ?_⟩
  set_option smartUnfolding false in conv => whnf
  refine vloop_intro (σ := Unit) (fun _ => True) (fun _ => [(0, .bp 0 0), (23, .pv (.int .i64 0)), (24, .pv (.int .i64 0))]) (fun _ => progH' D) (fun _ => 0) () trivial (weak_ren [0, 1, 2, 3, 4] 5 (by kernel_rfl) (blk (by kernel_rfl) (blk (by kernel_rfl) (blk (by kernel_rfl) (blk (by kernel_rfl) (blk (by kernel_rfl) trivial))))) ⟨(by kernel_rfl), (by kernel_rfl), (by kernel_rfl), trivial⟩) ?_
  rintro ⟨⟩ _
  set_option smartUnfolding false in conv => whnf
  refine vloop_intro (σ := Unit) (fun _ => True) (fun _ => [(0, .bp 0 0), (47, .pv (.int .i64 0)), (48, .pv (.int .i64 0))]) (fun _ => progH' D) (fun _ => 0) () trivial (weak_ren [0, 1, 2, 3, 4] 5 (by kernel_rfl) (blk (by kernel_rfl) (blk (by kernel_rfl) (blk (by kernel_rfl) (blk (by kernel_rfl) (blk (by kernel_rfl) trivial))))) ⟨(by kernel_rfl), (by kernel_rfl), (by kernel_rfl), trivial⟩) ?_
  rintro ⟨⟩ _
  set_option smartUnfolding false in conv => whnf
  exact weak_ren [0, 1, 2, 3, 4] 5 (by kernel_rfl) (blk (by kernel_rfl) (blk (by kernel_rfl) (blk (by kernel_rfl) (blk (by kernel_rfl) (blk (by kernel_rfl) trivial))))) ⟨(by kernel_rfl), trivial⟩

theorem coreValid_det {D : List Dt} (hD : DOK D) (hN : DN D) : Det Tryz.prog 27 [coreP D] (.bool (dvalid D)) := by
  unfold coreP
  generalize hR : dvalid D = R
  have hv := validData_t hD hN
  rw [hR] at hv
  refine det_of_vc' (E := S.E 0) rfl fol Tryz.func27 rfl rfl (slots := [2]) rfl rfl fun hw => ?_
  set_option smartUnfolding false in conv => whnf
  refine acall_det (ps := [.lst 3 (Dt.pvL D)]) hv ?_
  set_option smartUnfolding false in conv => whnf
  refine br_intro (fun g => ?_) (fun g => ?_) <;> set_option smartUnfolding false in conv => whnf
  · exact rdB (by simpa using g.symm)
  have g : R = true := by simpa using g
  subst g
  refine acall_intro (adet_read (S := [0]) (allT_nil 42 [.cp [.lst 3 (Dt.pvL D), .nils, .nils, .nils]]) (.cons (.pv _) (.cons (.fn (.cons (.bp (.head _) rfl (.cons (.pv _) (.cons (.pv _) (.cons (.pv _) (.cons (.pv _) .nil))))) .nil)) .nil)) rfl) ?_
  set_option smartUnfolding false in conv => whnf
  refine ⟨⟨by decide, by decide, by decide, by decide⟩, ?_⟩
  set_option smartUnfolding false in conv => whnf
  refine ⟨⟨by decide, by decide, by decide, by decide⟩, ?_⟩
  set_option smartUnfolding false in conv => whnf
  refine ⟨⟨by decide, by decide, by decide, by decide⟩, ?_⟩
  set_option smartUnfolding false in conv => whnf
  refine acall_intro (adet_read (S := [4, 1, 2, 3]) (codes_det D) (.cons (.bp (ps := progC D) (.head _) rfl (.cons (.pv _) (.cons (.pv _) (.cons (.pv _) (.cons (.pv _) (.cons (.row (.tail _ (.head _)) rfl (Nat.le_refl 0) .nil) (.cons (.row (.tail _ (.tail _ (.head _))) rfl (Nat.le_refl 0) .nil) (.cons (.row (.tail _ (.tail _ (.tail _ (.head _)))) rfl (Nat.le_refl 0) .nil) (.cons (.pv _) .nil))))))))) .nil) rfl) ?_
  set_option smartUnfolding false in conv => whnf
  refine acall_intro (adet_read (S := [4, 1, 2, 3]) (forest_det D) (.cons (.bp (ps := progC D) (.head _) rfl (.cons (.pv _) (.cons (.pv _) (.cons (.pv _) (.cons (.pv _) (.cons (.row (.tail _ (.head _)) rfl (Nat.le_refl 0) .nil) (.cons (.row (.tail _ (.tail _ (.head _))) rfl (Nat.le_refl 0) .nil) (.cons (.row (.tail _ (.tail _ (.tail _ (.head _)))) rfl (Nat.le_refl 0) .nil) (.cons (.pv _) .nil))))))))) .nil) rfl) ?_
  set_option smartUnfolding false in conv => whnf
  refine acall_intro (adet_read (S := [4, 1, 2, 3]) (bound_det D) (.cons (.bp (ps := progC D) (.head _) rfl (.cons (.pv _) (.cons (.pv _) (.cons (.pv _) (.cons (.pv _) (.cons (.row (.tail _ (.head _)) rfl (Nat.le_refl 0) .nil) (.cons (.row (.tail _ (.tail _ (.head _))) rfl (Nat.le_refl 0) .nil) (.cons (.row (.tail _ (.tail _ (.tail _ (.head _)))) rfl (Nat.le_refl 0) .nil) (.cons (.pv _) .nil))))))))) .nil) rfl) ?_
  set_option smartUnfolding false in conv => whnf
  refine acall_hdet (scopes_hdet D) [4, 1, 2, 3] 5 rfl rfl ⟨rfl, rfl, rfl, rfl, trivial⟩ ?_
  set_option smartUnfolding false in conv => whnf
  refine vloop_intro (σ := Unit) (fun _ => True) (fun _ => [(1, .bp 0 0), (66, .pv (.int .i64 0)), (67, .pv (.int .i64 0))]) (fun _ => [.box 56 [.pv (.lst 3 (Dt.pvL D)), .pv .nils, .pv .nils, .pv .nils]]) (fun _ => 0) () trivial (weak_ren [0] 6 (by kernel_rfl) (blk (by kernel_rfl) trivial) ⟨(by kernel_rfl), (by kernel_rfl), (by kernel_rfl), trivial⟩) ?_
  rintro ⟨⟩ _
  set_option smartUnfolding false in conv => whnf
  refine vloop_intro (σ := Unit) (fun _ => True) (fun _ => [(77, .pv (.int .i64 0)), (78, .pv (.int .i64 0))]) (fun _ => []) (fun _ => 0) () trivial (weak_bare rfl ⟨(by kernel_rfl), (by kernel_rfl), trivial⟩) ?_
  rintro ⟨⟩ _
  set_option smartUnfolding false in conv => whnf
  exact rdB rfl

/-- value.known. -/
noncomputable def known (D : List Dt) (t : V) : Bool := dvalid D && V.okW D 0 t
theorem known_det {D : List Dt} (hD : DOK D) (hN : DN D) (t : V) : Det Tryz.prog 19 [.lst 3 (Dt.pvL D), t.pv] (.bool (known D t)) := by
  have h1 := coreValid_det hD hN
  have h2 := tValid_det D 0 t
  unfold coreP at h1
  obtain ⟨k, n, ts⟩ := t
  rw [V.pv_mk] at h2 ⊢
  unfold known
  refine det_of_vc' (E := S.E 0) rfl fol Tryz.func19 rfl rfl (slots := [4]) rfl rfl fun hw => ?_
  set_option smartUnfolding false in conv => whnf
  refine acall_det (ps := [.agg [.lst 3 (Dt.pvL D), .nils, .nils, .nils]]) h1 ?_
  set_option smartUnfolding false in conv => whnf
  refine br_intro (fun g => ?_) (fun g => ?_) <;> set_option smartUnfolding false in conv => whnf
  · refine acall_det (ps := [.lst 3 (Dt.pvL D), V.ag k n ts, .int .i64 0]) h2 ?_
    set_option smartUnfolding false in conv => whnf
    exact rdB (by rw [g]; rfl)
  · exact rdB (by rw [g]; rfl)
end Go.AM
