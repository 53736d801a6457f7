import Derived.Test.YtelmconnpdmjhaaGreatDoorPkI
set_option linter.all false
set_option maxRecDepth 20000
set_option maxHeartbeats 2000000
namespace Go.AM
open Go.Proofs

/-! ### core.Valid, of data types alone -/
def coreP (D : List Dt) : PV := .agg [.lst 3 (Dt.pvL D), .nils, .nils, .nils]
def progC (D : List Dt) : List PV := [.lst 3 (Dt.pvL D), .nils, .nils, .nils, .lst 1 [], .lst 1 [], .lst 1 [], .nils]

theorem allT_nil (g : Nat) (caps : List PV) : Det Tryz.prog 84 [.nils, .fn g caps] (.bool true) := by
  have h := (hasT_det [] 108 [.cp [.fn g caps]] (fun _ => false) (by simp)).le (ps := [.nils, .fn 108 [.cp [.fn g caps]]]) (.cons (by rw [V.pvL_nil]; exact .nils 3) (.cons (.refl _) .nil))
  refine det_of_vc' (E := S.E 0) rfl fol Tryz.func84 rfl rfl (slots := [4]) rfl rfl fun hw => ?_
  set_option smartUnfolding false in conv => whnf
  refine acall_intro (adet_read (S := [0]) h (.cons (.pv _) (.cons (.fn (.cons (.bp (.head _) rfl (.cons (.pv _) .nil)) .nil)) .nil)) rfl) ?_
  set_option smartUnfolding false in conv => whnf
  exact rdB rfl

theorem codes_det (D : List Dt) : Det Tryz.prog 86 [.cp (progC D)] (.bool true) := by
  unfold progC
  refine det_of_vc' (E := S.E 0) rfl fol Tryz.func86 rfl rfl (slots := [2]) rfl rfl fun hw => ?_
  set_option smartUnfolding false in conv => whnf
  refine vloop_intro (σ := Unit) (fun _ => True) (fun _ => [(13, .pv (.int .i64 0)), (14, .pv (.int .i64 0))]) (fun _ => []) (fun _ => 0) () trivial (weak_bare rfl ⟨(by kernel_rfl), (by kernel_rfl), trivial⟩) ?_
  rintro ⟨⟩ _
  set_option smartUnfolding false in conv => whnf
  exact rdB rfl

theorem forest_det (D : List Dt) : Det Tryz.prog 87 [.cp (progC D)] (.bool true) := by
  unfold progC
  refine det_of_vc' (E := S.E 0) rfl fol Tryz.func87 rfl rfl (slots := [2]) rfl rfl fun hw => ?_
  set_option smartUnfolding false in conv => whnf
  refine vloop_intro (σ := Unit) (fun _ => True) (fun _ => [(0, .pv (.cp (progC D))), (14, .pv (.int .i64 0)), (15, .pv (.int .i64 0))]) (fun _ => []) (fun _ => 0) () trivial (weak_bare rfl ⟨(by kernel_rfl), (by kernel_rfl), (by kernel_rfl), trivial⟩) ?_
  rintro ⟨⟩ _
  set_option smartUnfolding false in conv => whnf
  refine vloop_intro (σ := Unit) (fun _ => True) (fun _ => [(0, .pv (.cp (progC D))), (36, .pv (.int .i64 0)), (37, .pv (.int .i64 0))]) (fun _ => []) (fun _ => 0) () trivial (weak_bare rfl ⟨(by kernel_rfl), (by kernel_rfl), (by kernel_rfl), trivial⟩) ?_
  rintro ⟨⟩ _
  set_option smartUnfolding false in conv => whnf
  refine vloop_intro (σ := Unit) (fun _ => True) (fun _ => [(0, .pv (.cp (progC D))), (65, .pv (.int .i64 0)), (66, .pv (.int .i64 0))]) (fun _ => []) (fun _ => 0) () trivial (weak_bare rfl ⟨(by kernel_rfl), (by kernel_rfl), (by kernel_rfl), trivial⟩) ?_
  rintro ⟨⟩ _
  set_option smartUnfolding false in conv => whnf
  exact rdB rfl

theorem bound_det (D : List Dt) : Det Tryz.prog 88 [.cp (progC D)] (.bool true) := by
  unfold progC
  refine det_of_vc' (E := S.E 0) rfl fol Tryz.func88 rfl rfl (slots := [2]) rfl rfl fun hw => ?_
  set_option smartUnfolding false in conv => whnf
  refine ⟨⟨by decide, by decide, by decide, by decide⟩, ?_⟩
  set_option smartUnfolding false in conv => whnf
  refine vloop_intro (σ := Unit) (fun _ => True) (fun _ => [(0, .pv (.cp (progC D))), (4, .bp 0 0), (23, .pv (.int .i64 0)), (24, .pv (.int .i64 0))]) (fun _ => [.box 3 [.pv (.int .i64 0)]]) (fun _ => 0) () trivial (weak_ren [2] 4 (by kernel_rfl) (blk (by kernel_rfl) trivial) ⟨(by kernel_rfl), (by kernel_rfl), (by kernel_rfl), (by kernel_rfl), trivial⟩) ?_
  rintro ⟨⟩ _
  set_option smartUnfolding false in conv => whnf
  refine vloop_intro (σ := Unit) (fun _ => True) (fun _ => [(0, .pv (.cp (progC D))), (4, .bp 0 0), (46, .pv (.int .i64 0)), (47, .pv (.int .i64 0))]) (fun _ => [.box 3 [.pv (.int .i64 0)]]) (fun _ => 0) () trivial (weak_ren [0] 1 (by kernel_rfl) (blk (by kernel_rfl) trivial) ⟨(by kernel_rfl), (by kernel_rfl), (by kernel_rfl), (by kernel_rfl), trivial⟩) ?_
  rintro ⟨⟩ _
  set_option smartUnfolding false in conv => whnf
  exact rdB rfl

def progH (D : List Dt) : Heap := [.box 108 [.pv (.lst 3 (Dt.pvL D)), .pv .nils, .pv .nils, .pv .nils, .row 1 0, .row 2 0, .row 3 0, .pv .nils], .row 3 1 [], .row 3 1 [], .row 3 1 []]
def progH' (D : List Dt) : Heap := [.box 108 [.pv (.lst 3 (Dt.pvL D)), .pv .nils, .pv .nils, .pv .nils, .row 1 0, .row 2 0, .row 3 0, .row 4 0], .row 3 1 [], .row 3 1 [], .row 3 1 [], .row 105 1 []]
theorem scopes_hdet (D : List Dt) : HDet Tryz.prog 89 [.bp 0 0] (progH D) (.pv (.tuple [])) (progH' D) := by
  refine hdet_of_vc' (E := S.E 4) fol Tryz.func89 rfl rfl (slots := []) rfl rfl ?_ ?_ ?_ fun hw => ?_
  · exact Nat.le_refl 4
  · exact ⟨rfl, trivial⟩
  · intro i
    match i with
    | 0 => exact ⟨trivial, trivial, trivial, trivial, rfl, rfl, rfl, trivial, trivial⟩
    | 1 => exact trivial
    | 2 => exact trivial
    | 3 => exact trivial
    | i + 4 => unfold progH; simp only [hget, hget_nil]; exact trivial
  unfold progH
  set_option smartUnfolding false in conv => whnf
  refine ⟨⟨by decide, by decide, by decide, by decide⟩, ?_⟩
  set_option smartUnfolding false in conv => whnf
  refine vloop_intro (σ := Unit) (fun _ => True) (fun _ => [(0, .bp 0 0), (23, .pv (.int .i64 0)), (24, .pv (.int .i64 0))]) (fun _ => progH' D) (fun _ => 0) () trivial (weak_ren [0, 1, 2, 3, 4] 5 (by kernel_rfl) (blk (by kernel_rfl) (blk (by kernel_rfl) (blk (by kernel_rfl) (blk (by kernel_rfl) (blk (by kernel_rfl) trivial))))) ⟨(by kernel_rfl), (by kernel_rfl), (by kernel_rfl), trivial⟩) ?_
  rintro ⟨⟩ _
  set_option smartUnfolding false in conv => whnf
  refine vloop_intro (σ := Unit) (fun _ => True) (fun _ => [(0, .bp 0 0), (47, .pv (.int .i64 0)), (48, .pv (.int .i64 0))]) (fun _ => progH' D) (fun _ => 0) () trivial (weak_ren [0, 1, 2, 3, 4] 5 (by kernel_rfl) (blk (by kernel_rfl) (blk (by kernel_rfl) (blk (by kernel_rfl) (blk (by kernel_rfl) (blk (by kernel_rfl) trivial))))) ⟨(by kernel_rfl), (by kernel_rfl), (by kernel_rfl), trivial⟩) ?_
  rintro ⟨⟩ _
  set_option smartUnfolding false in conv => whnf
  exact weak_ren [0, 1, 2, 3, 4] 5 (by kernel_rfl) (blk (by kernel_rfl) (blk (by kernel_rfl) (blk (by kernel_rfl) (blk (by kernel_rfl) (blk (by kernel_rfl) trivial))))) ⟨(by kernel_rfl), trivial⟩

theorem coreValid_det {D : List Dt} (hD : DOK D) (hN : DN D) : Det Tryz.prog 52 [coreP D] (.bool (dvalid D)) := by
  unfold coreP
  generalize hR : dvalid D = R
  have hv := validData_t hD hN
  rw [hR] at hv
  refine det_of_vc' (E := S.E 0) rfl fol Tryz.func52 rfl rfl (slots := [2]) rfl rfl fun hw => ?_
  set_option smartUnfolding false in conv => whnf
  refine acall_det (ps := [.lst 3 (Dt.pvL D)]) hv ?_
  set_option smartUnfolding false in conv => whnf
  refine br_intro (fun g => ?_) (fun g => ?_) <;> set_option smartUnfolding false in conv => whnf
  · exact rdB (by simpa using g.symm)
  have g : R = true := by simpa using g
  subst g
  refine acall_intro (adet_read (S := [0]) (allT_nil 85 [.cp [.lst 3 (Dt.pvL D), .nils, .nils, .nils]]) (.cons (.pv _) (.cons (.fn (.cons (.bp (.head _) rfl (.cons (.pv _) (.cons (.pv _) (.cons (.pv _) (.cons (.pv _) .nil))))) .nil)) .nil)) rfl) ?_
  set_option smartUnfolding false in conv => whnf
  refine ⟨⟨by decide, by decide, by decide, by decide⟩, ?_⟩
  set_option smartUnfolding false in conv => whnf
  refine ⟨⟨by decide, by decide, by decide, by decide⟩, ?_⟩
  set_option smartUnfolding false in conv => whnf
  refine ⟨⟨by decide, by decide, by decide, by decide⟩, ?_⟩
  set_option smartUnfolding false in conv => whnf
  refine acall_intro (adet_read (S := [4, 1, 2, 3]) (codes_det D) (.cons (.bp (ps := progC D) (.head _) rfl (.cons (.pv _) (.cons (.pv _) (.cons (.pv _) (.cons (.pv _) (.cons (.row (.tail _ (.head _)) rfl (Nat.le_refl 0) .nil) (.cons (.row (.tail _ (.tail _ (.head _))) rfl (Nat.le_refl 0) .nil) (.cons (.row (.tail _ (.tail _ (.tail _ (.head _)))) rfl (Nat.le_refl 0) .nil) (.cons (.pv _) .nil))))))))) .nil) rfl) ?_
  set_option smartUnfolding false in conv => whnf
  refine acall_intro (adet_read (S := [4, 1, 2, 3]) (forest_det D) (.cons (.bp (ps := progC D) (.head _) rfl (.cons (.pv _) (.cons (.pv _) (.cons (.pv _) (.cons (.pv _) (.cons (.row (.tail _ (.head _)) rfl (Nat.le_refl 0) .nil) (.cons (.row (.tail _ (.tail _ (.head _))) rfl (Nat.le_refl 0) .nil) (.cons (.row (.tail _ (.tail _ (.tail _ (.head _)))) rfl (Nat.le_refl 0) .nil) (.cons (.pv _) .nil))))))))) .nil) rfl) ?_
  set_option smartUnfolding false in conv => whnf
  refine acall_intro (adet_read (S := [4, 1, 2, 3]) (bound_det D) (.cons (.bp (ps := progC D) (.head _) rfl (.cons (.pv _) (.cons (.pv _) (.cons (.pv _) (.cons (.pv _) (.cons (.row (.tail _ (.head _)) rfl (Nat.le_refl 0) .nil) (.cons (.row (.tail _ (.tail _ (.head _))) rfl (Nat.le_refl 0) .nil) (.cons (.row (.tail _ (.tail _ (.tail _ (.head _)))) rfl (Nat.le_refl 0) .nil) (.cons (.pv _) .nil))))))))) .nil) rfl) ?_
  set_option smartUnfolding false in conv => whnf
  refine acall_hdet (scopes_hdet D) [4, 1, 2, 3] 5 rfl rfl ⟨rfl, rfl, rfl, rfl, trivial⟩ ?_
  set_option smartUnfolding false in conv => whnf
  refine vloop_intro (σ := Unit) (fun _ => True) (fun _ => [(1, .bp 0 0), (66, .pv (.int .i64 0)), (67, .pv (.int .i64 0))]) (fun _ => [.box 77 [.pv (.lst 3 (Dt.pvL D)), .pv .nils, .pv .nils, .pv .nils]]) (fun _ => 0) () trivial (weak_ren [0] 6 (by kernel_rfl) (blk (by kernel_rfl) trivial) ⟨(by kernel_rfl), (by kernel_rfl), (by kernel_rfl), trivial⟩) ?_
  rintro ⟨⟩ _
  set_option smartUnfolding false in conv => whnf
  refine vloop_intro (σ := Unit) (fun _ => True) (fun _ => [(77, .pv (.int .i64 0)), (78, .pv (.int .i64 0))]) (fun _ => []) (fun _ => 0) () trivial (weak_bare rfl ⟨(by kernel_rfl), (by kernel_rfl), trivial⟩) ?_
  rintro ⟨⟩ _
  set_option smartUnfolding false in conv => whnf
  exact rdB rfl

/-- value.known. -/
noncomputable def known (D : List Dt) (t : V) : Bool := dvalid D && V.okW D 0 t
theorem known_det {D : List Dt} (hD : DOK D) (hN : DN D) (t : V) : Det Tryz.prog 30 [.lst 3 (Dt.pvL D), t.pv] (.bool (known D t)) := by
  have h1 := coreValid_det hD hN
  have h2 := tValid_det D 0 t
  unfold coreP at h1
  obtain ⟨k, n, ts⟩ := t
  rw [V.pv_mk] at h2 ⊢
  unfold known
  refine det_of_vc' (E := S.E 0) rfl fol Tryz.func30 rfl rfl (slots := [4]) rfl rfl fun hw => ?_
  set_option smartUnfolding false in conv => whnf
  refine acall_det (ps := [.agg [.lst 3 (Dt.pvL D), .nils, .nils, .nils]]) h1 ?_
  set_option smartUnfolding false in conv => whnf
  refine br_intro (fun g => ?_) (fun g => ?_) <;> set_option smartUnfolding false in conv => whnf
  · refine acall_det (ps := [.lst 3 (Dt.pvL D), V.ag k n ts, .int .i64 0]) h2 ?_
    set_option smartUnfolding false in conv => whnf
    exact rdB (by rw [g]; rfl)
  · exact rdB (by rw [g]; rfl)
end Go.AM

set_option linter.all false
set_option maxRecDepth 4000
set_option maxHeartbeats 2000000
namespace Go.AM
open Go.Proofs

theorem idxV_det (ks : List V) (g : Nat) (caps : List PV) (q : V → Bool) (hq : ∀ v ∈ ks, Det Tryz.prog g (v.pv :: caps) (.bool (q v))) :
    Det Tryz.prog 96 [.lst 3 (V.pvL ks), .fn g caps] (.int .i64 (fidx q ks 0)) := by
  refine det_of_vc' (E := S.E 0) rfl fol Tryz.func96 rfl rfl (slots := [4]) rfl rfl fun hw => ?_
  have hl : ks.length ≤ 9223372036854775807 := by have := hw.1.1; rwa [V.pvL_len] at this
  set_option smartUnfolding false in conv => whnf
  refine vloop_intro (σ := Nat) (fun i => i ≤ ks.length ∧ fidx q (ks.drop i) i = fidx q ks 0)
    (fun i => [(0, .pv (.lst 3 (V.pvL ks))), (1, .pv (.fn g caps)), (7, .pv (.int .i64 (V.pvL ks).length)), (8, .pv (.int .i64 i))])
    (fun _ => []) (fun i => ks.length - i) 0 ⟨by simp, by simp⟩ (weak_bare rfl ⟨(by kernel_rfl), (by kernel_rfl), (by kernel_rfl), (by kernel_rfl), trivial⟩) ?_
  rintro i ⟨hi, hs⟩
  set_option smartUnfolding false in conv => whnf
  refine br_intro (fun h => ?_) (fun h => ?_) <;> set_option smartUnfolding false in conv => whnf
  · replace h : i < ks.length := by have := dT h; rw [V.pvL_len] at this; simpa using this
    obtain ⟨⟨k1, n1, ks1⟩, hv, hg, _, hd⟩ := V.get_pvL h
    rw [V.pv_mk] at hg
    rw [hd, fidx_cons] at hs
    have hq1 := hq _ hv
    rw [V.pv_mk] at hq1
    refine ⟨V.ag k1 n1 ks1, ⟨by simp, by simpa using hg⟩, ?_⟩
    set_option smartUnfolding false in conv => whnf
    refine acall_det (ps := V.ag k1 n1 ks1 :: caps) hq1 ?_
    set_option smartUnfolding false in conv => whnf
    refine br_intro (fun h2 => ?_) (fun h2 => ?_) <;> set_option smartUnfolding false in conv => whnf
    · rw [if_pos h2] at hs
      exact rdI hs
    · rw [if_neg (by simp [h2])] at hs
      refine ⟨i + 1, ⟨h, hs⟩, weak_bare rfl ⟨(by kernel_rfl), (by kernel_rfl), (by kernel_rfl), sUp h hl, trivial⟩, subUp h⟩
  · replace h : ¬ i < ks.length := by have := dF h; rw [V.pvL_len] at this; simpa using this
    rw [List.drop_of_length_le (by omega), fidx_nil] at hs
    exact rdI hs

theorem hasV_det (ks : List V) (g : Nat) (caps : List PV) (q : V → Bool) (hq : ∀ v ∈ ks, Det Tryz.prog g (v.pv :: caps) (.bool (q v))) :
    Det Tryz.prog 56 [.lst 3 (V.pvL ks), .fn g caps] (.bool (ks.any q)) := by
  refine det_of_vc' (E := S.E 0) rfl fol Tryz.func56 rfl rfl (slots := [4]) rfl rfl fun hw => ?_
  set_option smartUnfolding false in conv => whnf
  refine acall_det (ps := [.lst 3 (V.pvL ks), .fn g caps]) (idxV_det ks g caps q hq) ?_
  set_option smartUnfolding false in conv => whnf
  exact rdB (fidx_any q ks 0)
theorem vnodes_det (t : V) : ∀ m : Int, 1 ≤ m → m ≤ 1000000 → Det Tryz.prog 31 [t.pv, .int .i64 m] (.int .i64 (min (t.cnt : Int) m)) := by
  refine V.recOn' (p := fun t => ∀ m : Int, 1 ≤ m → m ≤ 1000000 → Det Tryz.prog 31 [t.pv, .int .i64 m] (.int .i64 (min (t.cnt : Int) m))) (fun k n ts ih m m1 m2 => ?_) t
  rw [V.pv_mk]
  generalize hR : min ((V.mk k n ts).cnt : Int) m = R
  rw [V.cnt_mk] at hR
  refine det_of_vc' (E := S.E 0) rfl fol Tryz.func31 rfl rfl (slots := [4]) rfl rfl fun hw => ?_
  have hl := V.lenle hw.1
  set_option smartUnfolding false in conv => whnf
  refine vloop_intro (σ := Nat × Int) (fun x => x.1 ≤ ts.length ∧ min (x.2 + V.cntL (ts.drop x.1)) m = R ∧ 1 ≤ x.2 ∧ x.2 ≤ m) (fun x => [(1, .pv (.int .i64 m)), (5, .pv (.int .i64 x.2)), (9, .pv (.lst 3 (V.pvL ts))), (10, .pv (.int .i64 (V.pvL ts).length)), (11, .pv (.int .i64 x.1))])
    (fun _ => []) (fun x => ts.length - x.1) (0, 1) ⟨by simp, by simp only [List.drop_zero]; rw [← hR]; congr 1, by simp, m1⟩ (weak_bare rfl ⟨(by kernel_rfl), (by kernel_rfl), (by kernel_rfl), (by kernel_rfl), (by kernel_rfl), trivial⟩) ?_
  rintro ⟨i, s⟩ ⟨hi, hs, hs1, hs2⟩
  simp only at hi hs hs1 hs2
  set_option smartUnfolding false in conv => whnf
  refine br_intro (fun h => ?_) (fun h => ?_) <;> set_option smartUnfolding false in conv => whnf
  · replace h : i < ts.length := by have := dT h; rw [V.pvL_len] at this; simpa using this
    obtain ⟨⟨k', n', ts'⟩, hv, hg, _, hd⟩ := V.get_pvL h
    rw [V.pv_mk] at hg
    rw [hd, V.cntL_cons] at hs
    refine ⟨V.ag k' n' ts', ⟨by simp, by simpa using hg⟩, ?_⟩
    set_option smartUnfolding false in conv => whnf
    refine br_intro (fun h2 => ?_) (fun h2 => ?_) <;> set_option smartUnfolding false in conv => whnf
    · exact rdI (by have := dT h2; omega)
    · have h2 := dF h2
      have e : IntKind.wrap .i64 (m - s) = m - s := wrapI (by omega) (by omega)
      have hih := ih _ hv (m - s) (by omega) (by omega)
      rw [V.pv_mk] at hih
      rw [e]
      refine acall_det (ps := [V.ag k' n' ts', .int .i64 (m - s)]) hih ?_
      set_option smartUnfolding false in conv => whnf
      refine ⟨(i + 1, s + min ((V.mk k' n' ts').cnt : Int) (m - s)), ⟨h, ?_, ?_, ?_⟩, weak_bare rfl ⟨(by kernel_rfl), sI (wrapI (by omega) (by omega)), (by kernel_rfl), (by kernel_rfl), sUp h hl, trivial⟩, subUp h⟩
      · simp only; omega
      · simp only; omega
      · simp only; omega
  · replace h : ¬ i < ts.length := by have := dF h; rw [V.pvL_len] at this; simpa using this
    rw [List.drop_of_length_le (by omega), V.cntL_nil] at hs
    exact rdI (by split <;> omega)

theorem few_hdet (v : V) : ∀ n, HDet Tryz.prog 35 [.pv v.pv, .bp 0 0] (cnt n) (.pv (.bool (v.val n).1)) (cnt (v.val n).2) := by
  refine V.recOn' (p := fun v => ∀ n, HDet Tryz.prog 35 [.pv v.pv, .bp 0 0] (cnt n) (.pv (.bool (v.val n).1)) (cnt (v.val n).2)) (fun k m ks ih n => ?_) v
  rw [V.pv_mk]
  refine hdet_of_vc' (E := S.E 1) fol Tryz.func35 rfl rfl (slots := [4]) rfl rfl ?_ ?_ ?_ fun hw => ?_
  · exact Nat.le_refl 1
  · exact ⟨trivial, rfl, trivial⟩
  · exact pureH_get (H := cnt n) ⟨fun S => ⟨trivial, trivial⟩, trivial⟩ _
  have hl := V.lenle hw.1
  set_option smartUnfolding false in conv => whnf
  refine br_intro (fun h => ?_) (fun h => ?_) <;> set_option smartUnfolding false in conv => whnf
  · replace h := dT h
    have e : (V.mk k m ks).val n = (false, IntKind.wrap .i64 (n - 1)) := by rw [V.val_mk]; exact if_pos h
    rw [e]
    exact weak_ren [0] 2 (by kernel_rfl) (blk (by kernel_rfl) trivial) ⟨(by kernel_rfl), trivial⟩
  · replace h := dF h
    have e : (V.mk k m ks).val n = V.valL ks (IntKind.wrap .i64 (n - 1)) := by rw [V.val_mk]; exact if_neg h
    rw [e]
    refine vloop_intro (σ := Nat × Int) (fun x => x.1 ≤ ks.length ∧ V.valL (ks.drop x.1) x.2 = V.valL ks (IntKind.wrap .i64 (n - 1))) (fun x => [(1, .bp 0 0), (2, .bp 1 0), (5, .pv (.int .i64 x.1))])
      (fun x => [.box 3 [.pv (.int .i64 x.2)], .box 25 [.pv (.int .i64 k), .pv (.int .i64 m), .pv (.lst 3 (V.pvL ks))]]) (fun x => ks.length - x.1) (0, IntKind.wrap .i64 (n - 1)) (by simp) (weak_sub ⟨(by kernel_rfl), (by kernel_rfl), (by kernel_rfl), trivial⟩) ?_
    rintro ⟨i, s⟩ ⟨hi, hs⟩
    set_option smartUnfolding false in conv => whnf
    refine br_intro (fun h => ?_) (fun h => ?_)
    · replace h : i < ks.length := by have := dT h; rw [V.pvL_len] at this; simpa using this
      obtain ⟨⟨k', n', ks'⟩, hv, hg, _, hd⟩ := V.get_pvL h
      set_option smartUnfolding false in conv => whnf
      rw [V.pv_mk] at hg
      refine ⟨V.ag k' n' ks', ⟨by simp, by simpa using hg⟩, ?_⟩
      set_option smartUnfolding false in conv => whnf
      have hih := ih _ hv s
      rw [V.pv_mk] at hih
      refine acall_hdet hih [0] 2 rfl rfl ⟨rfl, trivial⟩ ?_
      set_option smartUnfolding false in conv => whnf
      rw [hd] at hs
      rw [V.valL_cons] at hs
      refine br_intro (fun h' => ?_) (fun h' => ?_) <;> set_option smartUnfolding false in conv => whnf
      · replace h' : ((V.mk k' n' ks').val s).1 = false := by simpa using h'
        cases hx : (V.mk k' n' ks').val s with
        | mk b n2 =>
          rw [hx] at hs h'
          simp only at h'
          subst h'
          simp only at hs
          rw [← hs]
          exact weak_ren [0] 2 (by kernel_rfl) (blk (by kernel_rfl) trivial) ⟨(by kernel_rfl), trivial⟩
      · replace h' : ((V.mk k' n' ks').val s).1 = true := by simpa using h'
        cases hx : (V.mk k' n' ks').val s with
        | mk b n2 =>
          rw [hx] at hs h'
          simp only at h'
          subst h'
          simp only at hs
          refine ⟨(i + 1, n2), ⟨h, hs⟩, weak_ren [0, 1] 2 (by kernel_rfl) (blk (by kernel_rfl) (blk (by kernel_rfl) trivial)) ⟨(by kernel_rfl), (by kernel_rfl), sI (by rw [wrapI] <;> simp <;> omega), trivial⟩, ?_⟩
          show ks.length - (i + 1) < ks.length - i
          omega
    · replace h : ¬ i < ks.length := by have := dF h; rw [V.pvL_len] at this; simpa using this
      set_option smartUnfolding false in conv => whnf
      rw [List.drop_of_length_le (by simpa using h)] at hs
      rw [← hs, V.valL_nil]
      exact weak_ren [0] 2 (by kernel_rfl) (blk (by kernel_rfl) trivial) ⟨(by kernel_rfl), trivial⟩


/-! ### Two lists, one by one -/
def eqL (q : V → V → Bool) : List V → List V → Bool
  | [], [] => true
  | v :: l, t :: m => q v t && eqL q l m
  | _, _ => false
theorem eqL_nil (q : V → V → Bool) : eqL q [] [] = true := rfl
theorem eqL_cons (q : V → V → Bool) (v t : V) (l m : List V) : eqL q (v :: l) (t :: m) = (q v t && eqL q l m) := rfl
theorem eqL_len (q : V → V → Bool) : ∀ l m : List V, l.length ≠ m.length → eqL q l m = false
  | [], [], h => by simp at h
  | [], _ :: _, _ => rfl
  | _ :: _, [], _ => rfl
  | v :: l, t :: m, h => by rw [eqL_cons, eqL_len q l m (by simpa using h)]; simp
attribute [irreducible] eqL
theorem eqVT_det (ks ts : List V) (g : Nat) (caps : List PV) (q : V → V → Bool) (hq : ∀ (i : Nat) v t, ks[i]? = some v → ts[i]? = some t → Det Tryz.prog g (v.pv :: t.pv :: caps) (.bool (q v t))) :
    Det Tryz.prog 93 [.lst 3 (V.pvL ks), .lst 3 (V.pvL ts), .fn g caps] (.bool (eqL q ks ts)) := by
  refine det_of_vc' (E := S.E 0) rfl fol Tryz.func93 rfl rfl (slots := [6]) rfl rfl fun hw => ?_
  have hl : ks.length ≤ 9223372036854775807 := by have := hw.1.1; rwa [V.pvL_len] at this
  set_option smartUnfolding false in conv => whnf
  refine br_intro (fun h => ?_) (fun h => ?_) <;> set_option smartUnfolding false in conv => whnf
  · have h : ¬ ks.length = ts.length := by simp [V.pvL_len] at h; omega
    exact rdB (by rw [eqL_len q ks ts h])
  have hlen : ks.length = ts.length := by simp [V.pvL_len] at h; omega
  refine vloop_intro (σ := Nat) (fun i => i ≤ ks.length ∧ eqL q (ks.drop i) (ts.drop i) = eqL q ks ts)
    (fun i => [(1, .pv (.lst 3 (V.pvL ts))), (2, .pv (.fn g caps)), (15, .pv (.lst 3 (V.pvL ks))), (16, .pv (.int .i64 (V.pvL ks).length)), (17, .pv (.int .i64 i))])
    (fun _ => []) (fun i => ks.length - i) 0 ⟨by simp, by simp⟩ (weak_bare rfl ⟨(by kernel_rfl), (by kernel_rfl), (by kernel_rfl), (by kernel_rfl), (by kernel_rfl), trivial⟩) ?_
  rintro i ⟨hi, hs⟩
  set_option smartUnfolding false in conv => whnf
  refine br_intro (fun h => ?_) (fun h => ?_) <;> set_option smartUnfolding false in conv => whnf
  · replace h : i < ks.length := by have := dT h; rw [V.pvL_len] at this; simpa using this
    refine V.get_elim h fun k1 n1 ks1 hv hg hg0 hd => ?_
    refine V.get_elim (l := ts) (i := i) (by omega) fun k2 n2 ks2 hv2 hg2 hg20 hd2 => ?_
    rw [hd, hd2, eqL_cons] at hs
    have hq1 := hq i _ _ hg0 hg20
    rw [V.pv_mk, V.pv_mk] at hq1
    refine ⟨V.ag k1 n1 ks1, ⟨by simp, by simpa using hg⟩, ?_⟩
    set_option smartUnfolding false in conv => whnf
    refine ⟨V.ag k2 n2 ks2, ⟨by simp, by simpa using hg2⟩, ?_⟩
    set_option smartUnfolding false in conv => whnf
    refine acall_det (ps := V.ag k1 n1 ks1 :: V.ag k2 n2 ks2 :: caps) hq1 ?_
    set_option smartUnfolding false in conv => whnf
    refine br_intro (fun h2 => ?_) (fun h2 => ?_) <;> set_option smartUnfolding false in conv => whnf
    · have h2 : q (.mk k1 n1 ks1) (.mk k2 n2 ks2) = false := by simpa using h2
      exact rdB (by rw [← hs, h2]; rfl)
    · have h2 : q (.mk k1 n1 ks1) (.mk k2 n2 ks2) = true := by simpa using h2
      rw [h2, Bool.true_and] at hs
      exact ⟨i + 1, ⟨h, hs⟩, weak_bare rfl ⟨(by kernel_rfl), (by kernel_rfl), (by kernel_rfl), (by kernel_rfl), sUp h hl, trivial⟩, subUp h⟩
  · replace h : ¬ i < ks.length := by have := dF h; rw [V.pvL_len] at this; simpa using this
    rw [List.drop_of_length_le (by omega), List.drop_of_length_le (by omega), eqL_nil] at hs
    exact rdB hs
end Go.AM

set_option linter.all false
set_option maxRecDepth 20000
set_option maxHeartbeats 2000000
namespace Go.AM
open Go.Proofs

/-! ### Valid data: what it says of a declaration -/
theorem decsR_get {D : List Dt} : ∀ {l : List Dt} {i j : Nat} {x : Dt}, decsR D i l = true → l[j]? = some x → 0 ≤ x.vars ∧ x.vars ≤ 6 ∧ x.cons.length ≤ 8 ∧ consR D (i + j) x.vars x.cons = true
  | [], i, j, x, _, h => by simp at h
  | y :: l, i, 0, x, h, hj => by
    rw [decsR_cons] at h
    simp only [Bool.and_eq_true, decide_eq_true_eq] at h
    simp at hj; subst hj
    exact ⟨h.1.1.1.1.1.1, h.1.1.1.1.1.2, h.1.1.1.2, h.1.2⟩
  | y :: l, i, j + 1, x, h, hj => by
    rw [decsR_cons] at h
    simp only [Bool.and_eq_true] at h
    have := decsR_get (j := j) h.2 (by simpa using hj)
    rw [show i + (j + 1) = i + 1 + j by omega]
    exact this
theorem consR_get {D : List Dt} {d : Nat} {vars : Int} : ∀ {l : List Cn} {c : Cn}, consR D d vars l = true → c ∈ l → argsR D d vars c.args = true
  | [], c, _, h => by simp at h
  | y :: l, c, h, hc => by
    rw [consR_cons] at h
    simp only [Bool.and_eq_true] at h
    rcases List.mem_cons.1 hc with rfl | hc
    · exact h.1.2
    · exact consR_get h.2 hc
theorem argsR_get {D : List Dt} {d : Nat} {vars : Int} : ∀ {l : List V} {a : V}, argsR D d vars l = true → a ∈ l → argR D d vars a = true
  | [], a, _, h => by simp at h
  | y :: l, a, h, hc => by
    rw [argsR_cons] at h
    simp only [Bool.and_eq_true] at h
    rcases List.mem_cons.1 hc with rfl | hc
    · exact h.1
    · exact argsR_get h.2 hc
theorem shape_mono {D : List Dt} {d : Nat} {vars k n : Int} {r : Bool × Int × Int} (h : V.shape (D.take d) vars k n = some r) : V.shape D vars k n = some r := by
  unfold V.shape at h ⊢
  split
  · rename_i h1; rwa [if_pos h1] at h
  rename_i h1; rw [if_neg h1] at h
  split
  · rename_i h2; rwa [if_pos h2] at h
  rename_i h2; rw [if_neg h2] at h
  split
  · rename_i h3
    rw [if_pos h3, List.getElem?_take] at h
    split at h
    · rename_i x hx
      split at hx
      · rw [hx]; exact h
      · cases hx
    · cases h
  rename_i h3; rwa [if_neg h3] at h
mutual
theorem okT_mono {D : List Dt} {d : Nat} {vars : Int} : ∀ t : V, V.okT (D.take d) vars t = true → V.okT D vars t = true
  | .mk k n ts, h => by
    rw [V.okT_mk] at h ⊢
    cases hs : V.shape (D.take d) vars k n with
    | none => rw [hs] at h; cases h
    | some r =>
      rw [hs] at h
      rw [shape_mono hs]
      obtain ⟨b, lo, hi⟩ := r
      simp only [Bool.and_eq_true] at h ⊢
      exact ⟨h.1, okTL_mono ts h.2⟩
theorem okTL_mono {D : List Dt} {d : Nat} {vars : Int} : ∀ l : List V, V.okTL (D.take d) vars l = true → V.okTL D vars l = true
  | [], _ => V.okTL_nil _ _
  | t :: l, h => by
    rw [V.okTL_cons] at h ⊢
    simp only [Bool.and_eq_true] at h ⊢
    exact ⟨okT_mono t h.1, okTL_mono l h.2⟩
end
theorem okTL_mem {D : List Dt} {vars : Int} : ∀ {l : List V} {t : V}, V.okTL D vars l = true → t ∈ l → V.okT D vars t = true
  | [], t, _, h => by simp at h
  | y :: l, t, h, hm => by
    rw [V.okTL_cons] at h
    simp only [Bool.and_eq_true] at h
    rcases List.mem_cons.1 hm with rfl | hm
    · exact h.1
    · exact okTL_mem h.2 hm
theorem V.subL_len (us : List V) : ∀ l : List V, (V.subL us l).length = l.length
  | [] => by rw [V.subL_nil]
  | t :: l => by rw [V.subL_cons, List.length_cons, List.length_cons, V.subL_len us l]
mutual
theorem sub_ok {D : List Dt} {us : List V} {vars w : Int} (hu : V.okTL D w us = true) (hl : (us.length : Int) = vars) : ∀ t : V, V.okT D vars t = true → V.okT D w (V.sub us t) = true
  | .mk k n ts, h => by
    by_cases h4 : k = 4
    · subst h4
      rw [V.okT_mk] at h
      have hs : V.shape D vars 4 n = some (decide (0 ≤ n) && decide (n < vars), 0, 0) := by unfold V.shape; rw [if_neg (by omega), if_pos rfl]
      rw [hs] at h
      simp only [Bool.and_eq_true, decide_eq_true_eq] at h
      rw [V.sub_mk, if_pos ⟨rfl, h.1.1.1.1, by omega⟩]
      have hm : us[n.toNat]?.getD (.mk 0 0 []) ∈ us := by
        rw [List.getElem?_eq_getElem (by omega)]; simp
      exact okTL_mem hu hm
    · rw [V.sub_mk, if_neg (fun e => h4 e.1), V.okT_mk, V.subL_len]
      rw [V.okT_mk] at h
      have hs : V.shape D vars k n = V.shape D w k n := by unfold V.shape; rw [if_neg (c := k = 4) h4, if_neg (c := k = 4) h4]
      rw [hs] at h
      cases hr : V.shape D w k n with
      | none => rw [hr] at h; cases h
      | some r =>
        rw [hr] at h
        obtain ⟨b, lo, hi⟩ := r
        simp only [Bool.and_eq_true] at h ⊢
        exact ⟨h.1, subL_ok hu hl ts h.2⟩
theorem subL_ok {D : List Dt} {us : List V} {vars w : Int} (hu : V.okTL D w us = true) (hl : (us.length : Int) = vars) : ∀ l : List V, V.okTL D vars l = true → V.okTL D w (V.subL us l) = true
  | [], _ => by rw [V.subL_nil, V.okTL_nil]
  | t :: l, h => by
    rw [V.okTL_cons] at h
    simp only [Bool.and_eq_true] at h
    rw [V.subL_cons, V.okTL_cons, sub_ok hu hl t h.1, subL_ok hu hl l h.2]; rfl
end
theorem flds_mem {ts : List V} : ∀ {l fs : List V}, flds ts l = some fs → ∀ f ∈ fs, f.cnt ≤ 200 ∧ ∃ a ∈ l, f = V.sub ts a
  | [], fs, h, f, hf => by simp [flds_nil] at h; subst h; simp at hf
  | a :: l, fs, h, f, hf => by
    rw [flds_cons] at h
    split at h
    · cases h
    · rename_i hn
      cases hr : flds ts l with
      | none => rw [hr] at h; cases h
      | some r =>
        rw [hr] at h
        cases h
        rcases List.mem_cons.1 hf with rfl | hf
        · exact ⟨by omega, a, by simp, rfl⟩
        · obtain ⟨h1, b, hb, h2⟩ := flds_mem hr f hf
          exact ⟨h1, b, by simp [hb], h2⟩
/-- A good ground type. -/
structure Good (D : List Dt) (t : V) : Prop where
  ok : V.okT D 0 t = true
  cnt : t.cnt ≤ 200
theorem Good.kid {D : List Dt} {k n : Int} {ts : List V} {u : V} (h : Good D (.mk k n ts)) (hu : u ∈ ts) : Good D u := by
  have h1 := h.ok
  have h2 := h.cnt
  rw [V.okT_mk] at h1
  rw [V.cnt_mk] at h2
  have := V.cnt_mem hu
  refine ⟨?_, by omega⟩
  split at h1
  · simp only [Bool.and_eq_true] at h1
    exact okTL_mem h1.2 hu
  · cases h1
theorem Good.fields {D : List Dt} (hv : dvalid D = true) {t : V} (h : Good D t) {c : Int} {fs : List V} (hf : fieldsS D t c = some fs) : ∀ f ∈ fs, Good D f := by
  obtain ⟨k, n, ts⟩ := t
  have hok := h.ok
  unfold fieldsS conOf at hf
  simp only at hf
  by_cases hk : k = 5 ∧ 0 ≤ n ∧ 0 ≤ c
  · rw [if_pos hk] at hf
    cases hx : D[n.toNat]? with
    | none => rw [hx] at hf; simp at hf
    | some x =>
      rw [hx] at hf
      simp only at hf
      by_cases hl : (ts.length : Int) = x.vars
      · rw [if_pos hl] at hf
        cases hc : x.cons[c.toNat]? with
        | none => rw [hc] at hf; simp at hf
        | some cc =>
          rw [hc] at hf
          unfold dvalid at hv
          simp only [Bool.and_eq_true] at hv
          have hd := decsR_get hv.2.1 hx
          rw [Nat.zero_add] at hd
          have hca := consR_get hd.2.2.2 (List.mem_of_getElem? hc)
          simp only [V.kids] at hf
          intro f hfm
          obtain ⟨h1, a, ha, rfl⟩ := flds_mem hf f hfm
          refine ⟨?_, h1⟩
          have har := argsR_get hca ha
          rw [← arg_eq hx hd.2.1] at har
          simp only [Bool.and_eq_true] at har
          have hw := har.1
          unfold V.okW at hw
          simp only [Bool.and_eq_true] at hw
          refine sub_ok (vars := x.vars) ?_ hl a (okT_mono a hw.2)
          rw [V.okT_mk] at hok
          split at hok
          · simp only [Bool.and_eq_true] at hok; exact hok.2
          · cases hok
      · rw [if_neg hl] at hf; simp at hf
  · rw [if_neg hk] at hf; simp at hf

/-! ### The type of a value -/
def V.knd : V → Int | .mk k _ _ => k
def V.hd (t : V) : V := t.kids.headD (.mk 0 0 [])
mutual
def V.has (D : List Dt) : V → V → Bool
  | .mk k n ks, t =>
    if k = 1 then decide (t.knd = 3) && decide (n = 0) && decide ((ks.length : Int) = 0)
    else if k = 2 then decide (t.knd = 2) && (decide (n = 0) || decide (n = 1)) && decide ((ks.length : Int) = 0)
    else if k = 3 then decide (t.knd = 1) && decide (-1099511627776 ≤ n) && decide (n ≤ 1099511627776) && decide ((ks.length : Int) = 0)
    else if k = 8 then decide (t.knd = 9) && decide (0 ≤ n) && decide (n < 64) && decide ((ks.length : Int) = 0)
    else if k = 4 then decide (t.knd = 6) && decide (n = 0) && V.hasE D ks t.kids
    else if k = 5 then decide (t.knd = 5) && (match fieldsS D t n with | some fs => V.hasE D ks fs | Option.none => false)
    else if k = 6 then decide (t.knd = 7) && decide (n = 0) && decide ((ks.length : Int) ≤ 4096) && V.hasA D ks t.hd
    else if k = 7 then decide (t.knd = 8) && decide (n = 0) && V.hasE D ks t.kids
    else false
def V.hasE (D : List Dt) : List V → List V → Bool
  | v :: l, ts => match ts with
    | t :: m => V.has D v t && V.hasE D l m
    | [] => false
  | [], ts => ts.isEmpty
def V.hasA (D : List Dt) : List V → V → Bool
  | [], _ => true
  | v :: l, t => V.has D v t && V.hasA D l t
end
theorem V.has_mk (D : List Dt) (k n : Int) (ks : List V) (t : V) : V.has D (.mk k n ks) t =
    if k = 1 then decide (t.knd = 3) && decide (n = 0) && decide ((ks.length : Int) = 0)
    else if k = 2 then decide (t.knd = 2) && (decide (n = 0) || decide (n = 1)) && decide ((ks.length : Int) = 0)
    else if k = 3 then decide (t.knd = 1) && decide (-1099511627776 ≤ n) && decide (n ≤ 1099511627776) && decide ((ks.length : Int) = 0)
    else if k = 8 then decide (t.knd = 9) && decide (0 ≤ n) && decide (n < 64) && decide ((ks.length : Int) = 0)
    else if k = 4 then decide (t.knd = 6) && decide (n = 0) && V.hasE D ks t.kids
    else if k = 5 then decide (t.knd = 5) && (match fieldsS D t n with | some fs => V.hasE D ks fs | Option.none => false)
    else if k = 6 then decide (t.knd = 7) && decide (n = 0) && decide ((ks.length : Int) ≤ 4096) && V.hasA D ks t.hd
    else if k = 7 then decide (t.knd = 8) && decide (n = 0) && V.hasE D ks t.kids
    else false := by rw [V.has]
theorem V.hasE_cons (D : List Dt) (v t : V) (l m : List V) : V.hasE D (v :: l) (t :: m) = (V.has D v t && V.hasE D l m) := by rw [V.hasE]
theorem V.hasE_nil (D : List Dt) : V.hasE D [] [] = true := by simp [V.hasE]
theorem V.hasA_cons (D : List Dt) (v t : V) (l : List V) : V.hasA D (v :: l) t = (V.has D v t && V.hasA D l t) := by rw [V.hasA]
theorem V.hasA_nil (D : List Dt) (t : V) : V.hasA D [] t = true := by rw [V.hasA]
theorem V.hasE_eq (D : List Dt) : ∀ l m : List V, eqL (V.has D) l m = V.hasE D l m
  | [], [] => by rw [eqL_nil, V.hasE_nil]
  | [], t :: m => by rw [eqL_len _ _ _ (by simp), V.hasE]; rfl
  | v :: l, [] => by rw [eqL_len _ _ _ (by simp), V.hasE]
  | v :: l, t :: m => by rw [eqL_cons, V.hasE_cons, V.hasE_eq D l m]
theorem V.hasA_eq (D : List Dt) (t : V) : ∀ l : List V, (!l.any fun v => !V.has D v t) = V.hasA D l t
  | [] => by rw [V.hasA_nil]; rfl
  | v :: l => by rw [V.hasA_cons, ← V.hasA_eq D t l]; simp
attribute [irreducible] V.has V.hasE V.hasA V.hd
end Go.AM

set_option linter.all false
set_option maxRecDepth 20000
set_option maxHeartbeats 4000000
namespace Go.AM
open Go.Proofs

theorem Good.decl {D : List Dt} {n : Int} {ts : List V} (h : Good D (.mk 5 n ts)) : 0 ≤ n ∧ n < D.length := by
  have h1 := h.ok
  rw [V.okT_mk] at h1
  unfold V.shape at h1
  rw [if_neg (by omega), if_neg (by omega), if_pos rfl] at h1
  cases hx : D[n.toNat]? with
  | none => rw [hx] at h1; cases h1
  | some x =>
    rw [hx] at h1
    simp only [Bool.and_eq_true, decide_eq_true_eq] at h1
    have := (List.getElem?_eq_some_iff.1 hx).1
    omega
theorem Good.one {D : List Dt} {k n : Int} {ts : List V} (h : Good D (.mk k n ts)) (hk : k = 7 ∨ k = 8) : ∃ u, ts = [u] := by
  have h1 := h.ok
  rw [V.okT_mk] at h1
  unfold V.shape at h1
  rw [if_neg (by omega), if_neg (by omega), if_neg (by omega), if_neg (by omega), if_pos hk] at h1
  simp only [Bool.and_eq_true, decide_eq_true_eq] at h1
  match ts, h1 with
  | [u], _ => exact ⟨u, rfl⟩
  | [], h1 => simp at h1
  | _ :: _ :: _, h1 => simp at h1; omega
theorem V.has_mk2 (D : List Dt) (k n : Int) (ks : List V) (tk tn : Int) (ts : List V) : V.has D (.mk k n ks) (.mk tk tn ts) =
    if k = 1 then decide (tk = 3) && decide (n = 0) && decide ((ks.length : Int) = 0)
    else if k = 2 then decide (tk = 2) && (decide (n = 0) || decide (n = 1)) && decide ((ks.length : Int) = 0)
    else if k = 3 then decide (tk = 1) && decide (-1099511627776 ≤ n) && decide (n ≤ 1099511627776) && decide ((ks.length : Int) = 0)
    else if k = 8 then decide (tk = 9) && decide (0 ≤ n) && decide (n < 64) && decide ((ks.length : Int) = 0)
    else if k = 4 then decide (tk = 6) && decide (n = 0) && V.hasE D ks ts
    else if k = 5 then decide (tk = 5) && (match fieldsS D (.mk tk tn ts) n with | some fs => V.hasE D ks fs | Option.none => false)
    else if k = 6 then decide (tk = 7) && decide (n = 0) && decide ((ks.length : Int) ≤ 4096) && V.hasA D ks (V.hd (.mk tk tn ts))
    else if k = 7 then decide (tk = 8) && decide (n = 0) && V.hasE D ks ts
    else false := V.has_mk D k n ks (.mk tk tn ts)
theorem V.hd_one (k n : Int) (u : V) : V.hd (.mk k n [u]) = u := by unfold V.hd; rfl

theorem each1_of (D : List Dt) (v t : V) {q : Bool} (h : Det Tryz.prog 32 [.lst 3 (Dt.pvL D), v.pv, t.pv] (.bool q)) : Det Tryz.prog 94 [v.pv, t.pv, .cp [.lst 3 (Dt.pvL D)]] (.bool q) := by
  obtain ⟨k, n, ks⟩ := v
  obtain ⟨tk, tn, ts⟩ := t
  rw [V.pv_mk, V.pv_mk] at h ⊢
  refine det_of_vc' (E := S.E 0) rfl fol Tryz.func94 rfl rfl (slots := [5]) rfl rfl fun hw => ?_
  set_option smartUnfolding false in conv => whnf
  refine acall_det (ps := [.lst 3 (Dt.pvL D), V.ag k n ks, V.ag tk tn ts]) h ?_
  set_option smartUnfolding false in conv => whnf
  exact rdB rfl
theorem each_of (D : List Dt) (ks ts : List V) (hq : ∀ (i : Nat) v t, ks[i]? = some v → ts[i]? = some t → Det Tryz.prog 32 [.lst 3 (Dt.pvL D), v.pv, t.pv] (.bool (V.has D v t))) :
    Det Tryz.prog 54 [.lst 3 (Dt.pvL D), .lst 3 (V.pvL ks), .lst 3 (V.pvL ts)] (.bool (V.hasE D ks ts)) := by
  have h := eqVT_det ks ts 94 [.cp [.lst 3 (Dt.pvL D)]] (V.has D) fun i v t h1 h2 => each1_of D v t (hq i v t h1 h2)
  rw [V.hasE_eq] at h
  refine det_of_vc' (E := S.E 0) rfl fol Tryz.func54 rfl rfl (slots := [6]) rfl rfl fun hw => ?_
  set_option smartUnfolding false in conv => whnf
  refine acall_intro (adet_read (S := [0]) h (.cons (.pv _) (.cons (.pv _) (.cons (.fn (.cons (.bp (.head _) rfl (.cons (.pv _) .nil)) .nil)) .nil))) rfl) ?_
  set_option smartUnfolding false in conv => whnf
  exact rdB rfl
theorem has1_of (D : List Dt) (v u : V) (tk tn : Int) {q : Bool} (h : Det Tryz.prog 32 [.lst 3 (Dt.pvL D), v.pv, u.pv] (.bool q)) : Det Tryz.prog 57 [v.pv, .cp [.lst 3 (Dt.pvL D)], .cp [.int .i64 tk, .int .i64 tn, .lst 3 (V.pvL [u])]] (.bool (!q)) := by
  obtain ⟨k, n, ks⟩ := v
  obtain ⟨uk, un, us⟩ := u
  rw [V.pvL_cons, V.pvL_nil]
  rw [V.pv_mk, V.pv_mk] at h
  rw [V.pv_mk, V.pv_mk]
  refine det_of_vc' (E := S.E 0) rfl fol Tryz.func57 rfl rfl (slots := [4]) rfl rfl fun hw => ?_
  set_option smartUnfolding false in conv => whnf
  refine ⟨V.ag uk un us, ⟨by omega, rfl⟩, ?_⟩
  set_option smartUnfolding false in conv => whnf
  refine acall_det (ps := [.lst 3 (Dt.pvL D), V.ag k n ks, V.ag uk un us]) h ?_
  set_option smartUnfolding false in conv => whnf
  exact rdB rfl

theorem has_det {D : List Dt} (hD : DOK D) (hv : dvalid D = true) (v : V) : ∀ t, Good D t → Det Tryz.prog 32 [.lst 3 (Dt.pvL D), v.pv, t.pv] (.bool (V.has D v t)) := by
  refine V.recOn' (p := fun v => ∀ t, Good D t → Det Tryz.prog 32 [.lst 3 (Dt.pvL D), v.pv, t.pv] (.bool (V.has D v t))) (fun k n ks ih t hg => ?_) v
  obtain ⟨tk, tn, ts⟩ := t
  have hE : ∀ us : List V, (∀ u ∈ us, Good D u) → Det Tryz.prog 54 [.lst 3 (Dt.pvL D), .lst 3 (V.pvL ks), .lst 3 (V.pvL us)] (.bool (V.hasE D ks us)) := fun us hus => each_of D ks us fun i v t h1 h2 => ih v (List.mem_of_getElem? h1) t (hus t (List.mem_of_getElem? h2))
  have hF := tfields_det hD (.mk tk tn ts) (by have := hg.cnt; omega)
  have hFg : ∀ fs, fieldsS D (.mk tk tn ts) n = some fs → ∀ f ∈ fs, Good D f := fun fs hf => hg.fields hv hf
  generalize hR : V.has D (.mk k n ks) (.mk tk tn ts) = R
  rw [V.has_mk2] at hR
  rw [V.pv_mk] at hF
  rw [V.pv_mk, V.pv_mk]
  refine det_of_vc' (E := S.E 0) rfl fol Tryz.func32 rfl rfl (slots := [6]) rfl rfl fun hw => ?_
  set_option smartUnfolding false in conv => whnf
  refine br_intro (fun h1 => ?_) (fun h1 => ?_) <;> set_option smartUnfolding false in conv => whnf
  · rw [if_pos (dT h1)] at hR
    refine br_intro (fun g1 => ?_) (fun g1 => ?_) <;> set_option smartUnfolding false in conv => whnf
    · refine br_intro (fun g2 => ?_) (fun g2 => ?_) <;> set_option smartUnfolding false in conv => whnf
      · refine rdB ?_
        rw [V.pvL_len, ← hR]
        rw [g1, g2]; rfl
      · exact rdB (by rw [← hR, g2]; simp)
    · exact rdB (by rw [← hR, g1]; rfl)
  rw [if_neg (dF h1)] at hR
  refine br_intro (fun h2 => ?_) (fun h2 => ?_) <;> set_option smartUnfolding false in conv => whnf
  · rw [if_pos (dT h2)] at hR
    refine br_intro (fun g1 => ?_) (fun g1 => ?_) <;> set_option smartUnfolding false in conv => whnf
    · refine br_intro (fun g2 => ?_) (fun g2 => ?_) <;> set_option smartUnfolding false in conv => whnf
      · refine rdB ?_
        rw [V.pvL_len, ← hR]
        rw [g1, g2]; rfl
      · refine br_intro (fun g3 => ?_) (fun g3 => ?_) <;> set_option smartUnfolding false in conv => whnf
        · refine rdB ?_
          rw [V.pvL_len, ← hR]
          rw [g1, g2, g3]; rfl
        · exact rdB (by rw [← hR, g2, g3]; simp)
    · exact rdB (by rw [← hR, g1]; rfl)
  rw [if_neg (dF h2)] at hR
  refine br_intro (fun h3 => ?_) (fun h3 => ?_) <;> set_option smartUnfolding false in conv => whnf
  · rw [if_pos (dT h3)] at hR
    refine br_intro (fun g1 => ?_) (fun g1 => ?_) <;> set_option smartUnfolding false in conv => whnf
    · refine br_intro (fun g2 => ?_) (fun g2 => ?_) <;> set_option smartUnfolding false in conv => whnf
      · refine br_intro (fun g3 => ?_) (fun g3 => ?_) <;> set_option smartUnfolding false in conv => whnf
        · refine rdB ?_
          rw [V.pvL_len, ← hR]
          rw [g1, g2, g3]; rfl
        · exact rdB (by rw [← hR, g3]; simp)
      · exact rdB (by rw [← hR, g2]; simp)
    · exact rdB (by rw [← hR, g1]; rfl)
  rw [if_neg (dF h3)] at hR
  refine br_intro (fun h4 => ?_) (fun h4 => ?_) <;> set_option smartUnfolding false in conv => whnf
  · rw [if_pos (dT h4)] at hR
    refine br_intro (fun g1 => ?_) (fun g1 => ?_) <;> set_option smartUnfolding false in conv => whnf
    · refine br_intro (fun g2 => ?_) (fun g2 => ?_) <;> set_option smartUnfolding false in conv => whnf
      · refine br_intro (fun g3 => ?_) (fun g3 => ?_) <;> set_option smartUnfolding false in conv => whnf
        · refine rdB ?_
          rw [V.pvL_len, ← hR]
          rw [g1, g2, g3]; rfl
        · exact rdB (by rw [← hR, g3]; simp)
      · exact rdB (by rw [← hR, g2]; simp)
    · exact rdB (by rw [← hR, g1]; rfl)
  rw [if_neg (dF h4)] at hR
  refine br_intro (fun h5 => ?_) (fun h5 => ?_) <;> set_option smartUnfolding false in conv => whnf
  · rw [if_pos (dT h5)] at hR
    refine br_intro (fun g1 => ?_) (fun g1 => ?_) <;> set_option smartUnfolding false in conv => whnf
    · refine br_intro (fun g2 => ?_) (fun g2 => ?_) <;> set_option smartUnfolding false in conv => whnf
      · refine acall_det (ps := [.lst 3 (Dt.pvL D), .lst 3 (V.pvL ks), .lst 3 (V.pvL ts)]) (hE ts fun u hu => hg.kid hu) ?_
        set_option smartUnfolding false in conv => whnf
        exact rdB (by rw [← hR, g1, g2]; rfl)
      · exact rdB (by rw [← hR, g2]; simp)
    · exact rdB (by rw [← hR, g1]; rfl)
  rw [if_neg (dF h5)] at hR
  refine br_intro (fun h6 => ?_) (fun h6 => ?_) <;> set_option smartUnfolding false in conv => whnf
  · rw [if_pos (dT h6)] at hR
    refine br_intro (fun g1 => ?_) (fun g1 => ?_) <;> set_option smartUnfolding false in conv => whnf
    · have g1 : ¬ tk = 5 := by simpa using g1
      exact rdB (by rw [← hR, decide_eq_false g1]; rfl)
    have g1 : tk = 5 := by simpa using g1
    subst g1
    have hd := hg.decl
    rw [decide_eq_true rfl, Bool.true_and] at hR
    refine br_intro (fun g2 => ?_) (fun g2 => ?_) <;> set_option smartUnfolding false in conv => whnf
    · have g2 := dT g2
      have e : fieldsS D (.mk 5 tn ts) n = Option.none := by unfold fieldsS conOf; simp only; rw [if_neg (by omega)]
      rw [e] at hR
      exact rdB hR
    have g2 := dF g2
    refine Dt.get_elim (l := D) (i := tn.toNat) (by omega) fun nm vs cs hmem hdg hdg2 _ => ?_
    refine ⟨Dt.ag nm vs cs, ⟨by omega, hdg⟩, ?_⟩
    set_option smartUnfolding false in conv => whnf
    refine br_intro (fun g3 => ?_) (fun g3 => ?_) <;> set_option smartUnfolding false in conv => whnf
    · have g3 := dT g3
      rw [Cn.pvL_len] at g3
      have e : fieldsS D (.mk 5 tn ts) n = Option.none := by
        unfold fieldsS conOf; simp only; rw [hdg2]; simp only; rw [List.getElem?_eq_none (l := cs) (by omega)]; simp
      rw [e] at hR
      exact rdB hR
    have g3 := dF g3
    rw [Cn.pvL_len] at g3
    have hFn := hF n
    have hcl := hD.cons _ hmem
    simp only at hcl
    cases hfs : fieldsS D (.mk 5 tn ts) n with
    | none =>
      rw [hfs, optP_none] at hFn
      rw [hfs] at hR
      refine acall_det (ps := [.lst 3 (Dt.pvL D), V.ag 5 tn ts, .int .i64 n]) hFn ?_
      set_option smartUnfolding false in conv => whnf
      exact rdB hR
    | some fs =>
      rw [hfs, optP_some, List.nil_append] at hFn
      rw [hfs] at hR
      refine acall_det (ps := [.lst 3 (Dt.pvL D), V.ag 5 tn ts, .int .i64 n]) hFn ?_
      set_option smartUnfolding false in conv => whnf
      refine acall_det (ps := [.lst 3 (Dt.pvL D), .lst 3 (V.pvL ks), .lst 3 (V.pvL fs)]) (hE fs (hFg fs hfs)) ?_
      set_option smartUnfolding false in conv => whnf
      exact rdB hR
  rw [if_neg (dF h6)] at hR
  refine br_intro (fun h7 => ?_) (fun h7 => ?_) <;> set_option smartUnfolding false in conv => whnf
  · rw [if_pos (dT h7)] at hR
    refine br_intro (fun g1 => ?_) (fun g1 => ?_) <;> set_option smartUnfolding false in conv => whnf
    · have g1 : ¬ tk = 7 := by simpa using g1
      exact rdB (by rw [← hR, decide_eq_false g1]; rfl)
    have g1 : tk = 7 := by simpa using g1
    subst g1
    refine br_intro (fun g2 => ?_) (fun g2 => ?_) <;> set_option smartUnfolding false in conv => whnf
    · have g2 : ¬ n = 0 := by simpa using g2
      exact rdB (by rw [← hR, decide_eq_false g2]; simp)
    have g2 : n = 0 := by simpa using g2
    refine br_intro (fun g3 => ?_) (fun g3 => ?_) <;> set_option smartUnfolding false in conv => whnf
    · have g3 := dT g3
      rw [V.pvL_len] at g3
      exact rdB (by rw [← hR, decide_eq_false (p := (ks.length : Int) ≤ 4096) (by omega)]; simp)
    have g3 := dF g3
    rw [V.pvL_len] at g3
    rw [decide_eq_true g2, decide_eq_true (p := (ks.length : Int) ≤ 4096) (by omega), decide_eq_true rfl] at hR
    simp only [Bool.true_and] at hR
    obtain ⟨u, hu⟩ := hg.one (.inl rfl)
    have hgu : Good D u := hg.kid (by rw [hu]; simp)
    have hc := hasV_det ks 57 [.cp [.lst 3 (Dt.pvL D)], .cp [.int .i64 7, .int .i64 tn, .lst 3 (V.pvL [u])]] (fun v => !V.has D v u) fun v hvm => has1_of D v u 7 tn (ih v hvm u hgu)
    rw [hu, V.hd_one] at hR
    refine acall_intro (adet_read (S := [0, 2]) hc (.cons (.pv _) (.cons (.fn (.cons (.bp (.head _) rfl (.cons (.pv _) .nil)) (.cons (.bp (cs := [.pv (.int .i64 7), .pv (.int .i64 tn), .pv (.lst 3 (V.pvL [u]))]) (.tail _ (.head _)) (by rw [← hu]; rfl) (.cons (.pv _) (.cons (.pv _) (.cons (.pv _) .nil)))) .nil))) .nil)) rfl) ?_
    set_option smartUnfolding false in conv => whnf
    exact rdB (by rw [V.hasA_eq]; exact hR)
  rw [if_neg (dF h7)] at hR
  refine br_intro (fun h8 => ?_) (fun h8 => ?_) <;> set_option smartUnfolding false in conv => whnf
  · rw [if_pos (dT h8)] at hR
    refine br_intro (fun g1 => ?_) (fun g1 => ?_) <;> set_option smartUnfolding false in conv => whnf
    · refine br_intro (fun g2 => ?_) (fun g2 => ?_) <;> set_option smartUnfolding false in conv => whnf
      · refine acall_det (ps := [.lst 3 (Dt.pvL D), .lst 3 (V.pvL ks), .lst 3 (V.pvL ts)]) (hE ts fun u hu => hg.kid hu) ?_
        set_option smartUnfolding false in conv => whnf
        exact rdB (by rw [← hR, g1, g2]; rfl)
      · exact rdB (by rw [← hR, g2]; simp)
    · exact rdB (by rw [← hR, g1]; rfl)
  rw [if_neg (dF h8)] at hR
  exact rdB hR
end Go.AM

set_option linter.all false
set_option maxRecDepth 20000
set_option maxHeartbeats 4000000
namespace Go.AM
open Go.Proofs

/-! ### ref10.all, ref10.hasType -/
theorem rall_of (D : List Dt) (ks ts : List V) (hq : ∀ (i : Nat) v t, ks[i]? = some v → ts[i]? = some t → Det Tryz.prog 36 [.lst 3 (Dt.pvL D), v.pv, t.pv] (.bool (V.has D v t))) :
    Det Tryz.prog 62 [.lst 3 (Dt.pvL D), .lst 3 (V.pvL ks), .lst 3 (V.pvL ts)] (.bool (V.hasE D ks ts)) := by
  rw [← V.hasE_eq]
  generalize hqd : V.has D = q at hq ⊢
  refine det_of_vc' (E := S.E 0) rfl fol Tryz.func62 rfl rfl (slots := [6]) rfl rfl fun hw => ?_
  have hl : ks.length ≤ 9223372036854775807 := by have := hw.2.1.1; rwa [V.pvL_len] at this
  set_option smartUnfolding false in conv => whnf
  refine br_intro (fun h => ?_) (fun h => ?_) <;> set_option smartUnfolding false in conv => whnf
  · have h : ¬ ks.length = ts.length := by simp [V.pvL_len] at h; omega
    exact rdB (by rw [eqL_len q ks ts h])
  have hlen : ks.length = ts.length := by simp [V.pvL_len] at h; omega
  refine vloop_intro (σ := Nat) (fun i => i ≤ ks.length ∧ eqL q (ks.drop i) (ts.drop i) = eqL q ks ts)
    (fun i => [(0, .pv (.lst 3 (Dt.pvL D))), (1, .pv (.lst 3 (V.pvL ks))), (2, .pv (.lst 3 (V.pvL ts))), (7, .pv (.int .i64 i))])
    (fun _ => []) (fun i => ks.length - i) 0 ⟨by simp, by simp⟩ (weak_bare rfl ⟨(by kernel_rfl), (by kernel_rfl), (by kernel_rfl), (by kernel_rfl), trivial⟩) ?_
  rintro i ⟨hi, hs⟩
  set_option smartUnfolding false in conv => whnf
  refine br_intro (fun h => ?_) (fun h => ?_) <;> set_option smartUnfolding false in conv => whnf
  · replace h : i < ks.length := by have := dT h; rw [V.pvL_len] at this; simpa using this
    refine V.get_elim h fun k1 n1 ks1 hv hg hg0 hd => ?_
    refine V.get_elim (l := ts) (i := i) (by omega) fun k2 n2 ks2 hv2 hg2 hg20 hd2 => ?_
    rw [hd, hd2, eqL_cons] at hs
    have hq1 := hq i _ _ hg0 hg20
    rw [V.pv_mk, V.pv_mk] at hq1
    refine ⟨V.ag k1 n1 ks1, ⟨by simp, by simpa using hg⟩, ?_⟩
    set_option smartUnfolding false in conv => whnf
    refine ⟨V.ag k2 n2 ks2, ⟨by simp, by simpa using hg2⟩, ?_⟩
    set_option smartUnfolding false in conv => whnf
    refine acall_det (ps := [.lst 3 (Dt.pvL D), V.ag k1 n1 ks1, V.ag k2 n2 ks2]) hq1 ?_
    set_option smartUnfolding false in conv => whnf
    refine br_intro (fun h2 => ?_) (fun h2 => ?_) <;> set_option smartUnfolding false in conv => whnf
    · have h2 : q (.mk k1 n1 ks1) (.mk k2 n2 ks2) = false := by simpa using h2
      exact rdB (by rw [← hs, h2]; rfl)
    · have h2 : q (.mk k1 n1 ks1) (.mk k2 n2 ks2) = true := by simpa using h2
      rw [h2, Bool.true_and] at hs
      exact ⟨i + 1, ⟨h, hs⟩, weak_bare rfl ⟨(by kernel_rfl), (by kernel_rfl), (by kernel_rfl), sUp h hl, trivial⟩, subUp h⟩
  · replace h : ¬ i < ks.length := by have := dF h; rw [V.pvL_len] at this; simpa using this
    rw [List.drop_of_length_le (by omega), List.drop_of_length_le (by omega), eqL_nil] at hs
    exact rdB hs

theorem V.hasA_one (D : List Dt) (u : V) : ∀ ks : List V, ks.length = 1 → V.hasA D ks u = V.hasE D ks [u]
  | [v], _ => by rw [V.hasA_cons, V.hasE_cons, V.hasA_nil, V.hasE_nil]
theorem V.hasE_none (D : List Dt) (u : V) (ks : List V) (h : ¬ ks.length = 1) : V.hasE D ks [u] = false := by
  rw [← V.hasE_eq, eqL_len _ _ _ (by simpa using h)]
theorem V.has_t7 (D : List Dt) (k n : Int) (ks : List V) (tn : Int) (u : V) : V.has D (.mk k n ks) (.mk 7 tn [u]) = (decide (k = 6) && decide (n = 0) && decide ((ks.length : Int) ≤ 4096) && V.hasA D ks u) := by
  rw [V.has_mk2, V.hd_one]
  repeat' split
  all_goals (first | (simp_all; done) | (subst_vars; simp; done))
theorem V.has_t8 (D : List Dt) (k n : Int) (ks : List V) (tn : Int) (u : V) : V.has D (.mk k n ks) (.mk 8 tn [u]) = (decide (k = 7) && decide (n = 0) && V.hasE D ks [u]) := by
  rw [V.has_mk2, V.hd_one]
  repeat' split
  all_goals (first | (simp_all; done) | (subst_vars; simp; done))
theorem V.has_t1 (D : List Dt) (k n : Int) (ks : List V) (tn : Int) (ts : List V) : V.has D (.mk k n ks) (.mk 1 tn ts) = (decide (k = 3) && decide (-1099511627776 ≤ n) && decide (n ≤ 1099511627776) && decide ((ks.length : Int) = 0)) := by
  rw [V.has_mk2]
  repeat' split
  all_goals (first | (simp_all; done) | (subst_vars; simp; done))
theorem V.has_t2 (D : List Dt) (k n : Int) (ks : List V) (tn : Int) (ts : List V) : V.has D (.mk k n ks) (.mk 2 tn ts) = (decide (k = 2) && (decide (n = 0) || decide (n = 1)) && decide ((ks.length : Int) = 0)) := by
  rw [V.has_mk2]
  repeat' split
  all_goals (first | (simp_all; done) | (subst_vars; simp; done))
theorem V.has_t3 (D : List Dt) (k n : Int) (ks : List V) (tn : Int) (ts : List V) : V.has D (.mk k n ks) (.mk 3 tn ts) = (decide (k = 1) && decide (n = 0) && decide ((ks.length : Int) = 0)) := by
  rw [V.has_mk2]
  repeat' split
  all_goals (first | (simp_all; done) | (subst_vars; simp; done))
theorem V.has_t6 (D : List Dt) (k n : Int) (ks : List V) (tn : Int) (ts : List V) : V.has D (.mk k n ks) (.mk 6 tn ts) = (decide (k = 4) && decide (n = 0) && V.hasE D ks ts) := by
  rw [V.has_mk2]
  repeat' split
  all_goals (first | (simp_all; done) | (subst_vars; simp; done))
theorem V.has_t9 (D : List Dt) (k n : Int) (ks : List V) (tn : Int) (ts : List V) : V.has D (.mk k n ks) (.mk 9 tn ts) = (decide (k = 8) && decide (0 ≤ n) && decide (n < 64) && decide ((ks.length : Int) = 0)) := by
  rw [V.has_mk2]
  repeat' split
  all_goals (first | (simp_all; done) | (subst_vars; simp; done))
theorem V.has_t5 (D : List Dt) (k n : Int) (ks : List V) (tn : Int) (ts : List V) : V.has D (.mk k n ks) (.mk 5 tn ts) = (decide (k = 5) && (match fieldsS D (.mk 5 tn ts) n with | some fs => V.hasE D ks fs | Option.none => false)) := by
  rw [V.has_mk2]
  by_cases h5 : k = 5
  · subst h5; rfl
  · rw [decide_eq_false h5, Bool.false_and]
    repeat' split
    all_goals (first | rfl | (simp_all; done) | (subst_vars; simp; done))
theorem Good.kind {D : List Dt} {k n : Int} {ts : List V} (h : Good D (.mk k n ts)) : k = 1 ∨ k = 2 ∨ k = 3 ∨ k = 5 ∨ k = 6 ∨ k = 7 ∨ k = 8 ∨ k = 9 := by
  have h1 := h.ok
  rw [V.okT_mk] at h1
  unfold V.shape at h1
  by_cases h4 : k = 4
  · subst h4
    rw [if_neg (by omega), if_pos rfl] at h1
    simp only [Bool.and_eq_true, decide_eq_true_eq] at h1
    omega
  · apply Classical.byContradiction
    intro hn
    rw [if_neg (by omega), if_neg (by omega), if_neg (by omega), if_neg (by omega), if_neg (by omega), if_neg (by omega)] at h1
    cases h1


theorem rhas7 (D : List Dt) (k n : Int) (ks : List V) (tn uk un : Int) (us : List V) (hq : ∀ v ∈ ks, Det Tryz.prog 36 [.lst 3 (Dt.pvL D), v.pv, V.ag uk un us] (.bool (V.has D v (.mk uk un us)))) :
    Det Tryz.prog 36 [.lst 3 (Dt.pvL D), V.ag k n ks, .agg [.int .i64 7, .int .i64 tn, .lst 3 [V.ag uk un us]]] (.bool (V.has D (.mk k n ks) (.mk 7 tn [.mk uk un us]))) := by
  generalize hR : V.has D (.mk k n ks) (.mk 7 tn [.mk uk un us]) = R
  rw [V.has_t7] at hR
  refine det_of_vc' (E := S.E 0) rfl fol Tryz.func36 rfl rfl (slots := [6]) rfl rfl fun hw => ?_
  have hl := V.lenle hw.2.1
  set_option smartUnfolding false in conv => whnf
  refine br_intro (fun g1 => ?_) (fun g1 => ?_) <;> set_option smartUnfolding false in conv => whnf
  · have g1 : ¬ k = 6 := by simpa using g1
    exact rdB (by rw [← hR, decide_eq_false g1]; rfl)
  have g1 : k = 6 := by simpa using g1
  refine br_intro (fun g2 => ?_) (fun g2 => ?_) <;> set_option smartUnfolding false in conv => whnf
  · have g2 := dT g2
    rw [V.pvL_len] at g2
    exact rdB (by rw [← hR, decide_eq_false (p := (ks.length : Int) ≤ 4096) (by omega)]; simp)
  have g2 := dF g2
  rw [V.pvL_len] at g2
  refine br_intro (fun g3 => ?_) (fun g3 => ?_) <;> set_option smartUnfolding false in conv => whnf
  · have g3 : ¬ n = 0 := by simpa using g3
    exact rdB (by rw [← hR, decide_eq_false g3]; simp)
  have g3 : n = 0 := by simpa using g3
  rw [decide_eq_true g1, decide_eq_true g3, decide_eq_true (p := (ks.length : Int) ≤ 4096) (by omega), Bool.true_and, Bool.true_and, Bool.true_and] at hR
  refine vloop_intro (σ := Nat) (fun i => i ≤ ks.length ∧ V.hasA D (ks.drop i) (.mk uk un us) = R)
    (fun i => [(0, .pv (.lst 3 (Dt.pvL D))), (4, .bp 0 0), (5, .bp 1 0), (7, .pv (.int .i64 (V.pvL ks).length)), (10, .pv (.int .i64 i))])
    (fun _ => [.box 25 [.pv (.int .i64 k), .pv (.int .i64 n), .pv (.lst 3 (V.pvL ks))], .box 28 [.pv (.int .i64 7), .pv (.int .i64 tn), .pv (.lst 3 [V.ag uk un us])]]) (fun i => ks.length - i) 0 ⟨by simp, by simpa using hR⟩ (weak_sub ⟨(by kernel_rfl), (by kernel_rfl), (by kernel_rfl), (by kernel_rfl), (by kernel_rfl), trivial⟩) ?_
  rintro i ⟨hi, hs⟩
  set_option smartUnfolding false in conv => whnf
  refine br_intro (fun h => ?_) (fun h => ?_) <;> set_option smartUnfolding false in conv => whnf
  · replace h : i < ks.length := by have := dT h; rw [V.pvL_len] at this; simpa using this
    refine V.get_elim h fun k1 n1 ks1 hv hg hg0 hd => ?_
    rw [hd, V.hasA_cons] at hs
    have hq1 := hq _ hv
    rw [V.pv_mk] at hq1
    refine ⟨V.ag k1 n1 ks1, ⟨by simp, by simpa using hg⟩, ?_⟩
    set_option smartUnfolding false in conv => whnf
    refine ⟨V.ag uk un us, ⟨by omega, rfl⟩, ?_⟩
    set_option smartUnfolding false in conv => whnf
    refine acall_det (ps := [.lst 3 (Dt.pvL D), V.ag k1 n1 ks1, V.ag uk un us]) hq1 ?_
    set_option smartUnfolding false in conv => whnf
    refine br_intro (fun h2 => ?_) (fun h2 => ?_) <;> set_option smartUnfolding false in conv => whnf
    · have h2 : V.has D (.mk k1 n1 ks1) (.mk uk un us) = false := by simpa using h2
      exact rdB (by rw [← hs, h2]; rfl)
    · have h2 : V.has D (.mk k1 n1 ks1) (.mk uk un us) = true := by simpa using h2
      rw [h2, Bool.true_and] at hs
      exact ⟨i + 1, ⟨h, hs⟩, weak_sub ⟨(by kernel_rfl), (by kernel_rfl), (by kernel_rfl), (by kernel_rfl), sUp h hl, trivial⟩, subUp h⟩
  · replace h : ¬ i < ks.length := by have := dF h; rw [V.pvL_len] at this; simpa using this
    rw [List.drop_of_length_le (by omega), V.hasA_nil] at hs
    exact rdB hs

theorem rhas8 (D : List Dt) (k n : Int) (ks : List V) (tn uk un : Int) (us : List V) (hq : ∀ v ∈ ks, Det Tryz.prog 36 [.lst 3 (Dt.pvL D), v.pv, V.ag uk un us] (.bool (V.has D v (.mk uk un us)))) :
    Det Tryz.prog 36 [.lst 3 (Dt.pvL D), V.ag k n ks, .agg [.int .i64 8, .int .i64 tn, .lst 3 [V.ag uk un us]]] (.bool (V.has D (.mk k n ks) (.mk 8 tn [.mk uk un us]))) := by
  generalize hR : V.has D (.mk k n ks) (.mk 8 tn [.mk uk un us]) = R
  rw [V.has_t8] at hR
  refine det_of_vc' (E := S.E 0) rfl fol Tryz.func36 rfl rfl (slots := [6]) rfl rfl fun hw => ?_
  have hl := V.lenle hw.2.1
  set_option smartUnfolding false in conv => whnf
  refine br_intro (fun g1 => ?_) (fun g1 => ?_) <;> set_option smartUnfolding false in conv => whnf
  · have g1 : ¬ k = 7 := by simpa using g1
    exact rdB (by rw [← hR, decide_eq_false g1]; rfl)
  have g1 : k = 7 := by simpa using g1
  refine br_intro (fun g2 => ?_) (fun g2 => ?_) <;> set_option smartUnfolding false in conv => whnf
  · have g2 : ¬ ((V.pvL ks).length : Int) = 1 := by simpa using g2
    rw [V.pvL_len] at g2
    exact rdB (by rw [← hR, V.hasE_none D _ ks (by omega)]; simp)
  have g2 : ((V.pvL ks).length : Int) = 1 := by simpa using g2
  rw [V.pvL_len] at g2
  refine br_intro (fun g3 => ?_) (fun g3 => ?_) <;> set_option smartUnfolding false in conv => whnf
  · have g3 : ¬ n = 0 := by simpa using g3
    exact rdB (by rw [← hR, decide_eq_false g3]; simp)
  have g3 : n = 0 := by simpa using g3
  rw [decide_eq_true g1, decide_eq_true g3, Bool.true_and, Bool.true_and, ← V.hasA_one D _ ks (by omega)] at hR
  refine vloop_intro (σ := Nat) (fun i => i ≤ ks.length ∧ V.hasA D (ks.drop i) (.mk uk un us) = R)
    (fun i => [(0, .pv (.lst 3 (Dt.pvL D))), (4, .bp 0 0), (5, .bp 1 0), (7, .pv (.int .i64 (V.pvL ks).length)), (10, .pv (.int .i64 i))])
    (fun _ => [.box 25 [.pv (.int .i64 k), .pv (.int .i64 n), .pv (.lst 3 (V.pvL ks))], .box 28 [.pv (.int .i64 8), .pv (.int .i64 tn), .pv (.lst 3 [V.ag uk un us])]]) (fun i => ks.length - i) 0 ⟨by simp, by simpa using hR⟩ (weak_sub ⟨(by kernel_rfl), (by kernel_rfl), (by kernel_rfl), (by kernel_rfl), (by kernel_rfl), trivial⟩) ?_
  rintro i ⟨hi, hs⟩
  set_option smartUnfolding false in conv => whnf
  refine br_intro (fun h => ?_) (fun h => ?_) <;> set_option smartUnfolding false in conv => whnf
  · replace h : i < ks.length := by have := dT h; rw [V.pvL_len] at this; simpa using this
    refine V.get_elim h fun k1 n1 ks1 hv hg hg0 hd => ?_
    rw [hd, V.hasA_cons] at hs
    have hq1 := hq _ hv
    rw [V.pv_mk] at hq1
    refine ⟨V.ag k1 n1 ks1, ⟨by simp, by simpa using hg⟩, ?_⟩
    set_option smartUnfolding false in conv => whnf
    refine ⟨V.ag uk un us, ⟨by omega, rfl⟩, ?_⟩
    set_option smartUnfolding false in conv => whnf
    refine acall_det (ps := [.lst 3 (Dt.pvL D), V.ag k1 n1 ks1, V.ag uk un us]) hq1 ?_
    set_option smartUnfolding false in conv => whnf
    refine br_intro (fun h2 => ?_) (fun h2 => ?_) <;> set_option smartUnfolding false in conv => whnf
    · have h2 : V.has D (.mk k1 n1 ks1) (.mk uk un us) = false := by simpa using h2
      exact rdB (by rw [← hs, h2]; rfl)
    · have h2 : V.has D (.mk k1 n1 ks1) (.mk uk un us) = true := by simpa using h2
      rw [h2, Bool.true_and] at hs
      exact ⟨i + 1, ⟨h, hs⟩, weak_sub ⟨(by kernel_rfl), (by kernel_rfl), (by kernel_rfl), (by kernel_rfl), sUp h hl, trivial⟩, subUp h⟩
  · replace h : ¬ i < ks.length := by have := dF h; rw [V.pvL_len] at this; simpa using this
    rw [List.drop_of_length_le (by omega), V.hasA_nil] at hs
    exact rdB hs

end Go.AM

set_option linter.all false
set_option maxRecDepth 20000
set_option maxHeartbeats 4000000
namespace Go.AM
open Go.Proofs

theorem rhas1 (D : List Dt) (k n : Int) (ks : List V) (tn : Int) (ts : List V) :
    Det Tryz.prog 36 [.lst 3 (Dt.pvL D), V.ag k n ks, V.ag 1 tn ts] (.bool (V.has D (.mk k n ks) (.mk 1 tn ts))) := by
  generalize hR : V.has D (.mk k n ks) (.mk 1 tn ts) = R
  rw [V.has_t1] at hR
  refine det_of_vc' (E := S.E 0) rfl fol Tryz.func36 rfl rfl (slots := [6]) rfl rfl fun hw => ?_
  have hl := V.lenle hw.2.1
  set_option smartUnfolding false in conv => whnf
  refine br_intro (fun g1 => ?_) (fun g1 => ?_) <;> set_option smartUnfolding false in conv => whnf
  · refine br_intro (fun g2 => ?_) (fun g2 => ?_) <;> set_option smartUnfolding false in conv => whnf
    · refine br_intro (fun g3 => ?_) (fun g3 => ?_) <;> set_option smartUnfolding false in conv => whnf
      · refine rdB ?_
        rw [V.pvL_len, ← hR]
        rw [g1, g2, g3]; rfl
      · exact rdB (by rw [← hR, g3]; simp)
    · exact rdB (by rw [← hR, g2]; simp)
  · exact rdB (by rw [← hR, g1]; rfl)
theorem rhas2 (D : List Dt) (k n : Int) (ks : List V) (tn : Int) (ts : List V) :
    Det Tryz.prog 36 [.lst 3 (Dt.pvL D), V.ag k n ks, V.ag 2 tn ts] (.bool (V.has D (.mk k n ks) (.mk 2 tn ts))) := by
  generalize hR : V.has D (.mk k n ks) (.mk 2 tn ts) = R
  rw [V.has_t2] at hR
  refine det_of_vc' (E := S.E 0) rfl fol Tryz.func36 rfl rfl (slots := [6]) rfl rfl fun hw => ?_
  have hl := V.lenle hw.2.1
  set_option smartUnfolding false in conv => whnf
  refine br_intro (fun g1 => ?_) (fun g1 => ?_) <;> set_option smartUnfolding false in conv => whnf
  · refine br_intro (fun g2 => ?_) (fun g2 => ?_) <;> set_option smartUnfolding false in conv => whnf
    · refine rdB ?_
      rw [V.pvL_len, ← hR]
      rw [g1, g2]; rfl
    · refine br_intro (fun g3 => ?_) (fun g3 => ?_) <;> set_option smartUnfolding false in conv => whnf
      · refine rdB ?_
        rw [V.pvL_len, ← hR]
        rw [g1, g2, g3]; rfl
      · exact rdB (by rw [← hR, g2, g3]; simp)
  · exact rdB (by rw [← hR, g1]; rfl)
theorem rhas3 (D : List Dt) (k n : Int) (ks : List V) (tn : Int) (ts : List V) :
    Det Tryz.prog 36 [.lst 3 (Dt.pvL D), V.ag k n ks, V.ag 3 tn ts] (.bool (V.has D (.mk k n ks) (.mk 3 tn ts))) := by
  generalize hR : V.has D (.mk k n ks) (.mk 3 tn ts) = R
  rw [V.has_t3] at hR
  refine det_of_vc' (E := S.E 0) rfl fol Tryz.func36 rfl rfl (slots := [6]) rfl rfl fun hw => ?_
  have hl := V.lenle hw.2.1
  set_option smartUnfolding false in conv => whnf
  refine br_intro (fun g1 => ?_) (fun g1 => ?_) <;> set_option smartUnfolding false in conv => whnf
  · refine br_intro (fun g2 => ?_) (fun g2 => ?_) <;> set_option smartUnfolding false in conv => whnf
    · refine rdB ?_
      rw [V.pvL_len, ← hR]
      rw [g1, g2]; rfl
    · exact rdB (by rw [← hR, g2]; simp)
  · exact rdB (by rw [← hR, g1]; rfl)
theorem rhas6 (D : List Dt) (k n : Int) (ks : List V) (tn : Int) (ts : List V) (hE : Det Tryz.prog 62 [.lst 3 (Dt.pvL D), .lst 3 (V.pvL ks), .lst 3 (V.pvL ts)] (.bool (V.hasE D ks ts))) :
    Det Tryz.prog 36 [.lst 3 (Dt.pvL D), V.ag k n ks, V.ag 6 tn ts] (.bool (V.has D (.mk k n ks) (.mk 6 tn ts))) := by
  generalize hR : V.has D (.mk k n ks) (.mk 6 tn ts) = R
  rw [V.has_t6] at hR
  refine det_of_vc' (E := S.E 0) rfl fol Tryz.func36 rfl rfl (slots := [6]) rfl rfl fun hw => ?_
  have hl := V.lenle hw.2.1
  set_option smartUnfolding false in conv => whnf
  refine br_intro (fun g1 => ?_) (fun g1 => ?_) <;> set_option smartUnfolding false in conv => whnf
  · refine br_intro (fun g2 => ?_) (fun g2 => ?_) <;> set_option smartUnfolding false in conv => whnf
    · refine acall_det (ps := [.lst 3 (Dt.pvL D), .lst 3 (V.pvL ks), .lst 3 (V.pvL ts)]) hE ?_
      set_option smartUnfolding false in conv => whnf
      exact rdB (by rw [← hR, g1, g2]; rfl)
    · exact rdB (by rw [← hR, g2]; simp)
  · exact rdB (by rw [← hR, g1]; rfl)
theorem rhas9 (D : List Dt) (k n : Int) (ks : List V) (tn : Int) (ts : List V) :
    Det Tryz.prog 36 [.lst 3 (Dt.pvL D), V.ag k n ks, V.ag 9 tn ts] (.bool (V.has D (.mk k n ks) (.mk 9 tn ts))) := by
  generalize hR : V.has D (.mk k n ks) (.mk 9 tn ts) = R
  rw [V.has_t9] at hR
  refine det_of_vc' (E := S.E 0) rfl fol Tryz.func36 rfl rfl (slots := [6]) rfl rfl fun hw => ?_
  have hl := V.lenle hw.2.1
  set_option smartUnfolding false in conv => whnf
  refine br_intro (fun g1 => ?_) (fun g1 => ?_) <;> set_option smartUnfolding false in conv => whnf
  · refine br_intro (fun g2 => ?_) (fun g2 => ?_) <;> set_option smartUnfolding false in conv => whnf
    · refine br_intro (fun g3 => ?_) (fun g3 => ?_) <;> set_option smartUnfolding false in conv => whnf
      · refine rdB ?_
        rw [V.pvL_len, ← hR]
        rw [g1, g2, g3]; rfl
      · exact rdB (by rw [← hR, g3]; simp)
    · exact rdB (by rw [← hR, g2]; simp)
  · exact rdB (by rw [← hR, g1]; rfl)
theorem conOf_big {D : List Dt} (hv : dvalid D = true) {tn : Int} {ts : List V} {n : Int} (h : n < 0 ∨ 8 ≤ n) : fieldsS D (.mk 5 tn ts) n = Option.none := by
  cases hf : fieldsS D (.mk 5 tn ts) n with
  | none => rfl
  | some fs =>
    exfalso
    unfold fieldsS conOf at hf
    simp only at hf
    by_cases hk : True ∧ 0 ≤ tn ∧ 0 ≤ n
    · rw [if_pos hk] at hf
      cases hx : D[tn.toNat]? with
      | none => rw [hx] at hf; simp at hf
      | some x =>
        rw [hx] at hf
        unfold dvalid at hv
        simp only [Bool.and_eq_true] at hv
        have hd := decsR_get hv.2.1 hx
        have hc : x.cons[n.toNat]? = Option.none := List.getElem?_eq_none (by omega)
        simp only [hc] at hf
        by_cases hl : (ts.length : Int) = x.vars
        · rw [if_pos hl] at hf; simp at hf
        · rw [if_neg hl] at hf; simp at hf
    · rw [if_neg hk] at hf; simp at hf
theorem rhas5 {D : List Dt} (hv : dvalid D = true) (k n : Int) (ks : List V) (tn : Int) (ts : List V)
    (hF : Det Tryz.prog 63 [.lst 3 (Dt.pvL D), V.ag 5 tn ts, .int .i64 n] (optP [] (fieldsS D (.mk 5 tn ts) n)))
    (hE : ∀ fs, fieldsS D (.mk 5 tn ts) n = some fs → Det Tryz.prog 62 [.lst 3 (Dt.pvL D), .lst 3 (V.pvL ks), .lst 3 (V.pvL fs)] (.bool (V.hasE D ks fs))) :
    Det Tryz.prog 36 [.lst 3 (Dt.pvL D), V.ag k n ks, V.ag 5 tn ts] (.bool (V.has D (.mk k n ks) (.mk 5 tn ts))) := by
  generalize hR : V.has D (.mk k n ks) (.mk 5 tn ts) = R
  rw [V.has_t5] at hR
  refine det_of_vc' (E := S.E 0) rfl fol Tryz.func36 rfl rfl (slots := [6]) rfl rfl fun hw => ?_
  have hl := V.lenle hw.2.1
  set_option smartUnfolding false in conv => whnf
  refine br_intro (fun g1 => ?_) (fun g1 => ?_) <;> set_option smartUnfolding false in conv => whnf
  · have g1 : ¬ k = 5 := by simpa using g1
    exact rdB (by rw [← hR, decide_eq_false g1]; rfl)
  have g1 : k = 5 := by simpa using g1
  rw [decide_eq_true g1, Bool.true_and] at hR
  refine br_intro (fun g2 => ?_) (fun g2 => ?_) <;> set_option smartUnfolding false in conv => whnf
  · rw [conOf_big hv (.inl (dT g2))] at hR
    exact rdB hR
  refine br_intro (fun g3 => ?_) (fun g3 => ?_) <;> set_option smartUnfolding false in conv => whnf
  · rw [conOf_big hv (.inr (dT g3))] at hR
    exact rdB hR
  cases hfs : fieldsS D (.mk 5 tn ts) n with
  | none =>
    rw [hfs, optP_none] at hF
    rw [hfs] at hR
    refine acall_det (ps := [.lst 3 (Dt.pvL D), V.ag 5 tn ts, .int .i64 n]) hF ?_
    set_option smartUnfolding false in conv => whnf
    exact rdB hR
  | some fs =>
    rw [hfs, optP_some, List.nil_append] at hF
    rw [hfs] at hR
    refine acall_det (ps := [.lst 3 (Dt.pvL D), V.ag 5 tn ts, .int .i64 n]) hF ?_
    set_option smartUnfolding false in conv => whnf
    refine acall_det (ps := [.lst 3 (Dt.pvL D), .lst 3 (V.pvL ks), .lst 3 (V.pvL fs)]) (hE fs hfs) ?_
    set_option smartUnfolding false in conv => whnf
    exact rdB hR

theorem rhas_det {D : List Dt} (hD : DOK D) (hv : dvalid D = true) (v : V) : ∀ t, Good D t → Det Tryz.prog 36 [.lst 3 (Dt.pvL D), v.pv, t.pv] (.bool (V.has D v t)) := by
  refine V.recOn' (p := fun v => ∀ t, Good D t → Det Tryz.prog 36 [.lst 3 (Dt.pvL D), v.pv, t.pv] (.bool (V.has D v t))) (fun k n ks ih t hg => ?_) v
  obtain ⟨tk, tn, ts⟩ := t
  have hE : ∀ us : List V, (∀ u ∈ us, Good D u) → Det Tryz.prog 62 [.lst 3 (Dt.pvL D), .lst 3 (V.pvL ks), .lst 3 (V.pvL us)] (.bool (V.hasE D ks us)) := fun us hus => rall_of D ks us fun i v t h1 h2 => ih v (List.mem_of_getElem? h1) t (hus t (List.mem_of_getElem? h2))
  have hF := rfields_det hD (.mk tk tn ts) (by have := hg.cnt; omega)
  have hFg : ∀ fs, fieldsS D (.mk tk tn ts) n = some fs → ∀ f ∈ fs, Good D f := fun fs hf => hg.fields hv hf
  rw [V.pv_mk] at hF
  rw [V.pv_mk, V.pv_mk]
  rcases hg.kind with rfl | rfl | rfl | rfl | rfl | rfl | rfl | rfl
  · exact rhas1 D k n ks tn ts
  · exact rhas2 D k n ks tn ts
  · exact rhas3 D k n ks tn ts
  · exact rhas5 hv k n ks tn ts (hF n) fun fs hfs => hE fs (hFg fs hfs)
  · exact rhas6 D k n ks tn ts (hE ts fun u hu => hg.kid hu)
  · obtain ⟨u, rfl⟩ := hg.one (.inl rfl)
    have hgu : Good D u := hg.kid (by simp)
    obtain ⟨uk, un, us⟩ := u
    have h := rhas7 D k n ks tn uk un us fun v hvm => by have := ih v hvm _ hgu; rwa [V.pv_mk (k := uk)] at this
    have e : V.pvL [V.mk uk un us] = [V.ag uk un us] := by rw [V.pvL_cons, V.pvL_nil, V.pv_mk]
    rw [← e] at h
    exact h
  · obtain ⟨u, rfl⟩ := hg.one (.inr rfl)
    have hgu : Good D u := hg.kid (by simp)
    obtain ⟨uk, un, us⟩ := u
    have h := rhas8 D k n ks tn uk un us fun v hvm => by have := ih v hvm _ hgu; rwa [V.pv_mk (k := uk)] at this
    have e : V.pvL [V.mk uk un us] = [V.ag uk un us] := by rw [V.pvL_cons, V.pvL_nil, V.pv_mk]
    rw [← e] at h
    exact h
  · exact rhas9 D k n ks tn ts

/-! ### Both HasType -/
theorem wrap_dec' {n : Int} (h1 : -1000000 ≤ n) (h2 : n ≤ 1000000) : IntKind.wrap .i64 (n - 1) = n - 1 := wrapI (by omega) (by omega)
mutual
theorem V.val_iff : ∀ (v : V) (n : Int), 0 ≤ n → n ≤ 100000 → (V.val v n).1 = decide ((v.cnt : Int) ≤ n) ∧ ((V.val v n).1 = true → (V.val v n).2 = n - v.cnt)
  | .mk k m ks, n, h0, h1 => by
    rw [V.val_mk, wrap_dec' (by omega) (by omega), V.cnt_mk]
    by_cases h : n - 1 < 0
    · rw [if_pos h]
      exact ⟨by rw [decide_eq_false (by omega)], fun h => by cases h⟩
    · rw [if_neg h]
      have := V.valL_iff ks (n - 1) (by omega) (by omega)
      refine ⟨by rw [this.1]; exact decide_eq_decide.2 (by omega), fun h' => by rw [this.2 h']; omega⟩
theorem V.valL_iff : ∀ (l : List V) (n : Int), 0 ≤ n → n ≤ 100000 → (V.valL l n).1 = decide ((V.cntL l : Int) ≤ n) ∧ ((V.valL l n).1 = true → (V.valL l n).2 = n - V.cntL l)
  | [], n, h0, h1 => by rw [V.valL_nil, V.cntL_nil]; exact ⟨by rw [decide_eq_true (by omega)], fun _ => by simp⟩
  | v :: l, n, h0, h1 => by
    rw [V.valL_cons, V.cntL_cons]
    have hv := V.val_iff v n h0 h1
    have hp := V.cnt_pos v
    cases hx : V.val v n with
    | mk b n' =>
      rw [hx] at hv
      cases b with
      | false =>
        simp only at hv ⊢
        have := of_decide_eq_false hv.1.symm
        exact ⟨by rw [decide_eq_false (by omega)], fun h => by cases h⟩
      | true =>
        simp only at hv ⊢
        have h1' := of_decide_eq_true hv.1.symm
        have e := hv.2 trivial
        subst e
        have := V.valL_iff l (n - v.cnt) (by omega) (by omega)
        exact ⟨by rw [this.1]; exact decide_eq_decide.2 (by omega), fun h' => by rw [this.2 h']; omega⟩
end

/-- What both answer. -/
noncomputable def hasS (D : List Dt) (v t : V) : Bool := known D t && decide (v.cnt ≤ 5000) && V.has D v t
theorem known_good {D : List Dt} {t : V} (h : known D t = true) : dvalid D = true ∧ Good D t := by
  unfold known V.okW at h
  simp only [Bool.and_eq_true, decide_eq_true_eq] at h
  exact ⟨h.1, h.2.2, h.2.1⟩
theorem hasType_det {D : List Dt} (hD : DOK D) (hN : DN D) (v t : V) : Det Tryz.prog 11 [.lst 3 (Dt.pvL D), v.pv, t.pv] (.bool (hasS D v t)) := by
  have h1 := known_det hD hN t
  have h2 := vnodes_det v 5001 (by omega) (by omega)
  have h3 : known D t = true → Det Tryz.prog 32 [.lst 3 (Dt.pvL D), v.pv, t.pv] (.bool (V.has D v t)) := fun h => has_det hD (known_good h).1 v t (known_good h).2
  have hc : decide (min (v.cnt : Int) 5001 ≤ 5000) = decide (v.cnt ≤ 5000) := decide_eq_decide.2 (by omega)
  generalize hm : min (v.cnt : Int) 5001 = m at h2 hc
  generalize hR : hasS D v t = R
  unfold hasS at hR
  rw [← hc] at hR
  generalize V.has D v t = q at h3 hR
  generalize hkk : known D t = kk at h1 h3 hR
  obtain ⟨k, n, ks⟩ := v
  obtain ⟨tk, tn, ts⟩ := t
  rw [V.pv_mk] at h1 h2 h3
  rw [V.pv_mk] at h3
  rw [V.pv_mk, V.pv_mk]
  refine det_of_vc' (E := S.E 0) rfl fol Tryz.func11 rfl rfl (slots := [6]) rfl rfl fun hw => ?_
  set_option smartUnfolding false in conv => whnf
  refine acall_det (ps := [.lst 3 (Dt.pvL D), V.ag tk tn ts]) h1 ?_
  set_option smartUnfolding false in conv => whnf
  refine br_intro (fun g => ?_) (fun g => ?_) <;> set_option smartUnfolding false in conv => whnf
  · refine acall_det (ps := [V.ag k n ks, .int .i64 5001]) h2 ?_
    set_option smartUnfolding false in conv => whnf
    refine br_intro (fun g2 => ?_) (fun g2 => ?_) <;> set_option smartUnfolding false in conv => whnf
    · refine acall_det (ps := [.lst 3 (Dt.pvL D), V.ag k n ks, V.ag tk tn ts]) (h3 g) ?_
      set_option smartUnfolding false in conv => whnf
      exact rdB (by rw [← hR, g, g2]; rfl)
    · exact rdB (by rw [← hR, g2]; simp)
  · exact rdB (by rw [← hR, g]; rfl)
theorem rhasType_det {D : List Dt} (hD : DOK D) (hN : DN D) (v t : V) (ht : t.cnt ≤ 1000000) : Det Tryz.prog 12 [.lst 3 (Dt.pvL D), v.pv, t.pv] (.bool (hasS D v t)) := by
  have h1 := validData_r hD hN
  have h2 := rValid_det D 0 t ht
  have h4 := few_hdet v 5000
  have h3 : known D t = true → Det Tryz.prog 36 [.lst 3 (Dt.pvL D), v.pv, t.pv] (.bool (V.has D v t)) := fun h => rhas_det hD (known_good h).1 v t (known_good h).2
  have hc : (V.val v 5000).1 = decide (v.cnt ≤ 5000) := by rw [(V.val_iff v 5000 (by omega) (by omega)).1]; exact decide_eq_decide.2 (by omega)
  generalize hR : hasS D v t = R
  unfold hasS at hR
  rw [← hc] at hR
  generalize V.has D v t = q at h3 hR
  unfold known at h3 hR
  generalize dvalid D = dv at h1 h3 hR
  generalize V.okW D 0 t = ow at h2 h3 hR
  generalize V.val v 5000 = vv at h4 hR
  obtain ⟨k, n, ks⟩ := v
  obtain ⟨tk, tn, ts⟩ := t
  rw [V.pv_mk] at h2 h3 h4
  rw [V.pv_mk] at h3
  rw [V.pv_mk, V.pv_mk]
  refine det_of_vc' (E := S.E 0) rfl fol Tryz.func12 rfl rfl (slots := [6]) rfl rfl fun hw => ?_
  set_option smartUnfolding false in conv => whnf
  refine acall_det (ps := [.lst 3 (Dt.pvL D)]) h1 ?_
  set_option smartUnfolding false in conv => whnf
  refine br_intro (fun g => ?_) (fun g => ?_) <;> set_option smartUnfolding false in conv => whnf
  · refine acall_det (ps := [.lst 3 (Dt.pvL D), V.ag tk tn ts, .int .i64 0]) h2 ?_
    set_option smartUnfolding false in conv => whnf
    refine br_intro (fun g2 => ?_) (fun g2 => ?_) <;> set_option smartUnfolding false in conv => whnf
    · refine acall_hdet h4 [2] 3 rfl rfl ⟨rfl, trivial⟩ ?_
      set_option smartUnfolding false in conv => whnf
      refine br_intro (fun g3 => ?_) (fun g3 => ?_) <;> set_option smartUnfolding false in conv => whnf
      · refine acall_det (ps := [.lst 3 (Dt.pvL D), V.ag k n ks, V.ag tk tn ts]) (h3 (by rw [g, g2]; rfl)) ?_
        set_option smartUnfolding false in conv => whnf
        exact rdB (by rw [← hR, g, g2, g3]; rfl)
      · exact rdB (by rw [← hR, g3]; simp)
    · exact rdB (by rw [← hR, g2]; simp)
  · exact rdB (by rw [← hR, g]; rfl)
end Go.AM

set_option linter.all false
set_option maxRecDepth 20000
set_option maxHeartbeats 4000000
namespace Go.AM
open Go.Proofs

/-! ### The nodes of a value of a data type -/
mutual
def V.pre (D : List Dt) (d : Int) : V → List V
  | .mk k n ks => .mk k n ks :: V.preL D d ks (recS D d n)
def V.preL (D : List Dt) (d : Int) : List V → List Bool → List V
  | [], _ => []
  | v :: l, bs => match bs with
    | b :: bs => (if b then V.pre D d v else []) ++ V.preL D d l bs
    | [] => []
end
theorem V.pre_mk (D : List Dt) (d k n : Int) (ks : List V) : V.pre D d (.mk k n ks) = .mk k n ks :: V.preL D d ks (recS D d n) := by rw [V.pre]
theorem V.preL_nil (D : List Dt) (d : Int) (bs : List Bool) : V.preL D d [] bs = [] := by rw [V.preL]
theorem V.preL_cons (D : List Dt) (d : Int) (v : V) (l : List V) (b : Bool) (bs : List Bool) : V.preL D d (v :: l) (b :: bs) = (if b then V.pre D d v else []) ++ V.preL D d l bs := by rw [V.preL]
mutual
theorem V.pre_len (D : List Dt) (d : Int) : ∀ v : V, (V.pre D d v).length ≤ v.cnt
  | .mk k n ks => by
    rw [V.pre_mk, V.cnt_mk, List.length_cons]
    have := V.preL_len D d ks (recS D d n); omega
theorem V.preL_len (D : List Dt) (d : Int) : ∀ (l : List V) (bs : List Bool), (V.preL D d l bs).length ≤ V.cntL l
  | [], bs => by rw [V.preL_nil]; simp
  | v :: l, [] => by rw [V.preL]; simp
  | v :: l, b :: bs => by
    rw [V.preL_cons, V.cntL_cons, List.length_append]
    have h1 := V.pre_len D d v
    have h2 := V.preL_len D d l bs
    cases b <;> simp <;> omega
end
attribute [irreducible] V.pre V.preL
theorem flds_map {ts : List V} : ∀ {l fs : List V}, flds ts l = some fs → fs = l.map (V.sub ts)
  | [], fs, h => by simp [flds_nil] at h; subst h; rfl
  | a :: l, fs, h => by
    rw [flds_cons] at h
    split at h
    · cases h
    · cases hr : flds ts l with
      | none => rw [hr] at h; cases h
      | some r =>
        rw [hr] at h
        cases h
        rw [flds_map hr]; rfl
theorem subL_self (ts : List V) : ∀ (l : List V) (i : Nat), selfArgs l i = true → i + l.length = ts.length → V.subL ts l = ts.drop i
  | [], i, _, h => by rw [V.subL_nil, List.drop_of_length_le (by simp at h; omega)]
  | .mk k n us :: l, i, hs, h => by
    rw [selfArgs_cons] at hs
    simp only [Bool.and_eq_true, decide_eq_true_eq, List.length_cons] at hs h
    obtain ⟨⟨⟨rfl, rfl⟩, _⟩, hs⟩ := hs
    have hi : i < ts.length := by omega
    rw [V.subL_cons, V.sub_mk, if_pos ⟨rfl, by omega, by omega⟩, subL_self ts l (i + 1) hs (by omega), List.drop_eq_getElem_cons hi]
    congr 1
    simp [hi]
theorem sub_self {d : Int} {ts : List V} {a : V} (h : isSelf d ts.length a = true) : V.sub ts a = .mk 5 d ts := by
  obtain ⟨k, n, us⟩ := a
  rw [isSelf_mk] at h
  simp only [Bool.and_eq_true, decide_eq_true_eq] at h
  obtain ⟨⟨⟨rfl, rfl⟩, hl⟩, hs⟩ := h
  rw [V.sub_mk, if_neg (by omega), subL_self ts us 0 hs (by omega)]; rfl
theorem V.hasE_get {D : List Dt} : ∀ {ks fs : List V}, V.hasE D ks fs = true → ks.length = fs.length ∧ ∀ (i : Nat) v f, ks[i]? = some v → fs[i]? = some f → V.has D v f = true
  | [], [], _ => ⟨rfl, by simp⟩
  | [], f :: fs, h => by rw [← V.hasE_eq, eqL_len _ _ _ (by simp)] at h; cases h
  | v :: ks, [], h => by rw [← V.hasE_eq, eqL_len _ _ _ (by simp)] at h; cases h
  | v :: ks, f :: fs, h => by
    rw [V.hasE_cons, Bool.and_eq_true] at h
    have := V.hasE_get h.2
    refine ⟨by simp [this.1], fun i v' f' h1 h2 => ?_⟩
    cases i with
    | zero => simp at h1 h2; subst h1; subst h2; exact h.1
    | succ i => exact this.2 i v' f' (by simpa using h1) (by simpa using h2)
/-- The recursive arguments of a value of a data type are such values. -/
theorem has_rec {D : List Dt} {k n d : Int} {ks ts : List V} (h : V.has D (.mk k n ks) (.mk 5 d ts) = true) : (recS D d n).length = ks.length ∧ ∀ (i : Nat) v, ks[i]? = some v → (recS D d n)[i]? = some true → V.has D v (.mk 5 d ts) = true := by
  rw [V.has_t5, Bool.and_eq_true] at h
  have h := h.2
  cases hf : fieldsS D (.mk 5 d ts) n with
  | none => rw [hf] at h; cases h
  | some fs =>
    rw [hf] at h
    have hE := V.hasE_get h
    unfold fieldsS at hf
    cases hc : conOf D (.mk 5 d ts) n with
    | none => rw [hc] at hf; cases hf
    | some c =>
      rw [hc] at hf
      have hf := flds_map (ts := ts) hf
      unfold conOf at hc
      simp only at hc
      by_cases hk : True ∧ 0 ≤ d ∧ 0 ≤ n
      · rw [if_pos hk] at hc
        cases hx : D[d.toNat]? with
        | none => rw [hx] at hc; cases hc
        | some x =>
          rw [hx] at hc
          simp only at hc
          by_cases hl : (ts.length : Int) = x.vars
          · rw [if_pos hl] at hc
            have er : recS D d n = c.args.map (isSelf d x.vars) := by
              unfold recS conAt
              rw [if_pos ⟨hk.2.1, hk.2.2⟩, hx]
              simp only [hc]
            rw [er]
            refine ⟨by rw [List.length_map, hE.1, hf, List.length_map], fun i v h1 h2 => ?_⟩
            rw [List.getElem?_map] at h2
            cases ha : c.args[i]? with
            | none => rw [ha] at h2; cases h2
            | some a =>
              rw [ha] at h2
              have hs : isSelf d x.vars a = true := by simpa using h2
              rw [← hl] at hs
              refine hE.2 i v _ h1 ?_
              rw [hf, List.getElem?_map, ha, Option.map_some, sub_self hs]
          · rw [if_neg hl] at hc; cases hc
      · rw [if_neg hk] at hc; cases hc

/-! ### Rows -/
theorem sRow {ρ : Nat → Nat} {k0 k n n' : Nat} (h : ρ k0 = k) (e : n = n') : some (AV.row k n) = some (renA ρ (.row k0 n')) := by subst h; subst e; rfl
theorem blkR_row {ρ : Nat → Nat} {H : Heap} {k t sz : Nat} {xs : List AV} {ps : List PV} {l : Heap} (h : hget H (ρ k) = .row t sz xs) (e : xs = pvs ps) (hl : BlkR ρ H (k + 1) l) : BlkR ρ H k (.row t sz (pvs ps) :: l) := by
  refine ⟨?_, hl⟩
  show renB ρ (.row t sz (pvs ps)) = _
  rw [h, e]
  simp only [renB, renL_pvs]
theorem app_any {ps : List PV} {y : PV} {n : Nat} (hn : n = ps.length) : appL n (pvs ps) 1 [.pv y] = pvs (ps ++ [y]) := by
  subst hn
  simp only [appL, pvs_map, List.map_append, List.map_cons, List.map_nil, List.take_succ_cons, List.take_nil]
  rw [List.take_of_length_le (by simp)]
theorem boolsP_got {l : List Bool} {i : Nat} {b : Bool} (h : l[i]? = some b) : (boolsP l)[i]? = some (.bool b) := by simp [boolsP, h]

/-- value.clone. -/
theorem vclone_det (t : V) : t.cnt ≤ 1000000 → Det Tryz.prog 41 [t.pv] t.pv := by
  refine V.recOn' (p := fun t => t.cnt ≤ 1000000 → Det Tryz.prog 41 [t.pv] t.pv) (fun k n ts ih hc => ?_) t
  rw [V.cnt_mk] at hc
  have hlc := V.len_cntL ts
  rw [V.pv_mk]
  refine det_of_vcc (E := S.E 0) rfl fol Tryz.func41 rfl rfl (cell := (2, 25)) rfl rfl fun hw => ?_
  have hl := V.lenle hw.1
  set_option smartUnfolding false in conv => whnf
  refine vloop_intro (σ := Nat × List PV) (fun x => x.1 ≤ ts.length ∧ x.2 ++ V.pvL (ts.drop x.1) = V.pvL ts ∧ x.2.length = x.1) (fun x => [(2, .bp 0 0), (3, .bp 1 0), (12, .pv (.lst 3 (V.pvL ts))), (13, .pv (.int .i64 (V.pvL ts).length)), (14, .pv (.int .i64 x.1))])
    (fun x => [.box 25 [.pv (.int .i64 0), .pv (.int .i64 0), .pv .nils], .box 25 [.pv (.int .i64 k), .pv (.int .i64 n), lsV 2 x.2], lsB 25 3 x.2])
    (fun x => ts.length - x.1) (0, []) ⟨by simp, by simp, rfl⟩ (weak_ren [1, 2, 3] 4 (by kernel_rfl) (blk (by kernel_rfl) (blk (by kernel_rfl) (blkD trivial))) ⟨(by kernel_rfl), (by kernel_rfl), (by kernel_rfl), (by kernel_rfl), (by kernel_rfl), trivial⟩) ?_
  rintro ⟨i, ps⟩ ⟨hi, hs, hpl⟩
  simp only at hi hs hpl
  set_option smartUnfolding false in conv => whnf
  refine br_intro (fun h => ?_) (fun h => ?_) <;> set_option smartUnfolding false in conv => whnf
  · replace h : i < ts.length := by have := dT h; rw [V.pvL_len] at this; simpa using this
    refine V.get_elim h fun k' n' ts' hv hg hg0 hd => ?_
    have hih := ih _ hv (by have := V.cnt_mem hv; omega)
    rw [V.pv_mk] at hih
    rw [hd, V.pvL_cons, V.pv_mk] at hs
    refine ⟨V.ag k' n' ts', ⟨by simp, by simpa using hg⟩, ?_⟩
    set_option smartUnfolding false in conv => whnf
    refine acall_det (ps := [V.ag k' n' ts']) hih ?_
    set_option smartUnfolding false in conv => whnf
    refine ⟨Nat.le_refl 1, ?_⟩
    set_option smartUnfolding false in conv => whnf
    cases ps with
    | nil =>
      set_option smartUnfolding false in conv => whnf
      refine ⟨⟨⟨by decide, by decide⟩, by decide⟩, ?_⟩
      set_option smartUnfolding false in conv => whnf
      exact ⟨(i + 1, [] ++ [V.ag k' n' ts']), ⟨h, hs, by simp at hpl ⊢; omega⟩, weak_ren [0, 1, 5] 6 (by kernel_rfl) (blk (by kernel_rfl) (blk (by kernel_rfl) (blk (by kernel_rfl) trivial))) ⟨(by kernel_rfl), (by kernel_rfl), (by kernel_rfl), (by kernel_rfl), sUp h hl, trivial⟩, subUp h⟩
    | cons p ps =>
      set_option smartUnfolding false in conv => whnf
      simp only [List.length_cons] at hpl
      refine ⟨⟨⟨by simp [pvs_len], by simp only [Nat.succ_eq_add_one]; omega⟩, by rw [show ((S.E 0).te 25).bytes = 40 from rfl]; simp only [Nat.succ_eq_add_one]; omega⟩, ?_⟩
      set_option smartUnfolding false in conv => whnf
      exact ⟨(i + 1, (p :: ps) ++ [V.ag k' n' ts']), ⟨h, by rw [← hs]; simp, by simp; omega⟩, weak_ren [0, 1, 5] 6 (by kernel_rfl) (blk (by kernel_rfl) (blk (by simp only [lsV_snoc]; kernel_rfl) (blkR_snoc (by kernel_rfl) trivial))) ⟨(by kernel_rfl), (by kernel_rfl), (by kernel_rfl), (by kernel_rfl), sUp h hl, trivial⟩, subUp h⟩
  · replace h : ¬ i < ts.length := by have := dF h; rw [V.pvL_len] at this; simpa using this
    rw [List.drop_of_length_le (by omega), V.pvL_nil, List.append_nil] at hs
    cases ps with
    | nil =>
      set_option smartUnfolding false in conv => whnf
      exact .le (.agg (.cons (.refl _) (.cons (.refl _) (.cons (ple_nils hs) .nil))))
    | cons p ps =>
      set_option smartUnfolding false in conv => whnf
      exact .mix (.cons (.pv _) (.cons (.pv _) (.cons (rd_lsE (k := 2) hs rfl trivial rfl) .nil)))
end Go.AM

set_option linter.all false
set_option maxRecDepth 20000
set_option maxHeartbeats 4000000
namespace Go.AM
open Go.Proofs

theorem boolsP_len (l : List Bool) : (boolsP l).length = l.length := by simp [boolsP]
theorem drop_bool {l : List Bool} {i : Nat} (h : i < l.length) : ∃ b, l[i]? = some b ∧ (boolsP l)[i]? = some (.bool b) ∧ l.drop i = b :: l.drop (i + 1) :=
  ⟨l[i], by simp [h], boolsP_got (by simp [h]), List.drop_eq_getElem_cons h⟩
/-- The rest of a preorder. -/
def restP (D : List Dt) (d n : Int) (ks : List V) (i : Nat) : List PV := V.pvL (V.preL D d (ks.drop i) ((recS D d n).drop i))
theorem restP_end (D : List Dt) (d n : Int) (ks : List V) (i : Nat) (h : ks.length ≤ i) : restP D d n ks i = [] := by
  unfold restP; rw [List.drop_of_length_le h, V.preL_nil, V.pvL_nil]
theorem pvL_app (l m : List V) : V.pvL (l ++ m) = V.pvL l ++ V.pvL m := by simp [V.pvL_eq]
theorem restP_step {D : List Dt} {d n : Int} {ks : List V} {i : Nat} {v : V} {b : Bool} (hd : ks.drop i = v :: ks.drop (i + 1)) (hb : (recS D d n).drop i = b :: (recS D d n).drop (i + 1)) :
    restP D d n ks i = (if b then V.pvL (V.pre D d v) else []) ++ restP D d n ks (i + 1) := by
  unfold restP
  rw [hd, hb, V.preL_cons, pvL_app]
  cases b <;> simp [V.pvL_nil]
theorem restP_zero (D : List Dt) (d k n : Int) (ks : List V) : V.pvL (V.pre D d (.mk k n ks)) = V.ag k n ks :: restP D d n ks 0 := by
  rw [V.pre_mk, V.pvL_cons, V.pv_mk]; unfold restP; simp
attribute [irreducible] restP
theorem cnt_drop {l : List V} {i : Nat} {v : V} (h : l.drop i = v :: l.drop (i + 1)) : V.cntL (l.drop i) = v.cnt + V.cntL (l.drop (i + 1)) := by rw [h, V.cntL_cons]

theorem eqRow {Hc : Heap} {ρ : Nat → Nat} {k t sz : Nat} {ps : List PV} (h : hget Hc k = .row t sz (pvs ps)) : hget Hc k = renB ρ (.row t sz (pvs ps)) := by
  rw [h]; simp only [renB, renL_pvs]
/-- What both Preorder answer. -/
noncomputable def preS (D : List Dt) (v : V) : V → List V
  | .mk tk tn ts => if tk = 5 ∧ hasS D v (.mk tk tn ts) = true then V.pre D tn v else []
theorem preS_no {D : List Dt} {v : V} {tk tn : Int} {ts : List V} (h : ¬ (tk = 5 ∧ hasS D v (.mk tk tn ts) = true)) : preS D v (.mk tk tn ts) = [] := by show (if _ then _ else _) = _; rw [if_neg h]
theorem preS_yes {D : List Dt} {v : V} {tn : Int} {ts : List V} (h : hasS D v (.mk 5 tn ts) = true) : preS D v (.mk 5 tn ts) = V.pre D tn v := by show (if _ then _ else _) = _; rw [if_pos ⟨rfl, h⟩]
theorem hasS_has {D : List Dt} {v t : V} (h : hasS D v t = true) : V.has D v t = true ∧ v.cnt ≤ 5000 := by
  unfold hasS at h
  simp only [Bool.and_eq_true, decide_eq_true_eq] at h
  exact ⟨h.2, h.1.2⟩
end Go.AM

set_option linter.all false
set_option maxRecDepth 20000
set_option maxHeartbeats 4000000
namespace Go.AM
open Go.Proofs

theorem app_set {ps : List PV} {y : PV} {z : AV} {n : Nat} (hn : n = ps.length) : (appL n (pvs ps) 1 [z]).set (Int.toNat (n : Int)) (.pv y) = pvs (ps ++ [y]) := by
  subst hn
  simp only [appL, pvs_map, List.map_append, List.map_cons, List.map_nil, List.take_succ_cons, List.take_nil, Int.toNat_natCast]
  rw [List.take_of_length_le (by simp), List.set_append]
  simp
theorem app_got {ps : List PV} {z : AV} {n : Nat} (hn : n = ps.length) : (appL n (pvs ps) 1 [z])[Int.toNat (n : Int)]? = some z := by
  subst hn
  simp only [appL, pvs_map, List.take_succ_cons, List.take_nil, Int.toNat_natCast]
  rw [List.take_of_length_le (by simp)]
  simp
/-- The closure's memory: the list so far in row r. -/
abbrev visH (D : List Dt) (tk d : Int) (ts : List V) (x : AV) : List AB := [.box 23 [x], .box 22 [.pv (.lst 3 (Dt.pvL D))], .box 28 [.pv (.int .i64 tk), .pv (.int .i64 d), .pv (.lst 3 (V.pvL ts))], .box 66 [.fn 40 [.bp 0 0, .bp 1 0, .bp 2 0, .bp 3 0]]]
abbrev visA (v : V) : List AV := [.pv v.pv, .bp 0 0, .bp 1 0, .bp 2 0, .bp 3 0]

theorem vis_of {D : List Dt} (hD : DOK D) (tk d : Int) (us : List V) (v : V) : ∀ ts : List V, V.has D v (.mk 5 d ts) = true → ∀ ps : List PV, ps.length + v.cnt ≤ 1000000 →
    HDet Tryz.prog 40 (visA v) (visH D tk d us (.row 4 ps.length) ++ [.row 25 3 (pvs ps)]) (.pv (.tuple []))
      (visH D tk d us (.row 5 (ps ++ V.pvL (V.pre D d v)).length) ++ [.dead, .row 25 3 (pvs (ps ++ V.pvL (V.pre D d v)))]) := by
  refine V.recOn' (p := fun v => ∀ ts : List V, V.has D v (.mk 5 d ts) = true → ∀ ps : List PV, ps.length + v.cnt ≤ 1000000 →
    HDet Tryz.prog 40 (visA v) (visH D tk d us (.row 4 ps.length) ++ [.row 25 3 (pvs ps)]) (.pv (.tuple []))
      (visH D tk d us (.row 5 (ps ++ V.pvL (V.pre D d v)).length) ++ [.dead, .row 25 3 (pvs (ps ++ V.pvL (V.pre D d v)))])) (fun k n ks ih ts hh ps hps => ?_) v
  have hr := has_rec hh
  have hrl := hr.1
  have hk := fun (i : Nat) v (h1 : ks[i]? = some v) h2 => ih v (List.mem_of_getElem? h1) ts (hr.2 i v h1 h2)
  clear ih hr hh
  have hcl := vclone_det (.mk k n ks) (by omega)
  rw [V.cnt_mk] at hps
  have hlc := V.len_cntL ks
  generalize htot : ps ++ V.pvL (V.pre D d (.mk k n ks)) = total
  rw [restP_zero, ← List.singleton_append, ← List.append_assoc] at htot
  unfold visA visH
  rw [V.pv_mk] at hcl ⊢
  refine hdet_of_vc' (E := S.E 5) fol Tryz.func40 rfl rfl (slots := []) rfl rfl ?_ ?_ ?_ fun hw => ?_
  · exact Nat.le_refl 5
  · exact ⟨trivial, rfl, rfl, rfl, rfl, trivial⟩
  · exact fun i => match i with
      | 0 => ⟨rfl, trivial⟩
      | 1 => ⟨trivial, trivial⟩
      | 2 => ⟨trivial, trivial, trivial, trivial⟩
      | 3 => ⟨⟨rfl, rfl, rfl, rfl, trivial⟩, trivial⟩
      | 4 => idsInL_pvs _ _
      | i + 5 => by rw [hget_ge (by simp [hlen])]; exact trivial
  have hl : ks.length ≤ 9223372036854775807 := by omega
  set_option smartUnfolding false in conv => whnf
  refine acall_det (ps := [V.ag k n ks]) hcl ?_
  set_option smartUnfolding false in conv => whnf
  refine ⟨Nat.le_refl 1, ?_⟩
  set_option smartUnfolding false in conv => whnf
  refine ⟨⟨⟨by simp [pvs_len], by omega⟩, by rw [show ((S.E 5).te 25).bytes = 40 from rfl]; omega⟩, ?_⟩
  set_option smartUnfolding false in conv => whnf
  refine ⟨⟨by omega, by omega⟩, ?_⟩
  set_option smartUnfolding false in conv => whnf
  refine ⟨_, app_got rfl, rfl, ?_⟩
  set_option smartUnfolding false in conv => whnf
  refine acall_det (ps := [.lst 3 (Dt.pvL D), .int .i64 d, .int .i64 n]) (trec_det hD d n) ?_
  set_option smartUnfolding false in conv => whnf
  refine vloop_intro (σ := Nat × List PV) (fun x => x.1 ≤ ks.length ∧ x.2 ++ restP D d n ks x.1 = total ∧ x.2.length + V.cntL (ks.drop x.1) ≤ 1000000)
    (fun x => [(4, .bp 3 0), (5, .bp 6 0), (20, .pv (.lst 1 (boolsP (recS D d n)))), (21, .pv (.int .i64 (boolsP (recS D d n)).length)), (22, .pv (.int .i64 x.1))])
    (fun x => [.box 23 [.row 5 x.2.length], .box 22 [.pv (.lst 3 (Dt.pvL D))], .box 28 [.pv (.int .i64 tk), .pv (.int .i64 d), .pv (.lst 3 (V.pvL us))], .box 66 [.fn 40 [.bp 0 0, .bp 1 0, .bp 2 0, .bp 3 0]],
      .dead, .row 25 3 (pvs x.2), .box 25 [.pv (.int .i64 k), .pv (.int .i64 n), .pv (.lst 3 (V.pvL ks))]]) (fun x => ks.length - x.1) (0, ps ++ [V.ag k n ks]) ⟨by simp, htot, by simp only [List.length_append, List.length_cons, List.length_nil, List.drop_zero]; omega⟩ (weak_ren [0, 1, 2, 3, 4, 7, 5] 8 (by kernel_rfl) (blk (by simp only [List.length_append]; kernel_rfl) (blk (by kernel_rfl) (blk (by kernel_rfl) (blk (by kernel_rfl) (blkD (blkR_row (xs := (appL ps.length (pvs ps) 1 [.pv (.agg [.int .i64 0, .int .i64 0, .nils])]).set (Int.toNat (ps.length : Int)) (.pv (V.ag k n ks))) (by kernel_rfl) (app_set (by kernel_rfl)) (blk (by kernel_rfl) trivial))))))) ⟨(by kernel_rfl), (by kernel_rfl), (by kernel_rfl), (by kernel_rfl), (by kernel_rfl), trivial⟩) ?_
  rintro ⟨i, qs⟩ ⟨hi, hs, hcn⟩
  simp only at hi hs hcn
  set_option smartUnfolding false in conv => whnf
  refine br_intro (fun h => ?_) (fun h => ?_) <;> set_option smartUnfolding false in conv => whnf
  · replace h : i < ks.length := by have := dT h; rw [boolsP_len, hrl] at this; simpa using this
    obtain ⟨b, hb0, hb1, hb2⟩ := drop_bool (l := recS D d n) (i := i) (by omega)
    refine V.get_elim h fun k1 n1 ks1 hv hg hg0 hd => ?_
    have hcd := cnt_drop hd
    rw [restP_step hd hb2] at hs
    refine ⟨.bool b, ⟨by simp, by simpa using hb1⟩, ?_⟩
    set_option smartUnfolding false in conv => whnf
    refine br_intro (fun g => ?_) (fun g => ?_) <;> set_option smartUnfolding false in conv => whnf
    · subst g
      rw [if_pos rfl, ← List.append_assoc] at hs
      have hq := hk i _ hg0 hb0 qs (by omega)
      unfold visA visH at hq
      rw [V.pv_mk] at hq
      refine ⟨V.ag k1 n1 ks1, ⟨by simp, by simpa using hg⟩, ?_⟩
      set_option smartUnfolding false in conv => whnf
      refine acall_hdet hq [0, 1, 2, 3, 5] 7 rfl rfl ⟨rfl, rfl, rfl, rfl, eqRow rfl, trivial⟩ ?_
      set_option smartUnfolding false in conv => whnf
      refine ⟨(i + 1, qs ++ V.pvL (V.pre D d (.mk k1 n1 ks1))), ⟨h, hs, ?_⟩, ?_, subUp h⟩
      · have := V.pre_len D d (.mk k1 n1 ks1)
        simp only [List.length_append, V.pvL_len]; omega
      · exact weak_ren [0, 1, 2, 3, 4, 7, 6] 8 (by kernel_rfl) (blk (by kernel_rfl) (blk (by kernel_rfl) (blk (by kernel_rfl) (blk (by kernel_rfl) (blkD (blkR_row (xs := renL (imp [0, 1, 2, 3, 5] 7) (pvs (qs ++ V.pvL (V.pre D d (.mk k1 n1 ks1))))) (by kernel_rfl) (renL_pvs _ _) (blk (by kernel_rfl) trivial))))))) ⟨(by kernel_rfl), (by kernel_rfl), (by kernel_rfl), (by kernel_rfl), sUp h hl, trivial⟩
    · subst g
      rw [if_neg (by simp), List.nil_append] at hs
      exact ⟨(i + 1, qs), ⟨h, hs, by simp only; omega⟩, weak_ren [0, 1, 2, 3, 4, 5, 6] 7 (by kernel_rfl) (blk (by kernel_rfl) (blk (by kernel_rfl) (blk (by kernel_rfl) (blk (by kernel_rfl) (blkD (blkR_row (xs := pvs qs) (by kernel_rfl) (by kernel_rfl) (blk (by kernel_rfl) trivial))))))) ⟨(by kernel_rfl), (by kernel_rfl), (by kernel_rfl), (by kernel_rfl), sUp h hl, trivial⟩, subUp h⟩
  · replace h : ¬ i < ks.length := by have := dF h; rw [boolsP_len, hrl] at this; simpa using this
    rw [restP_end D d n ks i (by omega), List.append_nil] at hs
    subst hs
    exact weak_ren [0, 1, 2, 3, 4, 5] 7 (by kernel_rfl) (blk (by kernel_rfl) (blk (by kernel_rfl) (blk (by kernel_rfl) (blk (by kernel_rfl) (blkD (blkR_row (xs := pvs qs) (by kernel_rfl) (by kernel_rfl) trivial)))))) ⟨(by kernel_rfl), trivial⟩
end Go.AM

set_option linter.all false
set_option maxRecDepth 20000
set_option maxHeartbeats 4000000
namespace Go.AM
open Go.Proofs


theorem vis_nil {D : List Dt} (hD : DOK D) (tk d : Int) (us : List V) (v : V) (ts : List V) (hh : V.has D v (.mk 5 d ts) = true) (hc : v.cnt ≤ 1000000) :
    HDet Tryz.prog 40 (visA v) (visH D tk d us (.pv .nils)) (.pv (.tuple []))
      (visH D tk d us (.row 4 (V.pvL (V.pre D d v)).length) ++ [.row 25 3 (pvs (V.pvL (V.pre D d v)))]) := by
  have hcl := vclone_det v (by omega)
  obtain ⟨k, n, ks⟩ := v
  have hr := has_rec hh
  have hrl := hr.1
  have hk := fun (i : Nat) v (h1 : ks[i]? = some v) h2 => vis_of hD tk d us v ts (hr.2 i v h1 h2)
  clear hr hh
  rw [V.cnt_mk] at hc
  have hlc := V.len_cntL ks
  generalize htot : V.pvL (V.pre D d (.mk k n ks)) = total
  rw [restP_zero, ← List.singleton_append] at htot
  unfold visA visH
  rw [V.pv_mk] at hcl ⊢
  refine hdet_of_vc' (E := S.E 4) fol Tryz.func40 rfl rfl (slots := []) rfl rfl ?_ ?_ ?_ fun hw => ?_
  · exact Nat.le_refl 4
  · exact ⟨trivial, rfl, rfl, rfl, rfl, trivial⟩
  · exact fun i => match i with
      | 0 => ⟨trivial, trivial⟩
      | 1 => ⟨trivial, trivial⟩
      | 2 => ⟨trivial, trivial, trivial, trivial⟩
      | 3 => ⟨⟨rfl, rfl, rfl, rfl, trivial⟩, trivial⟩
      | i + 4 => by rw [hget_ge (by simp [hlen])]; exact trivial
  have hl : ks.length ≤ 9223372036854775807 := by omega
  set_option smartUnfolding false in conv => whnf
  refine acall_det (ps := [V.ag k n ks]) hcl ?_
  set_option smartUnfolding false in conv => whnf
  refine ⟨Nat.le_refl 1, ?_⟩
  set_option smartUnfolding false in conv => whnf
  refine ⟨⟨⟨by decide, by decide⟩, by decide⟩, ?_⟩
  set_option smartUnfolding false in conv => whnf
  refine ⟨⟨by decide, by decide⟩, ?_⟩
  set_option smartUnfolding false in conv => whnf
  refine ⟨_, rfl, rfl, ?_⟩
  set_option smartUnfolding false in conv => whnf
  refine acall_det (ps := [.lst 3 (Dt.pvL D), .int .i64 d, .int .i64 n]) (trec_det hD d n) ?_
  set_option smartUnfolding false in conv => whnf
  refine vloop_intro (σ := Nat × List PV) (fun x => x.1 ≤ ks.length ∧ x.2 ++ restP D d n ks x.1 = total ∧ x.2.length + V.cntL (ks.drop x.1) ≤ 1000000)
    (fun x => [(4, .bp 3 0), (5, .bp 5 0), (20, .pv (.lst 1 (boolsP (recS D d n)))), (21, .pv (.int .i64 (boolsP (recS D d n)).length)), (22, .pv (.int .i64 x.1))])
    (fun x => [.box 23 [.row 4 x.2.length], .box 22 [.pv (.lst 3 (Dt.pvL D))], .box 28 [.pv (.int .i64 tk), .pv (.int .i64 d), .pv (.lst 3 (V.pvL us))], .box 66 [.fn 40 [.bp 0 0, .bp 1 0, .bp 2 0, .bp 3 0]],
       .row 25 3 (pvs x.2), .box 25 [.pv (.int .i64 k), .pv (.int .i64 n), .pv (.lst 3 (V.pvL ks))]]) (fun x => ks.length - x.1) (0, [V.ag k n ks]) ⟨by simp, htot, by simp only [List.length_append, List.length_cons, List.length_nil, List.drop_zero]; omega⟩ (weak_ren [0, 1, 2, 3, 6, 4] 7 (by kernel_rfl) (blk (by kernel_rfl) (blk (by kernel_rfl) (blk (by kernel_rfl) (blk (by kernel_rfl) (blkR_row (xs := [.pv (V.ag k n ks)]) (by kernel_rfl) (by kernel_rfl) (blk (by kernel_rfl) trivial)))))) ⟨(by kernel_rfl), (by kernel_rfl), (by kernel_rfl), (by kernel_rfl), (by kernel_rfl), trivial⟩) ?_
  rintro ⟨i, qs⟩ ⟨hi, hs, hcn⟩
  simp only at hi hs hcn
  set_option smartUnfolding false in conv => whnf
  refine br_intro (fun h => ?_) (fun h => ?_) <;> set_option smartUnfolding false in conv => whnf
  · replace h : i < ks.length := by have := dT h; rw [boolsP_len, hrl] at this; simpa using this
    obtain ⟨b, hb0, hb1, hb2⟩ := drop_bool (l := recS D d n) (i := i) (by omega)
    refine V.get_elim h fun k1 n1 ks1 hv hg hg0 hd => ?_
    have hcd := cnt_drop hd
    rw [restP_step hd hb2] at hs
    refine ⟨.bool b, ⟨by simp, by simpa using hb1⟩, ?_⟩
    set_option smartUnfolding false in conv => whnf
    refine br_intro (fun g => ?_) (fun g => ?_) <;> set_option smartUnfolding false in conv => whnf
    · subst g
      rw [if_pos rfl, ← List.append_assoc] at hs
      have hq := hk i _ hg0 hb0 qs (by omega)
      unfold visA visH at hq
      rw [V.pv_mk] at hq
      refine ⟨V.ag k1 n1 ks1, ⟨by simp, by simpa using hg⟩, ?_⟩
      set_option smartUnfolding false in conv => whnf
      refine acall_hdet hq [0, 1, 2, 3, 4] 6 rfl rfl ⟨rfl, rfl, rfl, rfl, eqRow rfl, trivial⟩ ?_
      set_option smartUnfolding false in conv => whnf
      refine ⟨(i + 1, qs ++ V.pvL (V.pre D d (.mk k1 n1 ks1))), ⟨h, hs, ?_⟩, ?_, subUp h⟩
      · have := V.pre_len D d (.mk k1 n1 ks1)
        simp only [List.length_append, V.pvL_len]; omega
      · exact weak_ren [0, 1, 2, 3,  6, 5] 7 (by kernel_rfl) (blk (by kernel_rfl) (blk (by kernel_rfl) (blk (by kernel_rfl) (blk (by kernel_rfl) (blkR_row (xs := renL (imp [0, 1, 2, 3, 4] 6) (pvs (qs ++ V.pvL (V.pre D d (.mk k1 n1 ks1))))) (by kernel_rfl) (renL_pvs _ _) (blk (by kernel_rfl) trivial)))))) ⟨(by kernel_rfl), (by kernel_rfl), (by kernel_rfl), (by kernel_rfl), sUp h hl, trivial⟩
    · subst g
      rw [if_neg (by simp), List.nil_append] at hs
      exact ⟨(i + 1, qs), ⟨h, hs, by simp only; omega⟩, weak_ren [0, 1, 2, 3,  4, 5] 6 (by kernel_rfl) (blk (by kernel_rfl) (blk (by kernel_rfl) (blk (by kernel_rfl) (blk (by kernel_rfl) (blkR_row (xs := pvs qs) (by kernel_rfl) (by kernel_rfl) (blk (by kernel_rfl) trivial)))))) ⟨(by kernel_rfl), (by kernel_rfl), (by kernel_rfl), (by kernel_rfl), sUp h hl, trivial⟩, subUp h⟩
  · replace h : ¬ i < ks.length := by have := dF h; rw [boolsP_len, hrl] at this; simpa using this
    rw [restP_end D d n ks i (by omega), List.append_nil] at hs
    subst hs
    exact weak_ren [0, 1, 2, 3,  4] 6 (by kernel_rfl) (blk (by kernel_rfl) (blk (by kernel_rfl) (blk (by kernel_rfl) (blk (by kernel_rfl) (blkR_row (xs := pvs qs) (by kernel_rfl) (by kernel_rfl) trivial))))) ⟨(by kernel_rfl), trivial⟩

theorem Pre_det {D : List Dt} (hD : DOK D) (hN : DN D) (v t : V) : Det Tryz.prog 16 [.lst 3 (Dt.pvL D), v.pv, t.pv] (.lst 3 (V.pvL (preS D v t))) := by
  have h1 := hasType_det hD hN v t
  obtain ⟨k, n, ks⟩ := v
  obtain ⟨tk, tn, ts⟩ := t
  generalize hb : hasS D (.mk k n ks) (.mk tk tn ts) = b at h1
  generalize hR : preS D (.mk k n ks) (.mk tk tn ts) = R
  rw [V.pv_mk, V.pv_mk] at h1
  rw [V.pv_mk, V.pv_mk]
  refine det_of_vc' (E := S.E 0) rfl fol Tryz.func16 rfl rfl (slots := [6]) rfl rfl fun hw => ?_
  set_option smartUnfolding false in conv => whnf
  refine br_intro (fun g1 => ?_) (fun g1 => ?_) <;> set_option smartUnfolding false in conv => whnf
  · have g1 : ¬ tk = 5 := by simpa using g1
    rw [preS_no (fun h => g1 h.1)] at hR
    subst hR
    rw [V.pvL_nil]
    exact .le (.nils 3)
  have g1 : tk = 5 := by simpa using g1
  refine acall_det (ps := [.lst 3 (Dt.pvL D), V.ag k n ks, V.ag tk tn ts]) h1 ?_
  set_option smartUnfolding false in conv => whnf
  refine br_intro (fun g2 => ?_) (fun g2 => ?_) <;> set_option smartUnfolding false in conv => whnf
  · have g2 : b = false := by simpa using g2
    rw [preS_no (fun h => by rw [hb, g2] at h; simp at h)] at hR
    subst hR
    rw [V.pvL_nil]
    exact .le (.nils 3)
  have g2 : b = true := by simpa using g2
  subst g1
  rw [g2] at hb
  have hh := hasS_has hb
  have h3 := vis_nil hD 5 tn ts (.mk k n ks) ts hh.1 (by omega)
  unfold visA visH at h3
  rw [V.pv_mk] at h3
  rw [preS_yes hb] at hR
  rw [hR] at h3
  refine acall_hdet h3 [3, 0, 2, 4] 5 rfl rfl ⟨rfl, rfl, rfl, rfl, trivial⟩ ?_
  set_option smartUnfolding false in conv => whnf
  exact rd_row (t := 25) trivial (congrArg (AB.row _ _) (renL_pvs _ _)) rfl
end Go.AM
