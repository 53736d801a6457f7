import Derived.Test.YteepjclmedmbgaaValD
set_option linter.all false
set_option maxRecDepth 4000

namespace Go.AM
open Go.Proofs

theorem leaf_nod : Det Try.prog 9 [.agg [.int .i64 1, .int .i64 0, .nils]] (.int .i64 1) := by
  have h := nod_det (.mk 1 0 [])
  rw [V.pv_mk, V.nod_mk, V.nodL_nil] at h
  refine h.le (.cons (.agg (.cons (.refl _) (.cons (.refl _) (.cons ?_ .nil)))) .nil)
  have e : V.pvL [] = [] := by rw [V.pvL]
  rw [e]
  exact .nils 3

theorem valueSizes_det (v : V) : Det Try.prog 3 [v.pv] (.bool true) := by
  obtain ⟨k, n, ks⟩ := v
  have a1 := keepV_det (.mk k n ks)
  have a2 := siz_det (.mk k n ks)
  have a3 := rsiz_det (.mk k n ks)
  have a4 := nod_det (.mk k n ks)
  have a5 := rnod_det (.mk k n ks)
  rw [V.pv_mk] at a1 a2 a3 a4 a5 ⊢
  refine det_of_vc' (E := S.E 0) rfl fol Try.func3 rfl rfl (slots := [2]) rfl rfl fun hw => ?_
  set_option smartUnfolding false in conv => whnf
  refine acall_det (ps := [V.ag k n ks]) a1 ?_
  set_option smartUnfolding false in conv => whnf
  refine br_intro (fun h => ?_) (fun h => ?_) <;> set_option smartUnfolding false in conv => whnf
  · exact rdP rfl
  have hk : ((V.mk k n ks).val 400).1 = true := by simpa using h
  have hle := V.keep_siz hk
  refine acall_det (ps := [V.ag k n ks]) a2 ?_
  set_option smartUnfolding false in conv => whnf
  refine acall_det (ps := [V.ag k n ks]) a3 ?_
  set_option smartUnfolding false in conv => whnf
  apply br_intro <;> intro h1
  rotate_left
  · simp at h1
  set_option smartUnfolding false in conv => whnf
  refine acall_det (ps := [V.ag k n ks]) a4 ?_
  set_option smartUnfolding false in conv => whnf
  refine acall_det (ps := [V.ag k n ks]) a5 ?_
  set_option smartUnfolding false in conv => whnf
  apply br_intro <;> intro h2
  rotate_left
  · simp at h2
  set_option smartUnfolding false in conv => whnf
  refine acall_det (ps := [V.ag k n ks]) a2 ?_
  set_option smartUnfolding false in conv => whnf
  refine acall_det (ps := [V.ag k n ks]) a4 ?_
  set_option smartUnfolding false in conv => whnf
  apply br_intro <;> intro h3
  rotate_left
  · simp [hle] at h3
  set_option smartUnfolding false in conv => whnf
  refine acall_det (ps := [.agg [.int .i64 1, .int .i64 0, .nils]]) leaf_nod ?_
  set_option smartUnfolding false in conv => whnf
  exact rdP rfl
end Go.AM
