import Derived.Test.YteepjclmedmbgaaValA
set_option linter.all false
set_option maxRecDepth 4000
namespace Go.AM
open Go.Proofs

theorem nod_det (v : V) : Det Try.prog 9 [v.pv] (.int .i64 v.nod) := by
  refine V.recOn' (p := fun v => Det Try.prog 9 [v.pv] (.int .i64 v.nod)) (fun k n ks ih => ?_) v
  rw [V.pv_mk]
  refine det_of_vc' (E := S.E 0) rfl fol Try.func9 rfl rfl (slots := [2]) rfl rfl fun hw => ?_
  have hl := V.lenle hw.1
  set_option smartUnfolding false in conv => whnf
  refine vloop_intro (σ := Nat × Int) (fun x => x.1 ≤ ks.length ∧ V.nodL x.2 (ks.drop x.1) = V.nodL 1 ks) (fun x => [(3, .pv (.int .i64 x.2)), (7, .pv (.lst 3 (V.pvL ks))), (8, .pv (.int .i64 (V.pvL ks).length)), (9, .pv (.int .i64 x.1))]) (fun _ => []) (fun x => ks.length - x.1) (0, 1) (by simp) (weak_bare rfl ⟨rfl, rfl, rfl, rfl, trivial⟩) ?_
  rintro ⟨i, s⟩ ⟨hi, hs⟩
  set_option smartUnfolding false in conv => whnf
  refine br_intro (fun h => ?_) (fun h => ?_)
  · replace h : i < ks.length := by have := dT h; rw [V.pvL_len] at this; simpa using this
    obtain ⟨⟨k', n', ks'⟩, hv, hg, _, hd⟩ := V.get_pvL h
    set_option smartUnfolding false in conv => whnf
    rw [V.pv_mk] at hg
    refine ⟨V.ag k' n' ks', ⟨by simp, by simpa using hg⟩, ?_⟩
    set_option smartUnfolding false in conv => whnf
    refine acall_det (ps := [V.ag k' n' ks']) (V.pv_mk k' n' ks' ▸ ih _ hv) ?_
    set_option smartUnfolding false in conv => whnf
    refine ⟨(i + 1, IntKind.wrap .i64 (s + V.nod (.mk k' n' ks'))), ⟨h, ?_⟩, weak_bare rfl ⟨rfl, rfl, rfl, sI (by rw [wrapI] <;> simp <;> omega), trivial⟩, ?_⟩
    · rw [← hs, hd, V.nodL_cons]
    · show ks.length - (i + 1) < ks.length - i
      omega
  · replace h : ¬ i < ks.length := by have := dF h; rw [V.pvL_len] at this; simpa using this
    set_option smartUnfolding false in conv => whnf
    refine rdP ?_
    rw [List.drop_of_length_le (by simpa using h)] at hs
    show PV.int .i64 s = .int .i64 _
    rw [V.nod_mk]; rw [← hs, V.nodL_nil]

theorem rnod_det (v : V) : Det Try.prog 10 [v.pv] (.int .i64 v.nod) := by
  refine V.recOn' (p := fun v => Det Try.prog 10 [v.pv] (.int .i64 v.nod)) (fun k n ks ih => ?_) v
  rw [V.pv_mk]
  refine det_of_vc' (E := S.E 0) rfl fol Try.func10 rfl rfl (slots := [2]) rfl rfl fun hw => ?_
  have hl := V.lenle hw.1
  set_option smartUnfolding false in conv => whnf
  refine vloop_intro (σ := Nat × Int) (fun x => x.1 ≤ ks.length ∧ V.nodL x.2 (ks.drop x.1) = V.nodL 1 ks) (fun x => [(3, .pv (.int .i64 x.2)), (7, .pv (.lst 3 (V.pvL ks))), (8, .pv (.int .i64 (V.pvL ks).length)), (9, .pv (.int .i64 x.1))]) (fun _ => []) (fun x => ks.length - x.1) (0, 1) (by simp) (weak_bare rfl ⟨rfl, rfl, rfl, rfl, trivial⟩) ?_
  rintro ⟨i, s⟩ ⟨hi, hs⟩
  set_option smartUnfolding false in conv => whnf
  refine br_intro (fun h => ?_) (fun h => ?_)
  · replace h : i < ks.length := by have := dT h; rw [V.pvL_len] at this; simpa using this
    obtain ⟨⟨k', n', ks'⟩, hv, hg, _, hd⟩ := V.get_pvL h
    set_option smartUnfolding false in conv => whnf
    rw [V.pv_mk] at hg
    refine ⟨V.ag k' n' ks', ⟨by simp, by simpa using hg⟩, ?_⟩
    set_option smartUnfolding false in conv => whnf
    refine acall_det (ps := [V.ag k' n' ks']) (V.pv_mk k' n' ks' ▸ ih _ hv) ?_
    set_option smartUnfolding false in conv => whnf
    refine ⟨(i + 1, IntKind.wrap .i64 (s + V.nod (.mk k' n' ks'))), ⟨h, ?_⟩, weak_bare rfl ⟨rfl, rfl, rfl, sI (by rw [wrapI] <;> simp <;> omega), trivial⟩, ?_⟩
    · rw [← hs, hd, V.nodL_cons]
    · show ks.length - (i + 1) < ks.length - i
      omega
  · replace h : ¬ i < ks.length := by have := dF h; rw [V.pvL_len] at this; simpa using this
    set_option smartUnfolding false in conv => whnf
    refine rdP ?_
    rw [List.drop_of_length_le (by simpa using h)] at hs
    show PV.int .i64 s = .int .i64 _
    rw [V.nod_mk]; rw [← hs, V.nodL_nil]

theorem siz_det (v : V) : Det Try.prog 7 [v.pv] (.int .i64 v.siz) := by
  refine V.recOn' (p := fun v => Det Try.prog 7 [v.pv] (.int .i64 v.siz)) (fun k n ks ih => ?_) v
  rw [V.pv_mk]
  refine det_of_vc' (E := S.E 0) rfl fol Try.func7 rfl rfl (slots := [2]) rfl rfl fun hw => ?_
  have hl := V.lenle hw.1
  have leaf : V.leafK k = true → (V.mk k n ks).siz = 1 := fun h => by simp [V.siz_mk, h]
  set_option smartUnfolding false in conv => whnf
  refine br_intro (fun h1 => ?_) (fun h1 => ?_) <;> set_option smartUnfolding false in conv => whnf
  rotate_left
  · exact rdP (by rw [leaf (by simp_all [V.leafK])]; rfl)
  refine br_intro (fun h2 => ?_) (fun h2 => ?_) <;> set_option smartUnfolding false in conv => whnf
  rotate_left
  · exact rdP (by rw [leaf (by simp_all [V.leafK])]; rfl)
  refine br_intro (fun h3 => ?_) (fun h3 => ?_) <;> set_option smartUnfolding false in conv => whnf
  rotate_left
  · exact rdP (by rw [leaf (by simp_all [V.leafK])]; rfl)
  have hs0 : (V.mk k n ks).siz = V.sizL 1 ks := by simp at h1 h2 h3; simp [V.siz_mk, V.leafK, h1, h2, h3]
  rw [hs0]
  refine vloop_intro (σ := Nat × Int) (fun x => x.1 ≤ ks.length ∧ V.sizL x.2 (ks.drop x.1) = V.sizL 1 ks) (fun x => [(3, .pv (.int .i64 x.2)), (20, .pv (.lst 3 (V.pvL ks))), (21, .pv (.int .i64 (V.pvL ks).length)), (22, .pv (.int .i64 x.1))]) (fun _ => []) (fun x => ks.length - x.1) (0, 1) (by simp) (weak_bare rfl ⟨rfl, rfl, rfl, rfl, trivial⟩) ?_
  rintro ⟨i, s⟩ ⟨hi, hs⟩
  set_option smartUnfolding false in conv => whnf
  refine br_intro (fun h => ?_) (fun h => ?_)
  · replace h : i < ks.length := by have := dT h; rw [V.pvL_len] at this; simpa using this
    obtain ⟨⟨k', n', ks'⟩, hv, hg, _, hd⟩ := V.get_pvL h
    set_option smartUnfolding false in conv => whnf
    rw [V.pv_mk] at hg
    refine ⟨V.ag k' n' ks', ⟨by simp, by simpa using hg⟩, ?_⟩
    set_option smartUnfolding false in conv => whnf
    refine acall_det (ps := [V.ag k' n' ks']) (V.pv_mk k' n' ks' ▸ ih _ hv) ?_
    set_option smartUnfolding false in conv => whnf
    refine ⟨(i + 1, IntKind.wrap .i64 (s + V.siz (.mk k' n' ks'))), ⟨h, ?_⟩, weak_bare rfl ⟨rfl, rfl, rfl, sI (by rw [wrapI] <;> simp <;> omega), trivial⟩, ?_⟩
    · rw [← hs, hd, V.sizL_cons]
    · show ks.length - (i + 1) < ks.length - i
      omega
  · replace h : ¬ i < ks.length := by have := dF h; rw [V.pvL_len] at this; simpa using this
    set_option smartUnfolding false in conv => whnf
    refine rdP ?_
    rw [List.drop_of_length_le (by simpa using h)] at hs
    show PV.int .i64 s = .int .i64 _
    rw [← hs, V.sizL_nil]

theorem rsiz_det (v : V) : Det Try.prog 8 [v.pv] (.int .i64 v.siz) := by
  refine V.recOn' (p := fun v => Det Try.prog 8 [v.pv] (.int .i64 v.siz)) (fun k n ks ih => ?_) v
  rw [V.pv_mk]
  refine det_of_vc' (E := S.E 0) rfl fol Try.func8 rfl rfl (slots := [2]) rfl rfl fun hw => ?_
  have hl := V.lenle hw.1
  have leaf : V.leafK k = true → (V.mk k n ks).siz = 1 := fun h => by simp [V.siz_mk, h]
  set_option smartUnfolding false in conv => whnf
  refine br_intro (fun h1 => ?_) (fun h1 => ?_) <;> set_option smartUnfolding false in conv => whnf
  · exact rdP (by rw [leaf (by simp_all [V.leafK])]; rfl)
  refine br_intro (fun h2 => ?_) (fun h2 => ?_) <;> set_option smartUnfolding false in conv => whnf
  · exact rdP (by rw [leaf (by simp_all [V.leafK])]; rfl)
  refine br_intro (fun h3 => ?_) (fun h3 => ?_) <;> set_option smartUnfolding false in conv => whnf
  · exact rdP (by rw [leaf (by simp_all [V.leafK])]; rfl)
  have hs0 : (V.mk k n ks).siz = V.sizL 1 ks := by simp at h1 h2 h3; simp [V.siz_mk, V.leafK, h1, h2, h3]
  rw [hs0]
  refine vloop_intro (σ := Nat × Int) (fun x => x.1 ≤ ks.length ∧ V.sizL x.2 (ks.drop x.1) = V.sizL 1 ks) (fun x => [(3, .pv (.int .i64 x.2)), (21, .pv (.lst 3 (V.pvL ks))), (22, .pv (.int .i64 (V.pvL ks).length)), (23, .pv (.int .i64 x.1))]) (fun _ => []) (fun x => ks.length - x.1) (0, 1) (by simp) (weak_bare rfl ⟨rfl, rfl, rfl, rfl, trivial⟩) ?_
  rintro ⟨i, s⟩ ⟨hi, hs⟩
  set_option smartUnfolding false in conv => whnf
  refine br_intro (fun h => ?_) (fun h => ?_)
  · replace h : i < ks.length := by have := dT h; rw [V.pvL_len] at this; simpa using this
    obtain ⟨⟨k', n', ks'⟩, hv, hg, _, hd⟩ := V.get_pvL h
    set_option smartUnfolding false in conv => whnf
    rw [V.pv_mk] at hg
    refine ⟨V.ag k' n' ks', ⟨by simp, by simpa using hg⟩, ?_⟩
    set_option smartUnfolding false in conv => whnf
    refine acall_det (ps := [V.ag k' n' ks']) (V.pv_mk k' n' ks' ▸ ih _ hv) ?_
    set_option smartUnfolding false in conv => whnf
    refine ⟨(i + 1, IntKind.wrap .i64 (s + V.siz (.mk k' n' ks'))), ⟨h, ?_⟩, weak_bare rfl ⟨rfl, rfl, rfl, sI (by rw [wrapI] <;> simp <;> omega), trivial⟩, ?_⟩
    · rw [← hs, hd, V.sizL_cons]
    · show ks.length - (i + 1) < ks.length - i
      omega
  · replace h : ¬ i < ks.length := by have := dF h; rw [V.pvL_len] at this; simpa using this
    set_option smartUnfolding false in conv => whnf
    refine rdP ?_
    rw [List.drop_of_length_le (by simpa using h)] at hs
    show PV.int .i64 s = .int .i64 _
    rw [← hs, V.sizL_nil]
end Go.AM
