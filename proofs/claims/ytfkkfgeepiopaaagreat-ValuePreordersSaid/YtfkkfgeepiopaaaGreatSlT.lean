import Derived.Test.YtfkkfgeepiopaaaGreatTypB
set_option linter.all false
set_option maxRecDepth 4000
namespace Go.AM
open Go.Proofs

/-- Where a list first holds what is looked for, -1 if nowhere. -/
def fidx {α : Type} (q : α → Bool) : List α → Nat → Int
  | [], _ => -1
  | v :: l, i => if q v then i else fidx q l (i + 1)
theorem fidx_nil {α : Type} (q : α → Bool) (i : Nat) : fidx q [] i = -1 := rfl
theorem fidx_cons {α : Type} (q : α → Bool) (v : α) (l : List α) (i : Nat) : fidx q (v :: l) i = if q v then (i : Int) else fidx q l (i + 1) := rfl
theorem fidx_any {α : Type} (q : α → Bool) : ∀ (l : List α) (i : Nat), decide (0 ≤ fidx q l i) = l.any q
  | [], i => by simp [fidx_nil]
  | v :: l, i => by
    rw [fidx_cons]
    cases h : q v with
    | true => simp [h]
    | false => simp [h, ← fidx_any q l (i + 1)]
attribute [irreducible] fidx

theorem idxT_det (ks : List V) (g : Nat) (caps : List PV) (q : V → Bool) (hq : ∀ v ∈ ks, Det Tryz.prog g (v.pv :: caps) (.bool (q v))) :
    Det Tryz.prog 82 [.lst 3 (V.pvL ks), .fn g caps] (.int .i64 (fidx q ks 0)) := by
  refine det_of_vc' (E := S.E 0) rfl fol Tryz.func82 rfl rfl (slots := [4]) rfl rfl fun hw => ?_
  have hl : ks.length ≤ 9223372036854775807 := by have := hw.1.1; rwa [V.pvL_len] at this
  set_option smartUnfolding false in conv => whnf
  refine vloop_intro (σ := Nat) (fun i => i ≤ ks.length ∧ fidx q (ks.drop i) i = fidx q ks 0)
    (fun i => [(0, .pv (.lst 3 (V.pvL ks))), (1, .pv (.fn g caps)), (7, .pv (.int .i64 (V.pvL ks).length)), (8, .pv (.int .i64 i))])
    (fun _ => []) (fun i => ks.length - i) 0 ⟨by simp, by simp⟩ (weak_bare rfl ⟨(by kernel_rfl), (by kernel_rfl), (by kernel_rfl), (by kernel_rfl), trivial⟩) ?_
  rintro i ⟨hi, hs⟩
  set_option smartUnfolding false in conv => whnf
  refine br_intro (fun h => ?_) (fun h => ?_) <;> set_option smartUnfolding false in conv => whnf
  · replace h : i < ks.length := by have := dT h; rw [V.pvL_len] at this; simpa using this
    obtain ⟨⟨k1, n1, ks1⟩, hv, hg, _, hd⟩ := V.get_pvL h
    rw [V.pv_mk] at hg
    rw [hd, fidx_cons] at hs
    have hq1 := hq _ hv
    rw [V.pv_mk] at hq1
    refine ⟨V.ag k1 n1 ks1, ⟨by simp, by simpa using hg⟩, ?_⟩
    set_option smartUnfolding false in conv => whnf
    refine acall_det (ps := V.ag k1 n1 ks1 :: caps) hq1 ?_
    set_option smartUnfolding false in conv => whnf
    refine br_intro (fun h2 => ?_) (fun h2 => ?_) <;> set_option smartUnfolding false in conv => whnf
    · rw [if_pos h2] at hs
      exact rdI hs
    · rw [if_neg (by simp [h2])] at hs
      refine ⟨i + 1, ⟨h, hs⟩, weak_bare rfl ⟨(by kernel_rfl), (by kernel_rfl), (by kernel_rfl), sUp h hl, trivial⟩, subUp h⟩
  · replace h : ¬ i < ks.length := by have := dF h; rw [V.pvL_len] at this; simpa using this
    rw [List.drop_of_length_le (by omega), fidx_nil] at hs
    exact rdI hs

theorem hasT_det (ks : List V) (g : Nat) (caps : List PV) (q : V → Bool) (hq : ∀ v ∈ ks, Det Tryz.prog g (v.pv :: caps) (.bool (q v))) :
    Det Tryz.prog 58 [.lst 3 (V.pvL ks), .fn g caps] (.bool (ks.any q)) := by
  refine det_of_vc' (E := S.E 0) rfl fol Tryz.func58 rfl rfl (slots := [4]) rfl rfl fun hw => ?_
  set_option smartUnfolding false in conv => whnf
  refine acall_det (ps := [.lst 3 (V.pvL ks), .fn g caps]) (idxT_det ks g caps q hq) ?_
  set_option smartUnfolding false in conv => whnf
  exact rdB (fidx_any q ks 0)
end Go.AM
