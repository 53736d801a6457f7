import Derived.Test.YteepjclmedmbgaaAmTe
set_option linter.all false
set_option maxRecDepth 4000
namespace Go.AM
open Go.Proofs

theorem folC : Try.prog.follows .mixedOrders = true := by kernel_rfl
/-- Three ways. -/
def cmpI (a b : Int) : Int := if a < b then -1 else if b < a then 1 else 0
/-- The first that is not 0. -/
def orI : List Int → Int | [] => 0 | a :: l => if a = 0 then orI l else a
theorem orI_nil : orI [] = 0 := rfl
theorem orI_cons (a : Int) (l : List Int) : orI (a :: l) = if a = 0 then orI l else a := rfl
def intsP (l : List Int) : List PV := l.map (.int .i64)
theorem intsP_len (l : List Int) : (intsP l).length = l.length := by simp [intsP]
theorem intsP_get {l : List Int} {i : Nat} (h : i < l.length) : ∃ a, (intsP l)[i]? = some (.int .i64 a) ∧ l[i]? = some a ∧ l.drop i = a :: l.drop (i + 1) :=
  ⟨l[i], by simp [intsP, h], by simp [h], (List.drop_eq_getElem_cons h)⟩
attribute [irreducible] orI intsP cmpI

theorem nan_int (a : Int) : Det Try.prog 28 [.int .i64 a] (.bool false) := by
  refine det_of_vc' (E := S.E 0) rfl folC Try.func28 rfl rfl (slots := [2]) rfl rfl fun hw => ?_
  set_option smartUnfolding false in conv => whnf
  exact rdP (by simp)
theorem nan_int64 (a : Int) : Det Try.prog 29 [.int .i64 a] (.bool false) := by
  refine det_of_vc' (E := S.E 0) rfl folC Try.func29 rfl rfl (slots := [2]) rfl rfl fun hw => ?_
  set_option smartUnfolding false in conv => whnf
  exact rdP (by simp)
theorem cmp_int (a b : Int) : Det Try.prog 20 [.int .i64 a, .int .i64 b] (.int .i64 (cmpI a b)) := by
  refine det_of_vc' (E := S.E 0) rfl folC Try.func20 rfl rfl (slots := [4]) rfl rfl fun hw => ?_
  set_option smartUnfolding false in conv => whnf
  refine acall_det (ps := [.int .i64 a]) (nan_int a) ?_
  set_option smartUnfolding false in conv => whnf
  refine acall_det (ps := [.int .i64 b]) (nan_int b) ?_
  set_option smartUnfolding false in conv => whnf
  refine br_intro (fun h => ?_) (fun h => ?_) <;> set_option smartUnfolding false in conv => whnf
  · exact rdI (by have := dT h; rw [cmpI, if_pos this])
  refine br_intro (fun h2 => ?_) (fun h2 => ?_) <;> set_option smartUnfolding false in conv => whnf
  · exact rdI (by have := dF h; have h2 := dT h2; rw [cmpI, if_neg this, if_pos h2])
  · exact rdI (by have := dF h; have h2 := dF h2; rw [cmpI, if_neg this, if_neg h2])
theorem cmp_int64 (a b : Int) : Det Try.prog 21 [.int .i64 a, .int .i64 b] (.int .i64 (cmpI a b)) := by
  refine det_of_vc' (E := S.E 0) rfl folC Try.func21 rfl rfl (slots := [4]) rfl rfl fun hw => ?_
  set_option smartUnfolding false in conv => whnf
  refine acall_det (ps := [.int .i64 a]) (nan_int64 a) ?_
  set_option smartUnfolding false in conv => whnf
  refine acall_det (ps := [.int .i64 b]) (nan_int64 b) ?_
  set_option smartUnfolding false in conv => whnf
  refine br_intro (fun h => ?_) (fun h => ?_) <;> set_option smartUnfolding false in conv => whnf
  · exact rdI (by have := dT h; rw [cmpI, if_pos this])
  refine br_intro (fun h2 => ?_) (fun h2 => ?_) <;> set_option smartUnfolding false in conv => whnf
  · exact rdI (by have := dF h; have h2 := dT h2; rw [cmpI, if_neg this, if_pos h2])
  · exact rdI (by have := dF h; have h2 := dF h2; rw [cmpI, if_neg this, if_neg h2])
theorem or_int (l : List Int) : Det Try.prog 19 [.lst 1 (intsP l)] (.int .i64 (orI l)) := by
  refine det_of_vc' (E := S.E 0) rfl folC Try.func19 rfl rfl (slots := [2]) rfl rfl fun hw => ?_
  have hl : l.length ≤ 9223372036854775807 := by have := hw.1.1; rwa [intsP_len] at this
  set_option smartUnfolding false in conv => whnf
  refine vloop_intro (σ := Nat) (fun i => i ≤ l.length ∧ orI (l.drop i) = orI l) (fun i => [(3, .pv (.int .i64 0)), (6, .pv (.lst 1 (intsP l))), (7, .pv (.int .i64 (intsP l).length)), (8, .pv (.int .i64 i))]) (fun _ => []) (fun i => l.length - i) 0 (by simp) (weak_bare rfl ⟨rfl, rfl, rfl, rfl, trivial⟩) ?_
  rintro i ⟨hi, hs⟩
  set_option smartUnfolding false in conv => whnf
  refine br_intro (fun h => ?_) (fun h => ?_)
  · replace h : i < l.length := by have := dT h; rw [intsP_len] at this; simpa using this
    obtain ⟨a, hg, _, hd⟩ := intsP_get h
    rw [hd, orI_cons] at hs
    set_option smartUnfolding false in conv => whnf
    refine ⟨.int .i64 a, ⟨by simp, by simpa using hg⟩, ?_⟩
    set_option smartUnfolding false in conv => whnf
    refine br_intro (fun h2 => ?_) (fun h2 => ?_) <;> set_option smartUnfolding false in conv => whnf
    · exact rdI (by rw [if_neg (by simpa using h2)] at hs; exact hs)
    · refine ⟨i + 1, ⟨h, by rw [if_pos (by simpa using h2)] at hs; exact hs⟩, weak_bare rfl ⟨rfl, rfl, rfl, sUp h hl, trivial⟩, ?_⟩
      exact subUp h
  · replace h : ¬ i < l.length := by have := dF h; rw [intsP_len] at this; simpa using this
    set_option smartUnfolding false in conv => whnf
    rw [List.drop_of_length_le (by simpa using h), orI_nil] at hs
    exact rdI hs
end Go.AM
