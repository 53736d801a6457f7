import Derived.Test.YteepjclmedmbgaaCmpA
set_option linter.all false
set_option maxRecDepth 4000
namespace Go.AM
open Go.Proofs

/-- An index. -/
inductive Ix where | mk (n : Int) (kids : List Ix)
mutual
def Ix.pv : Ix → PV | .mk n ks => .agg [.int .i64 n, .lst 2 (Ix.pvL ks)]
def Ix.pvL : List Ix → List PV | [] => [] | v :: l => v.pv :: Ix.pvL l
end
abbrev Ix.ag (n : Int) (ks : List Ix) : PV := .agg [.int .i64 n, .lst 2 (Ix.pvL ks)]
theorem Ix.pv_mk (n : Int) (ks : List Ix) : Ix.pv (.mk n ks) = Ix.ag n ks := by rw [Ix.pv]
theorem Ix.pvL_eq (l : List Ix) : Ix.pvL l = l.map Ix.pv := by induction l <;> simp_all [Ix.pvL]
theorem Ix.pvL_len (l : List Ix) : (Ix.pvL l).length = l.length := by simp [Ix.pvL_eq]
theorem Ix.get_pvL {l : List Ix} {i : Nat} (h : i < l.length) : ∃ v, v ∈ l ∧ (Ix.pvL l)[i]? = some v.pv ∧ l[i]? = some v ∧ l.drop i = v :: l.drop (i + 1) :=
  ⟨l[i], by simp, by simp [Ix.pvL_eq, h], by simp [h], (List.drop_eq_getElem_cons h)⟩
theorem Ix.lenle {n : Int} {ks : List Ix} (h : wf (Ix.ag n ks)) : ks.length ≤ 9223372036854775807 := by
  have := h.2.1.1; rwa [Ix.pvL_len] at this
mutual
def Ix.val : Ix → Int → Bool × Int
  | .mk _ ks, n => if IntKind.wrap .i64 (n - 1) < 0 then (false, IntKind.wrap .i64 (n - 1)) else Ix.valL ks (IntKind.wrap .i64 (n - 1))
def Ix.valL : List Ix → Int → Bool × Int
  | [], n => (true, n)
  | v :: l, n => match Ix.val v n with | (true, n') => Ix.valL l n' | (false, n') => (false, n')
end
theorem Ix.recOn' {p : Ix → Prop} (h : ∀ n ks, (∀ v ∈ ks, p v) → p (.mk n ks)) (v : Ix) : p v := by
  have : ∀ (N : Nat) (v : Ix), SizeOf.sizeOf v < N → p v := by
    intro N
    induction N with
    | zero => intro v hv; omega
    | succ N ih =>
      intro v hv
      obtain ⟨n, ks⟩ := v
      refine h n ks fun w hw => ih w ?_
      have := List.sizeOf_lt_of_mem hw
      simp only [Ix.mk.sizeOf_spec] at hv
      omega
  exact this (SizeOf.sizeOf v + 1) v (by omega)
theorem Ix.val_mk (m : Int) (ks : List Ix) (n : Int) : Ix.val (.mk m ks) n = if IntKind.wrap .i64 (n - 1) < 0 then (false, IntKind.wrap .i64 (n - 1)) else Ix.valL ks (IntKind.wrap .i64 (n - 1)) := by rw [Ix.val]
theorem Ix.valL_nil (n : Int) : Ix.valL [] n = (true, n) := by rw [Ix.valL]
theorem Ix.valL_cons (v : Ix) (l : List Ix) (n : Int) : Ix.valL (v :: l) n = match Ix.val v n with | (true, n') => Ix.valL l n' | (false, n') => (false, n') := by rw [Ix.valL]
attribute [irreducible] Ix.pv Ix.pvL Ix.val Ix.valL

/-- The guard's count, in its box. -/
def cntI (n : Int) : Heap := [.box 3 [.pv (.int .i64 n)]]

theorem ind_hdet (v : Ix) : ∀ n, HDet Try.prog 24 [.pv v.pv, .bp 0 0] (cntI n) (.pv (.bool (v.val n).1)) (cntI (v.val n).2) := by
  refine Ix.recOn' (p := fun v => ∀ n, HDet Try.prog 24 [.pv v.pv, .bp 0 0] (cntI n) (.pv (.bool (v.val n).1)) (cntI (v.val n).2)) (fun m ks ih n => ?_) v
  rw [Ix.pv_mk]
  refine hdet_of_vc' (E := S.E 1) folC Try.func24 rfl rfl (slots := [4]) rfl rfl ?_ ?_ ?_ fun hw => ?_
  · exact Nat.le_refl 1
  · exact ⟨trivial, rfl, trivial⟩
  · exact pureH_get (H := cntI n) ⟨fun S => ⟨trivial, trivial⟩, trivial⟩ _
  have hl := Ix.lenle hw.1
  set_option smartUnfolding false in conv => whnf
  refine br_intro (fun h => ?_) (fun h => ?_) <;> set_option smartUnfolding false in conv => whnf
  · replace h := dT h
    have e : (Ix.mk m ks).val n = (false, IntKind.wrap .i64 (n - 1)) := by rw [Ix.val_mk]; exact if_pos h
    rw [e]
    exact weak_ren [0] 2 rfl ⟨rfl, trivial⟩ ⟨rfl, trivial⟩
  · replace h := dF h
    have e : (Ix.mk m ks).val n = Ix.valL ks (IntKind.wrap .i64 (n - 1)) := by rw [Ix.val_mk]; exact if_neg h
    rw [e]
    refine vloop_intro (σ := Nat × Int) (fun x => x.1 ≤ ks.length ∧ Ix.valL (ks.drop x.1) x.2 = Ix.valL ks (IntKind.wrap .i64 (n - 1))) (fun x => [(1, .bp 0 0), (2, .bp 1 0), (5, .pv (.int .i64 x.1))])
      (fun x => [.box 3 [.pv (.int .i64 x.2)], .box 32 [.pv (.int .i64 m), .pv (.lst 2 (Ix.pvL ks))]]) (fun x => ks.length - x.1) (0, IntKind.wrap .i64 (n - 1)) (by simp) (weak_sub ⟨rfl, rfl, rfl, trivial⟩) ?_
    rintro ⟨i, s⟩ ⟨hi, hs⟩
    set_option smartUnfolding false in conv => whnf
    refine br_intro (fun h => ?_) (fun h => ?_)
    · replace h : i < ks.length := by have := dT h; rw [Ix.pvL_len] at this; simpa using this
      obtain ⟨⟨n', ks'⟩, hv, hg, _, hd⟩ := Ix.get_pvL h
      set_option smartUnfolding false in conv => whnf
      rw [Ix.pv_mk] at hg
      refine ⟨Ix.ag n' ks', ⟨by simp, by simpa using hg⟩, ?_⟩
      set_option smartUnfolding false in conv => whnf
      have hih := ih _ hv s
      rw [Ix.pv_mk] at hih
      refine acall_hdet hih [0] 2 rfl rfl ⟨rfl, trivial⟩ ?_
      set_option smartUnfolding false in conv => whnf
      rw [hd] at hs
      rw [Ix.valL_cons] at hs
      refine br_intro (fun h' => ?_) (fun h' => ?_) <;> set_option smartUnfolding false in conv => whnf
      · replace h' : ((Ix.mk n' ks').val s).1 = false := by simpa using h'
        cases hx : (Ix.mk n' ks').val s with
        | mk b n2 =>
          rw [hx] at hs h'
          simp only at h'
          subst h'
          simp only at hs
          rw [← hs]
          exact weak_ren [0] 2 rfl ⟨rfl, trivial⟩ ⟨rfl, trivial⟩
      · replace h' : ((Ix.mk n' ks').val s).1 = true := by simpa using h'
        cases hx : (Ix.mk n' ks').val s with
        | mk b n2 =>
          rw [hx] at hs h'
          simp only at h'
          subst h'
          simp only at hs
          refine ⟨(i + 1, n2), ⟨h, hs⟩, weak_ren [0, 1] 2 rfl ⟨rfl, rfl, trivial⟩ ⟨rfl, rfl, sI (by rw [wrapI] <;> simp <;> omega), trivial⟩, ?_⟩
          show ks.length - (i + 1) < ks.length - i
          omega
    · replace h : ¬ i < ks.length := by have := dF h; rw [Ix.pvL_len] at this; simpa using this
      set_option smartUnfolding false in conv => whnf
      rw [List.drop_of_length_le (by simpa using h)] at hs
      rw [← hs, Ix.valL_nil]
      exact weak_ren [0] 2 rfl ⟨rfl, trivial⟩ ⟨rfl, trivial⟩

/-- keep.Value. -/
theorem keepI_det (v : Ix) : Det Try.prog 14 [v.pv] (.bool (v.val 40).1) := by
  obtain ⟨n, ks⟩ := v
  rw [Ix.pv_mk]
  refine det_of_vc' (E := S.E 0) rfl folC Try.func14 rfl rfl (slots := [2]) rfl rfl fun hw => ?_
  set_option smartUnfolding false in conv => whnf
  have hih := ind_hdet (.mk n ks) 40
  rw [Ix.pv_mk] at hih
  refine acall_hdet hih [1] 2 rfl rfl ⟨rfl, trivial⟩ ?_
  set_option smartUnfolding false in conv => whnf
  exact rdP rfl
end Go.AM
