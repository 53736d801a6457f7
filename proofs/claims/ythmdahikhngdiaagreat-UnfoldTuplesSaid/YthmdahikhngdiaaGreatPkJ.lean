import Derived.Test.YthmdahikhngdiaaGreatPkI
set_option linter.all false
set_option maxRecDepth 20000
set_option maxHeartbeats 2000000
namespace Go.AM
open Go.Proofs

/-! ### core.Valid, of data types alone -/
def coreP (D : List Dt) : PV := .agg [.lst 3 (Dt.pvL D), .nils, .nils, .nils]
def progC (D : List Dt) : List PV := [.lst 3 (Dt.pvL D), .nils, .nils, .nils, .lst 1 [], .lst 1 [], .lst 1 [], .nils]

theorem allT_nil (g : Nat) (caps : List PV) : Det Tryz.prog 77 [.nils, .fn g caps] (.bool true) := by
  have h := (hasT_det [] 108 [.cp [.fn g caps]] (fun _ => false) (by simp)).le (ps := [.nils, .fn 108 [.cp [.fn g caps]]]) (.cons (by rw [V.pvL_nil]; exact .nils 3) (.cons (.refl _) .nil))
  refine det_of_vc' (E := S.E 0) rfl fol Tryz.func77 rfl rfl (slots := [4]) rfl rfl fun hw => ?_
  set_option smartUnfolding false in conv => whnf
  refine acall_intro (adet_read (S := [0]) h (.cons (.pv _) (.cons (.fn (.cons (.bp (.head _) rfl (.cons (.pv _) .nil)) .nil)) .nil)) rfl) ?_
  set_option smartUnfolding false in conv => whnf
  exact rdB rfl

theorem codes_det (D : List Dt) : Det Tryz.prog 79 [.cp (progC D)] (.bool true) := by
  unfold progC
  refine det_of_vc' (E := S.E 0) rfl fol Tryz.func79 rfl rfl (slots := [2]) rfl rfl fun hw => ?_
  set_option smartUnfolding false in conv => whnf
  refine vloop_intro (σ := Unit) (fun _ => True) (fun _ => [(13, .pv (.int .i64 0)), (14, .pv (.int .i64 0))]) (fun _ => []) (fun _ => 0) () trivial (weak_bare rfl ⟨(by kernel_rfl), (by kernel_rfl), trivial⟩) ?_
  rintro ⟨⟩ _
  set_option smartUnfolding false in conv => whnf
  exact rdB rfl

theorem forest_det (D : List Dt) : Det Tryz.prog 80 [.cp (progC D)] (.bool true) := by
  unfold progC
  refine det_of_vc' (E := S.E 0) rfl fol Tryz.func80 rfl rfl (slots := [2]) rfl rfl fun hw => ?_
  set_option smartUnfolding false in conv => whnf
  refine vloop_intro (σ := Unit) (fun _ => True) (fun _ => [(0, .pv (.cp (progC D))), (14, .pv (.int .i64 0)), (15, .pv (.int .i64 0))]) (fun _ => []) (fun _ => 0) () trivial (weak_bare rfl ⟨(by kernel_rfl), (by kernel_rfl), (by kernel_rfl), trivial⟩) ?_
  rintro ⟨⟩ _
  set_option smartUnfolding false in conv => whnf
  refine vloop_intro (σ := Unit) (fun _ => True) (fun _ => [(0, .pv (.cp (progC D))), (36, .pv (.int .i64 0)), (37, .pv (.int .i64 0))]) (fun _ => []) (fun _ => 0) () trivial (weak_bare rfl ⟨(by kernel_rfl), (by kernel_rfl), (by kernel_rfl), trivial⟩) ?_
  rintro ⟨⟩ _
  set_option smartUnfolding false in conv => whnf
  refine vloop_intro (σ := Unit) (fun _ => True) (fun _ => [(0, .pv (.cp (progC D))), (65, .pv (.int .i64 0)), (66, .pv (.int .i64 0))]) (fun _ => []) (fun _ => 0) () trivial (weak_bare rfl ⟨(by kernel_rfl), (by kernel_rfl), (by kernel_rfl), trivial⟩) ?_
  rintro ⟨⟩ _
  set_option smartUnfolding false in conv => whnf
  exact rdB rfl

theorem bound_det (D : List Dt) : Det Tryz.prog 81 [.cp (progC D)] (.bool true) := by
  unfold progC
  refine det_of_vc' (E := S.E 0) rfl fol Tryz.func81 rfl rfl (slots := [2]) rfl rfl fun hw => ?_
  set_option smartUnfolding false in conv => whnf
  refine ⟨⟨by decide, by decide, by decide, by decide⟩, ?_⟩
  set_option smartUnfolding false in conv => whnf
  refine vloop_intro (σ := Unit) (fun _ => True) (fun _ => [(0, .pv (.cp (progC D))), (4, .bp 0 0), (23, .pv (.int .i64 0)), (24, .pv (.int .i64 0))]) (fun _ => [.box 3 [.pv (.int .i64 0)]]) (fun _ => 0) () trivial (weak_ren [2] 4 (by kernel_rfl) (blk (by kernel_rfl) trivial) ⟨(by kernel_rfl), (by kernel_rfl), (by kernel_rfl), (by kernel_rfl), trivial⟩) ?_
  rintro ⟨⟩ _
  set_option smartUnfolding false in conv => whnf
  refine vloop_intro (σ := Unit) (fun _ => True) (fun _ => [(0, .pv (.cp (progC D))), (4, .bp 0 0), (46, .pv (.int .i64 0)), (47, .pv (.int .i64 0))]) (fun _ => [.box 3 [.pv (.int .i64 0)]]) (fun _ => 0) () trivial (weak_ren [0] 1 (by kernel_rfl) (blk (by kernel_rfl) trivial) ⟨(by kernel_rfl), (by kernel_rfl), (by kernel_rfl), (by kernel_rfl), trivial⟩) ?_
  rintro ⟨⟩ _
  set_option smartUnfolding false in conv => whnf
  exact rdB rfl

def progH (D : List Dt) : Heap := [.box 105 [.pv (.lst 3 (Dt.pvL D)), .pv .nils, .pv .nils, .pv .nils, .row 1 0, .row 2 0, .row 3 0, .pv .nils], .row 3 1 [], .row 3 1 [], .row 3 1 []]
def progH' (D : List Dt) : Heap := [.box 105 [.pv (.lst 3 (Dt.pvL D)), .pv .nils, .pv .nils, .pv .nils, .row 1 0, .row 2 0, .row 3 0, .row 4 0], .row 3 1 [], .row 3 1 [], .row 3 1 [], .row 63 1 []]
theorem scopes_hdet (D : List Dt) : HDet Tryz.prog 82 [.bp 0 0] (progH D) (.pv (.tuple [])) (progH' D) := by
  refine hdet_of_vc' (E := S.E 4) fol Tryz.func82 rfl rfl (slots := []) rfl rfl ?_ ?_ ?_ fun hw => ?_
  · exact Nat.le_refl 4
  · exact ⟨rfl, trivial⟩
  · intro i
    match i with
    | 0 => exact ⟨trivial, trivial, trivial, trivial, rfl, rfl, rfl, trivial, trivial⟩
    | 1 => exact trivial
    | 2 => exact trivial
    | 3 => exact trivial
    | i + 4 => unfold progH; simp only [hget, hget_nil]; exact trivial
  unfold progH
  set_option smartUnfolding false in conv => whnf
  refine ⟨⟨by decide, by decide, by decide, by decide⟩, ?_⟩
  set_option smartUnfolding false in conv => whnf
  refine vloop_intro (σ := Unit) (fun _ => True) (fun _ => [(0, .bp 0 0), (23, .pv (.int .i64 0)), (24, .pv (.int .i64 0))]) (fun _ => progH' D) (fun _ => 0) () trivial (weak_ren [0, 1, 2, 3, 4] 5 (by kernel_rfl) (blk (by kernel_rfl) (blk (by kernel_rfl) (blk (by kernel_rfl) (blk (by kernel_rfl) (blk (by kernel_rfl) trivial))))) ⟨(by kernel_rfl), (by kernel_rfl), (by kernel_rfl), trivial⟩) ?_
  rintro ⟨⟩ _
  set_option smartUnfolding false in conv => whnf
  refine vloop_intro (σ := Unit) (fun _ => True) (fun _ => [(0, .bp 0 0), (47, .pv (.int .i64 0)), (48, .pv (.int .i64 0))]) (fun _ => progH' D) (fun _ => 0) () trivial (weak_ren [0, 1, 2, 3, 4] 5 (by kernel_rfl) (blk (by kernel_rfl) (blk (by kernel_rfl) (blk (by kernel_rfl) (blk (by kernel_rfl) (blk (by kernel_rfl) trivial))))) ⟨(by kernel_rfl), (by kernel_rfl), (by kernel_rfl), trivial⟩) ?_
  rintro ⟨⟩ _
  set_option smartUnfolding false in conv => whnf
  exact weak_ren [0, 1, 2, 3, 4] 5 (by kernel_rfl) (blk (by kernel_rfl) (blk (by kernel_rfl) (blk (by kernel_rfl) (blk (by kernel_rfl) (blk (by kernel_rfl) trivial))))) ⟨(by kernel_rfl), trivial⟩

theorem coreValid_det {D : List Dt} (hD : DOK D) (hN : DN D) : Det Tryz.prog 53 [coreP D] (.bool (dvalid D)) := by
  unfold coreP
  generalize hR : dvalid D = R
  have hv := validData_t hD hN
  rw [hR] at hv
  refine det_of_vc' (E := S.E 0) rfl fol Tryz.func53 rfl rfl (slots := [2]) rfl rfl fun hw => ?_
  set_option smartUnfolding false in conv => whnf
  refine acall_det (ps := [.lst 3 (Dt.pvL D)]) hv ?_
  set_option smartUnfolding false in conv => whnf
  refine br_intro (fun g => ?_) (fun g => ?_) <;> set_option smartUnfolding false in conv => whnf
  · exact rdB (by simpa using g.symm)
  have g : R = true := by simpa using g
  subst g
  refine acall_intro (adet_read (S := [0]) (allT_nil 78 [.cp [.lst 3 (Dt.pvL D), .nils, .nils, .nils]]) (.cons (.pv _) (.cons (.fn (.cons (.bp (.head _) rfl (.cons (.pv _) (.cons (.pv _) (.cons (.pv _) (.cons (.pv _) .nil))))) .nil)) .nil)) rfl) ?_
  set_option smartUnfolding false in conv => whnf
  refine ⟨⟨by decide, by decide, by decide, by decide⟩, ?_⟩
  set_option smartUnfolding false in conv => whnf
  refine ⟨⟨by decide, by decide, by decide, by decide⟩, ?_⟩
  set_option smartUnfolding false in conv => whnf
  refine ⟨⟨by decide, by decide, by decide, by decide⟩, ?_⟩
  set_option smartUnfolding false in conv => whnf
  refine acall_intro (adet_read (S := [4, 1, 2, 3]) (codes_det D) (.cons (.bp (ps := progC D) (.head _) rfl (.cons (.pv _) (.cons (.pv _) (.cons (.pv _) (.cons (.pv _) (.cons (.row (.tail _ (.head _)) rfl (Nat.le_refl 0) .nil) (.cons (.row (.tail _ (.tail _ (.head _))) rfl (Nat.le_refl 0) .nil) (.cons (.row (.tail _ (.tail _ (.tail _ (.head _)))) rfl (Nat.le_refl 0) .nil) (.cons (.pv _) .nil))))))))) .nil) rfl) ?_
  set_option smartUnfolding false in conv => whnf
  refine acall_intro (adet_read (S := [4, 1, 2, 3]) (forest_det D) (.cons (.bp (ps := progC D) (.head _) rfl (.cons (.pv _) (.cons (.pv _) (.cons (.pv _) (.cons (.pv _) (.cons (.row (.tail _ (.head _)) rfl (Nat.le_refl 0) .nil) (.cons (.row (.tail _ (.tail _ (.head _))) rfl (Nat.le_refl 0) .nil) (.cons (.row (.tail _ (.tail _ (.tail _ (.head _)))) rfl (Nat.le_refl 0) .nil) (.cons (.pv _) .nil))))))))) .nil) rfl) ?_
  set_option smartUnfolding false in conv => whnf
  refine acall_intro (adet_read (S := [4, 1, 2, 3]) (bound_det D) (.cons (.bp (ps := progC D) (.head _) rfl (.cons (.pv _) (.cons (.pv _) (.cons (.pv _) (.cons (.pv _) (.cons (.row (.tail _ (.head _)) rfl (Nat.le_refl 0) .nil) (.cons (.row (.tail _ (.tail _ (.head _))) rfl (Nat.le_refl 0) .nil) (.cons (.row (.tail _ (.tail _ (.tail _ (.head _)))) rfl (Nat.le_refl 0) .nil) (.cons (.pv _) .nil))))))))) .nil) rfl) ?_
  set_option smartUnfolding false in conv => whnf
  refine acall_hdet (scopes_hdet D) [4, 1, 2, 3] 5 rfl rfl ⟨rfl, rfl, rfl, rfl, trivial⟩ ?_
  set_option smartUnfolding false in conv => whnf
  refine vloop_intro (σ := Unit) (fun _ => True) (fun _ => [(1, .bp 0 0), (66, .pv (.int .i64 0)), (67, .pv (.int .i64 0))]) (fun _ => [.box 83 [.pv (.lst 3 (Dt.pvL D)), .pv .nils, .pv .nils, .pv .nils]]) (fun _ => 0) () trivial (weak_ren [0] 6 (by kernel_rfl) (blk (by kernel_rfl) trivial) ⟨(by kernel_rfl), (by kernel_rfl), (by kernel_rfl), trivial⟩) ?_
  rintro ⟨⟩ _
  set_option smartUnfolding false in conv => whnf
  refine vloop_intro (σ := Unit) (fun _ => True) (fun _ => [(77, .pv (.int .i64 0)), (78, .pv (.int .i64 0))]) (fun _ => []) (fun _ => 0) () trivial (weak_bare rfl ⟨(by kernel_rfl), (by kernel_rfl), trivial⟩) ?_
  rintro ⟨⟩ _
  set_option smartUnfolding false in conv => whnf
  exact rdB rfl

/-- value.known. -/
noncomputable def known (D : List Dt) (t : V) : Bool := dvalid D && V.okW D 0 t
end Go.AM

set_option linter.all false
set_option maxRecDepth 20000
set_option maxHeartbeats 4000000
namespace Go.AM
open Go.Proofs

/-! ### Valid data: what it says of a declaration -/
theorem decsR_get {D : List Dt} : ∀ {l : List Dt} {i j : Nat} {x : Dt}, decsR D i l = true → l[j]? = some x → 0 ≤ x.vars ∧ x.vars ≤ 6 ∧ x.cons.length ≤ 8 ∧ consR D (i + j) x.vars x.cons = true
  | [], i, j, x, _, h => by simp at h
  | y :: l, i, 0, x, h, hj => by
    rw [decsR_cons] at h
    simp only [Bool.and_eq_true, decide_eq_true_eq] at h
    simp at hj; subst hj
    exact ⟨h.1.1.1.1.1.1, h.1.1.1.1.1.2, h.1.1.1.2, h.1.2⟩
  | y :: l, i, j + 1, x, h, hj => by
    rw [decsR_cons] at h
    simp only [Bool.and_eq_true] at h
    have := decsR_get (j := j) h.2 (by simpa using hj)
    rw [show i + (j + 1) = i + 1 + j by omega]
    exact this
theorem consR_get {D : List Dt} {d : Nat} {vars : Int} : ∀ {l : List Cn} {c : Cn}, consR D d vars l = true → c ∈ l → argsR D d vars c.args = true
  | [], c, _, h => by simp at h
  | y :: l, c, h, hc => by
    rw [consR_cons] at h
    simp only [Bool.and_eq_true] at h
    rcases List.mem_cons.1 hc with rfl | hc
    · exact h.1.2
    · exact consR_get h.2 hc
theorem argsR_get {D : List Dt} {d : Nat} {vars : Int} : ∀ {l : List V} {a : V}, argsR D d vars l = true → a ∈ l → argR D d vars a = true
  | [], a, _, h => by simp at h
  | y :: l, a, h, hc => by
    rw [argsR_cons] at h
    simp only [Bool.and_eq_true] at h
    rcases List.mem_cons.1 hc with rfl | hc
    · exact h.1
    · exact argsR_get h.2 hc
theorem shape_mono {D : List Dt} {d : Nat} {vars k n : Int} {r : Bool × Int × Int} (h : V.shape (D.take d) vars k n = some r) : V.shape D vars k n = some r := by
  unfold V.shape at h ⊢
  split
  · rename_i h1; rwa [if_pos h1] at h
  rename_i h1; rw [if_neg h1] at h
  split
  · rename_i h2; rwa [if_pos h2] at h
  rename_i h2; rw [if_neg h2] at h
  split
  · rename_i h3
    rw [if_pos h3, List.getElem?_take] at h
    split at h
    · rename_i x hx
      split at hx
      · rw [hx]; exact h
      · cases hx
    · cases h
  rename_i h3; rwa [if_neg h3] at h
mutual
theorem okT_mono {D : List Dt} {d : Nat} {vars : Int} : ∀ t : V, V.okT (D.take d) vars t = true → V.okT D vars t = true
  | .mk k n ts, h => by
    rw [V.okT_mk] at h ⊢
    cases hs : V.shape (D.take d) vars k n with
    | none => rw [hs] at h; cases h
    | some r =>
      rw [hs] at h
      rw [shape_mono hs]
      obtain ⟨b, lo, hi⟩ := r
      simp only [Bool.and_eq_true] at h ⊢
      exact ⟨h.1, okTL_mono ts h.2⟩
theorem okTL_mono {D : List Dt} {d : Nat} {vars : Int} : ∀ l : List V, V.okTL (D.take d) vars l = true → V.okTL D vars l = true
  | [], _ => V.okTL_nil _ _
  | t :: l, h => by
    rw [V.okTL_cons] at h ⊢
    simp only [Bool.and_eq_true] at h ⊢
    exact ⟨okT_mono t h.1, okTL_mono l h.2⟩
end
theorem okTL_mem {D : List Dt} {vars : Int} : ∀ {l : List V} {t : V}, V.okTL D vars l = true → t ∈ l → V.okT D vars t = true
  | [], t, _, h => by simp at h
  | y :: l, t, h, hm => by
    rw [V.okTL_cons] at h
    simp only [Bool.and_eq_true] at h
    rcases List.mem_cons.1 hm with rfl | hm
    · exact h.1
    · exact okTL_mem h.2 hm
theorem V.subL_len (us : List V) : ∀ l : List V, (V.subL us l).length = l.length
  | [] => by rw [V.subL_nil]
  | t :: l => by rw [V.subL_cons, List.length_cons, List.length_cons, V.subL_len us l]
mutual
theorem sub_ok {D : List Dt} {us : List V} {vars w : Int} (hu : V.okTL D w us = true) (hl : (us.length : Int) = vars) : ∀ t : V, V.okT D vars t = true → V.okT D w (V.sub us t) = true
  | .mk k n ts, h => by
    by_cases h4 : k = 4
    · subst h4
      rw [V.okT_mk] at h
      have hs : V.shape D vars 4 n = some (decide (0 ≤ n) && decide (n < vars), 0, 0) := by unfold V.shape; rw [if_neg (by omega), if_pos rfl]
      rw [hs] at h
      simp only [Bool.and_eq_true, decide_eq_true_eq] at h
      rw [V.sub_mk, if_pos ⟨rfl, h.1.1.1.1, by omega⟩]
      have hm : us[n.toNat]?.getD (.mk 0 0 []) ∈ us := by
        rw [List.getElem?_eq_getElem (by omega)]; simp
      exact okTL_mem hu hm
    · rw [V.sub_mk, if_neg (fun e => h4 e.1), V.okT_mk, V.subL_len]
      rw [V.okT_mk] at h
      have hs : V.shape D vars k n = V.shape D w k n := by unfold V.shape; rw [if_neg (c := k = 4) h4, if_neg (c := k = 4) h4]
      rw [hs] at h
      cases hr : V.shape D w k n with
      | none => rw [hr] at h; cases h
      | some r =>
        rw [hr] at h
        obtain ⟨b, lo, hi⟩ := r
        simp only [Bool.and_eq_true] at h ⊢
        exact ⟨h.1, subL_ok hu hl ts h.2⟩
theorem subL_ok {D : List Dt} {us : List V} {vars w : Int} (hu : V.okTL D w us = true) (hl : (us.length : Int) = vars) : ∀ l : List V, V.okTL D vars l = true → V.okTL D w (V.subL us l) = true
  | [], _ => by rw [V.subL_nil, V.okTL_nil]
  | t :: l, h => by
    rw [V.okTL_cons] at h
    simp only [Bool.and_eq_true] at h
    rw [V.subL_cons, V.okTL_cons, sub_ok hu hl t h.1, subL_ok hu hl l h.2]; rfl
end
theorem flds_mem {ts : List V} : ∀ {l fs : List V}, flds ts l = some fs → ∀ f ∈ fs, f.cnt ≤ 200 ∧ ∃ a ∈ l, f = V.sub ts a
  | [], fs, h, f, hf => by simp [flds_nil] at h; subst h; simp at hf
  | a :: l, fs, h, f, hf => by
    rw [flds_cons] at h
    split at h
    · cases h
    · rename_i hn
      cases hr : flds ts l with
      | none => rw [hr] at h; cases h
      | some r =>
        rw [hr] at h
        cases h
        rcases List.mem_cons.1 hf with rfl | hf
        · exact ⟨by omega, a, by simp, rfl⟩
        · obtain ⟨h1, b, hb, h2⟩ := flds_mem hr f hf
          exact ⟨h1, b, by simp [hb], h2⟩
/-- A good ground type. -/
structure Good (D : List Dt) (t : V) : Prop where
  ok : V.okT D 0 t = true
  cnt : t.cnt ≤ 200
theorem Good.kid {D : List Dt} {k n : Int} {ts : List V} {u : V} (h : Good D (.mk k n ts)) (hu : u ∈ ts) : Good D u := by
  have h1 := h.ok
  have h2 := h.cnt
  rw [V.okT_mk] at h1
  rw [V.cnt_mk] at h2
  have := V.cnt_mem hu
  refine ⟨?_, by omega⟩
  split at h1
  · simp only [Bool.and_eq_true] at h1
    exact okTL_mem h1.2 hu
  · cases h1
theorem Good.fields {D : List Dt} (hv : dvalid D = true) {t : V} (h : Good D t) {c : Int} {fs : List V} (hf : fieldsS D t c = some fs) : ∀ f ∈ fs, Good D f := by
  obtain ⟨k, n, ts⟩ := t
  have hok := h.ok
  unfold fieldsS conOf at hf
  simp only at hf
  by_cases hk : k = 5 ∧ 0 ≤ n ∧ 0 ≤ c
  · rw [if_pos hk] at hf
    cases hx : D[n.toNat]? with
    | none => rw [hx] at hf; simp at hf
    | some x =>
      rw [hx] at hf
      simp only at hf
      by_cases hl : (ts.length : Int) = x.vars
      · rw [if_pos hl] at hf
        cases hc : x.cons[c.toNat]? with
        | none => rw [hc] at hf; simp at hf
        | some cc =>
          rw [hc] at hf
          unfold dvalid at hv
          simp only [Bool.and_eq_true] at hv
          have hd := decsR_get hv.2.1 hx
          rw [Nat.zero_add] at hd
          have hca := consR_get hd.2.2.2 (List.mem_of_getElem? hc)
          simp only [V.kids] at hf
          intro f hfm
          obtain ⟨h1, a, ha, rfl⟩ := flds_mem hf f hfm
          refine ⟨?_, h1⟩
          have har := argsR_get hca ha
          rw [← arg_eq hx hd.2.1] at har
          simp only [Bool.and_eq_true] at har
          have hw := har.1
          unfold V.okW at hw
          simp only [Bool.and_eq_true] at hw
          refine sub_ok (vars := x.vars) ?_ hl a (okT_mono a hw.2)
          rw [V.okT_mk] at hok
          split at hok
          · simp only [Bool.and_eq_true] at hok; exact hok.2
          · cases hok
      · rw [if_neg hl] at hf; simp at hf
  · rw [if_neg hk] at hf; simp at hf

theorem Good.decl {D : List Dt} {n : Int} {ts : List V} (h : Good D (.mk 5 n ts)) : 0 ≤ n ∧ n < D.length := by
  have h1 := h.ok
  rw [V.okT_mk] at h1
  unfold V.shape at h1
  rw [if_neg (by omega), if_neg (by omega), if_pos rfl] at h1
  cases hx : D[n.toNat]? with
  | none => rw [hx] at h1; cases h1
  | some x =>
    rw [hx] at h1
    simp only [Bool.and_eq_true, decide_eq_true_eq] at h1
    have := (List.getElem?_eq_some_iff.1 hx).1
    omega
theorem Good.one {D : List Dt} {k n : Int} {ts : List V} (h : Good D (.mk k n ts)) (hk : k = 7 ∨ k = 8) : ∃ u, ts = [u] := by
  have h1 := h.ok
  rw [V.okT_mk] at h1
  unfold V.shape at h1
  rw [if_neg (by omega), if_neg (by omega), if_neg (by omega), if_neg (by omega), if_pos hk] at h1
  simp only [Bool.and_eq_true, decide_eq_true_eq] at h1
  match ts, h1 with
  | [u], _ => exact ⟨u, rfl⟩
  | [], h1 => simp at h1
  | _ :: _ :: _, h1 => simp at h1; omega
theorem conOf_big {D : List Dt} (hv : dvalid D = true) {tn : Int} {ts : List V} {n : Int} (h : n < 0 ∨ 8 ≤ n) : fieldsS D (.mk 5 tn ts) n = Option.none := by
  cases hf : fieldsS D (.mk 5 tn ts) n with
  | none => rfl
  | some fs =>
    exfalso
    unfold fieldsS conOf at hf
    simp only at hf
    by_cases hk : True ∧ 0 ≤ tn ∧ 0 ≤ n
    · rw [if_pos hk] at hf
      cases hx : D[tn.toNat]? with
      | none => rw [hx] at hf; simp at hf
      | some x =>
        rw [hx] at hf
        unfold dvalid at hv
        simp only [Bool.and_eq_true] at hv
        have hd := decsR_get hv.2.1 hx
        have hc : x.cons[n.toNat]? = Option.none := List.getElem?_eq_none (by omega)
        simp only [hc] at hf
        by_cases hl : (ts.length : Int) = x.vars
        · rw [if_pos hl] at hf; simp at hf
        · rw [if_neg hl] at hf; simp at hf
    · rw [if_neg hk] at hf; simp at hf
theorem known_good {D : List Dt} {t : V} (h : known D t = true) : dvalid D = true ∧ Good D t := by
  unfold known V.okW at h
  simp only [Bool.and_eq_true, decide_eq_true_eq] at h
  exact ⟨h.1, h.2.2, h.2.1⟩
theorem boolsP_got {l : List Bool} {i : Nat} {b : Bool} (h : l[i]? = some b) : (boolsP l)[i]? = some (.bool b) := by simp [boolsP, h]
theorem boolsP_len (l : List Bool) : (boolsP l).length = l.length := by simp [boolsP]
theorem drop_bool {l : List Bool} {i : Nat} (h : i < l.length) : ∃ b, l[i]? = some b ∧ (boolsP l)[i]? = some (.bool b) ∧ l.drop i = b :: l.drop (i + 1) :=
  ⟨l[i], by simp [h], boolsP_got (by simp [h]), List.drop_eq_getElem_cons h⟩
end Go.AM

set_option linter.all false
set_option maxRecDepth 20000
set_option maxHeartbeats 4000000
namespace Go.AM
open Go.Proofs

/-! ### Indices: their degrees -/
def V.num : V → Int | .mk _ n _ => n
/-- The payload arguments' types. -/
def picks : List V → List Bool → List V
  | f :: fs, b :: bs => if b then picks fs bs else f :: picks fs bs
  | _, _ => []
theorem picks_nil (bs : List Bool) : picks [] bs = [] := by unfold picks; rfl
theorem picks_nil2 (fs : List V) : picks fs [] = [] := by cases fs <;> (unfold picks; rfl)
theorem picks_cons (f : V) (fs : List V) (b : Bool) (bs : List Bool) : picks (f :: fs) (b :: bs) = if b then picks fs bs else f :: picks fs bs := by rw [picks]
theorem picks_mem : ∀ {fs : List V} {bs : List Bool} {u : V}, u ∈ picks fs bs → u ∈ fs
  | [], bs, u, h => by rw [picks_nil] at h; exact h
  | f :: fs, [], u, h => by rw [picks_nil2] at h; cases h
  | f :: fs, b :: bs, u, h => by
    rw [picks_cons] at h
    cases b with
    | true => exact List.mem_cons_of_mem _ (picks_mem h)
    | false =>
      rcases List.mem_cons.1 h with rfl | h
      · exact List.mem_cons_self ..
      · exact List.mem_cons_of_mem _ (picks_mem h)
def payS (D : List Dt) (t : V) (c : Int) : Option (List V) := match fieldsS D t c with
  | some fs => some (picks fs (recS D t.num c))
  | Option.none => Option.none
theorem payS_none {D : List Dt} {t : V} {c : Int} (h : fieldsS D t c = Option.none) : payS D t c = Option.none := by unfold payS; rw [h]
theorem payS_some {D : List Dt} {t : V} {c : Int} {fs : List V} (h : fieldsS D t c = some fs) : payS D t c = some (picks fs (recS D t.num c)) := by unfold payS; rw [h]
theorem payS_good {D : List Dt} (hv : dvalid D = true) {t : V} (hg : Good D t) {c : Int} {ts : List V} (h : payS D t c = some ts) : ∀ u ∈ ts, Good D u := fun u hu => by
  cases hf : fieldsS D t c with
  | none => rw [payS_none hf] at h; cases h
  | some fs =>
    rw [payS_some hf] at h
    cases h
    exact hg.fields hv hf u (picks_mem hu)
theorem flds_len : ∀ {ts l fs : List V}, flds ts l = some fs → fs.length = l.length
  | ts, [], fs, h => by simp [flds_nil] at h; subst h; rfl
  | ts, a :: l, fs, h => by
    rw [flds_cons] at h
    split at h
    · cases h
    · cases hr : flds ts l with
      | none => rw [hr] at h; cases h
      | some r =>
        rw [hr] at h
        cases h
        rw [List.length_cons, flds_len hr]; rfl
theorem rec_len {D : List Dt} {d n : Int} {ts fs : List V} (hf : fieldsS D (.mk 5 d ts) n = some fs) : ∃ x c, x ∈ D ∧ c ∈ x.cons ∧ fs.length = c.args.length ∧ (recS D d n).length = c.args.length := by
  unfold fieldsS at hf
  cases hc : conOf D (.mk 5 d ts) n with
  | none => rw [hc] at hf; cases hf
  | some c =>
    rw [hc] at hf
    have hf := flds_len hf
    unfold conOf at hc
    simp only at hc
    by_cases hk : True ∧ 0 ≤ d ∧ 0 ≤ n
    · rw [if_pos hk] at hc
      cases hx : D[d.toNat]? with
      | none => rw [hx] at hc; cases hc
      | some x =>
        rw [hx] at hc
        simp only at hc
        by_cases hl : (ts.length : Int) = x.vars
        · rw [if_pos hl] at hc
          have er : recS D d n = c.args.map (isSelf d x.vars) := by
            unfold recS conAt
            rw [if_pos ⟨hk.2.1, hk.2.2⟩, hx]
            simp only [hc]
          exact ⟨x, c, List.mem_of_getElem? hx, List.mem_of_getElem? hc, hf, by rw [er, List.length_map]⟩
        · rw [if_neg hl] at hc; cases hc
    · rw [if_neg hk] at hc; cases hc
mutual
def Ix.deg (D : List Dt) : Ix → V → Option Int
  | .mk n ks, .mk tk tn ts =>
    if tk = 6 then (if n = 0 then Ix.degL D 0 ks ts else Option.none)
    else if tk = 7 then (if 0 ≤ n ∧ n ≤ 6 ∧ ks.length = 0 then some n else Option.none)
    else if tk = 5 then (if n = 0 ∧ ks.length ≤ 6 then Ix.degE D (.mk tk tn ts) 0 ks else Option.none)
    else (if n = 0 ∧ ks.length = 0 then some 0 else Option.none)
def Ix.degL (D : List Dt) (a : Int) : List Ix → List V → Option Int
  | [], us => match us with
    | [] => some a
    | _ :: _ => Option.none
  | i :: l, us => match us with
    | [] => Option.none
    | u :: us => match Ix.deg D i u with
      | some d => if 6 < a + d then Option.none else Ix.degL D (a + d) l us
      | Option.none => Option.none
def Ix.degE (D : List Dt) (t : V) (a : Int) : List Ix → Option Int
  | [] => some a
  | e :: l => match Ix.degK D t e with
    | some d => if 6 < a + (1 + d) then Option.none else Ix.degE D t (a + (1 + d)) l
    | Option.none => Option.none
def Ix.degK (D : List Dt) (t : V) : Ix → Option Int
  | .mk c es => match payS D t c with
    | some us => Ix.degL D 0 es us
    | Option.none => Option.none
end
theorem Ix.deg_mk (D : List Dt) (n : Int) (ks : List Ix) (tk tn : Int) (ts : List V) : Ix.deg D (.mk n ks) (.mk tk tn ts) =
    if tk = 6 then (if n = 0 then Ix.degL D 0 ks ts else Option.none)
    else if tk = 7 then (if 0 ≤ n ∧ n ≤ 6 ∧ ks.length = 0 then some n else Option.none)
    else if tk = 5 then (if n = 0 ∧ ks.length ≤ 6 then Ix.degE D (.mk tk tn ts) 0 ks else Option.none)
    else (if n = 0 ∧ ks.length = 0 then some 0 else Option.none) := by rw [Ix.deg]
theorem Ix.degL_nil (D : List Dt) (a : Int) : Ix.degL D a [] [] = some a := by rw [Ix.degL]
theorem Ix.degL_nc (D : List Dt) (a : Int) (u : V) (us : List V) : Ix.degL D a [] (u :: us) = Option.none := by rw [Ix.degL]
theorem Ix.degL_cn (D : List Dt) (a : Int) (i : Ix) (l : List Ix) : Ix.degL D a (i :: l) [] = Option.none := by rw [Ix.degL]
theorem Ix.degL_cons (D : List Dt) (a : Int) (i : Ix) (l : List Ix) (u : V) (us : List V) : Ix.degL D a (i :: l) (u :: us) = match Ix.deg D i u with
      | some d => if 6 < a + d then Option.none else Ix.degL D (a + d) l us
      | Option.none => Option.none := by rw [Ix.degL]
theorem Ix.degE_nil (D : List Dt) (t : V) (a : Int) : Ix.degE D t a [] = some a := by rw [Ix.degE]
theorem Ix.degE_cons (D : List Dt) (t : V) (a : Int) (e : Ix) (l : List Ix) : Ix.degE D t a (e :: l) = match Ix.degK D t e with
    | some d => if 6 < a + (1 + d) then Option.none else Ix.degE D t (a + (1 + d)) l
    | Option.none => Option.none := by rw [Ix.degE]
theorem Ix.degK_mk (D : List Dt) (t : V) (c : Int) (es : List Ix) : Ix.degK D t (.mk c es) = match payS D t c with
    | some us => Ix.degL D 0 es us
    | Option.none => Option.none := by rw [Ix.degK]
mutual
theorem Ix.deg_rng (D : List Dt) : ∀ (i : Ix) (t : V) (d : Int), Ix.deg D i t = some d → 0 ≤ d ∧ d ≤ 6
  | .mk n ks, .mk tk tn ts, d, h => by
    rw [Ix.deg_mk] at h
    split at h
    · split at h
      · exact Ix.degL_rng D ks ts 0 d h (by omega) (by omega)
      · cases h
    · split at h
      · split at h
        · cases h; omega
        · cases h
      · split at h
        · split at h
          · exact Ix.degE_rng D _ ks 0 d h (by omega) (by omega)
          · cases h
        · split at h
          · cases h; omega
          · cases h
theorem Ix.degL_rng (D : List Dt) : ∀ (l : List Ix) (us : List V) (a d : Int), Ix.degL D a l us = some d → 0 ≤ a → a ≤ 6 → 0 ≤ d ∧ d ≤ 6
  | [], [], a, d, h, h1, h2 => by rw [Ix.degL_nil] at h; cases h; omega
  | [], u :: us, a, d, h, h1, h2 => by rw [Ix.degL_nc] at h; cases h
  | i :: l, [], a, d, h, h1, h2 => by rw [Ix.degL_cn] at h; cases h
  | i :: l, u :: us, a, d, h, h1, h2 => by
    rw [Ix.degL_cons] at h
    cases hi : Ix.deg D i u with
    | none => rw [hi] at h; cases h
    | some e =>
      rw [hi] at h
      have := Ix.deg_rng D i u e hi
      simp only at h
      split at h
      · cases h
      · exact Ix.degL_rng D l us (a + e) d h (by omega) (by omega)
theorem Ix.degE_rng (D : List Dt) (t : V) : ∀ (l : List Ix) (a d : Int), Ix.degE D t a l = some d → 0 ≤ a → a ≤ 6 → 0 ≤ d ∧ d ≤ 6
  | [], a, d, h, h1, h2 => by rw [Ix.degE_nil] at h; cases h; omega
  | e :: l, a, d, h, h1, h2 => by
    rw [Ix.degE_cons] at h
    cases hi : Ix.degK D t e with
    | none => rw [hi] at h; cases h
    | some x =>
      rw [hi] at h
      have := Ix.degK_rng D t e x hi
      simp only at h
      split at h
      · cases h
      · exact Ix.degE_rng D t l (a + (1 + x)) d h (by omega) (by omega)
theorem Ix.degK_rng (D : List Dt) (t : V) : ∀ (e : Ix) (d : Int), Ix.degK D t e = some d → 0 ≤ d ∧ d ≤ 6
  | .mk c es, d, h => by
    rw [Ix.degK_mk] at h
    cases hp : payS D t c with
    | none => rw [hp] at h; cases h
    | some us =>
      rw [hp] at h
      exact Ix.degL_rng D es us 0 d h (by omega) (by omega)
end
theorem Ix.degL_len {D : List Dt} : ∀ {l : List Ix} {us : List V} {a d : Int}, Ix.degL D a l us = some d → l.length = us.length
  | [], [], a, d, h => rfl
  | [], u :: us, a, d, h => by rw [Ix.degL_nc] at h; cases h
  | i :: l, [], a, d, h => by rw [Ix.degL_cn] at h; cases h
  | i :: l, u :: us, a, d, h => by
    rw [Ix.degL_cons] at h
    split at h
    · split at h
      · cases h
      · rw [List.length_cons, List.length_cons, Ix.degL_len h]
    · cases h
attribute [irreducible] Ix.deg Ix.degL Ix.degE Ix.degK picks payS
theorem Ix.rec2 {p : Ix → Prop} (h : ∀ n ks, (∀ v ∈ ks, p v) → (∀ c es, Ix.mk c es ∈ ks → ∀ v ∈ es, p v) → p (.mk n ks)) (v : Ix) : p v := by
  have : ∀ (N : Nat) (v : Ix), SizeOf.sizeOf v < N → p v := by
    intro N
    induction N with
    | zero => intro v hv; omega
    | succ N ih =>
      intro v hv
      obtain ⟨n, ks⟩ := v
      simp only [Ix.mk.sizeOf_spec] at hv
      refine h n ks (fun w hw => ih w ?_) (fun c es he w hw => ih w ?_)
      · have := List.sizeOf_lt_of_mem hw
        omega
      · have h1 := List.sizeOf_lt_of_mem he
        have h2 := List.sizeOf_lt_of_mem hw
        simp only [Ix.mk.sizeOf_spec] at h1
        omega
  exact this (SizeOf.sizeOf v + 1) v (by omega)
theorem Ix.get_elim {P : Prop} {l : List Ix} {i : Nat} (h : i < l.length) (k : ∀ n us, Ix.mk n us ∈ l → (Ix.pvL l)[i]? = some (Ix.ag n us) → l[i]? = some (.mk n us) → l.drop i = .mk n us :: l.drop (i + 1) → P) : P := by
  obtain ⟨⟨n, us⟩, h1, h2, h3, h4⟩ := Ix.get_pvL h
  rw [Ix.pv_mk] at h2
  exact k n us h1 h2 h3 h4
end Go.AM

set_option linter.all false
set_option maxRecDepth 20000
set_option maxHeartbeats 4000000
namespace Go.AM
open Go.Proofs

theorem recS_len {D : List Dt} (hD : DOK D) (d c : Int) : (recS D d c).length ≤ 1000 := by
  unfold recS
  split
  · rename_i vars y h
    unfold conAt at h
    split at h
    · split at h
      · rename_i x hx
        split at h
        · rename_i z hz
          cases h
          rw [List.length_map]
          exact hD.args _ (List.mem_of_getElem? hx) _ (List.mem_of_getElem? hz)
        · cases h
      · cases h
    · cases h
  · simp
def payF (D : List Dt) (tn : Int) (ts : List V) (c : Int) (fs : List V) : List V := picks fs (recS D tn c)
theorem payloads_t {D : List Dt} (hD : DOK D) (tn : Int) (ts : List V) (hg : Good D (.mk 5 tn ts)) (c : Int) : Det Tryz.prog 87 [.lst 3 (Dt.pvL D), (V.mk 5 tn ts).pv, .int .i64 c] (optP [] (payS D (.mk 5 tn ts) c)) := by
  have hF := tfields_det hD (.mk 5 tn ts) (by have := hg.cnt; omega) c
  have hRc := trec_det hD tn c
  have hd := hg.decl
  rw [V.pv_mk] at hF
  rw [V.pv_mk]
  refine det_of_vc' (E := S.E 0) rfl fol Tryz.func87 rfl rfl (slots := [6, 7]) rfl rfl fun hw => ?_
  set_option smartUnfolding false in conv => whnf
  refine br_intro (fun g2 => ?_) (fun g2 => ?_) <;> set_option smartUnfolding false in conv => whnf
  · have g2 := dT g2
    have e : fieldsS D (.mk 5 tn ts) c = Option.none := by unfold fieldsS conOf; simp only; rw [if_neg (by omega)]
    rw [payS_none e]
    exact rd_no
  have g2 := dF g2
  refine Dt.get_elim (l := D) (i := tn.toNat) (by omega) fun nm vs cs hmem hdg hdg2 _ => ?_
  refine ⟨Dt.ag nm vs cs, ⟨by omega, hdg⟩, ?_⟩
  set_option smartUnfolding false in conv => whnf
  refine br_intro (fun g3 => ?_) (fun g3 => ?_) <;> set_option smartUnfolding false in conv => whnf
  · have g3 := dT g3
    rw [Cn.pvL_len] at g3
    have e : fieldsS D (.mk 5 tn ts) c = Option.none := by
      unfold fieldsS conOf; simp only; rw [hdg2]; simp only; rw [List.getElem?_eq_none (l := cs) (by omega)]; simp
    rw [payS_none e]
    exact rd_no
  cases hf : fieldsS D (.mk 5 tn ts) c with
  | none =>
    rw [hf, optP_none] at hF
    rw [payS_none hf, optP_none]
    refine acall_det (ps := [.lst 3 (Dt.pvL D), V.ag 5 tn ts, .int .i64 c]) hF ?_
    set_option smartUnfolding false in conv => whnf
    refine acall_det (ps := [.lst 3 (Dt.pvL D), .int .i64 tn, .int .i64 c]) hRc ?_
    set_option smartUnfolding false in conv => whnf
    have hl : (boolsP (recS D tn c)).length ≤ 9223372036854775807 := by have := recS_len hD tn c; rw [boolsP_len]; omega
    refine vloop_intro (σ := Nat) (fun i => i ≤ (boolsP (recS D tn c)).length) (fun i => [(9, .pv (.bool false)), (10, .pv .nils), (37, .pv (.lst 1 (boolsP (recS D tn c)))), (38, .pv (.int .i64 (boolsP (recS D tn c)).length)), (39, .pv (.int .i64 i))]) (fun _ => []) (fun i => (boolsP (recS D tn c)).length - i) 0 (Nat.zero_le _) (weak_bare rfl ⟨(by kernel_rfl), (by kernel_rfl), (by kernel_rfl), (by kernel_rfl), (by kernel_rfl), trivial⟩) ?_
    rintro i hi
    set_option smartUnfolding false in conv => whnf
    refine br_intro (fun h => ?_) (fun h => ?_) <;> set_option smartUnfolding false in conv => whnf
    · replace h : i < (boolsP (recS D tn c)).length := by have := dT h; simpa using this
      obtain ⟨b, hb0, hb1, hb2⟩ := drop_bool (l := recS D tn c) (i := i) (by rwa [boolsP_len] at h)
      refine ⟨.bool b, ⟨by simp, by simpa using hb1⟩, ?_⟩
      set_option smartUnfolding false in conv => whnf
      exact ⟨i + 1, h, weak_bare rfl ⟨(by kernel_rfl), (by kernel_rfl), (by kernel_rfl), (by kernel_rfl), sUp h hl, trivial⟩, subUp h⟩
    · exact rd_no
  | some fs =>
    obtain ⟨x, cn, hx, hcn, hfl, hrl⟩ := rec_len hf
    have hal := hD.args x hx cn hcn
    rw [hf, optP_some, List.nil_append] at hF
    have hR : PV.tuple [.lst 3 (V.pvL (payF D tn ts c fs)), .bool true] = optP [] (payS D (.mk 5 tn ts) c) := by rw [payS_some hf, optP_some, List.nil_append]; rfl
    rw [← hR]
    unfold payF
    generalize hbs : recS D tn c = bs at hRc hrl
    generalize hT : V.pvL (picks fs bs) = T
    refine acall_det (ps := [.lst 3 (Dt.pvL D), V.ag 5 tn ts, .int .i64 c]) hF ?_
    set_option smartUnfolding false in conv => whnf
    refine acall_det (ps := [.lst 3 (Dt.pvL D), .int .i64 tn, .int .i64 c]) hRc ?_
    set_option smartUnfolding false in conv => whnf
    have hl : fs.length ≤ 9223372036854775807 := by omega
    refine vloop_intro (σ := Nat × List PV) (fun x => x.1 ≤ fs.length ∧ x.2 ++ V.pvL (picks (fs.drop x.1) (bs.drop x.1)) = T ∧ x.2.length ≤ x.1) (fun x => [(8, .pv (.lst 3 (V.pvL fs))), (9, .pv (.bool true)), (10, lsV 0 x.2), (37, .pv (.lst 1 (boolsP bs))), (38, .pv (.int .i64 (boolsP bs).length)), (39, .pv (.int .i64 x.1))])
      (fun x => [lsB 25 3 x.2]) (fun x => fs.length - x.1) (0, []) ⟨by simp, by simpa using hT, Nat.le_refl _⟩ (weak_ren [1] 2 (by kernel_rfl) (blkD trivial) ⟨(by kernel_rfl), (by kernel_rfl), (by kernel_rfl), (by kernel_rfl), (by kernel_rfl), (by kernel_rfl), trivial⟩) ?_
    rintro ⟨i, ps⟩ ⟨hi, hs, hpl⟩
    simp only at hi hs hpl
    set_option smartUnfolding false in conv => whnf
    refine br_intro (fun h => ?_) (fun h => ?_) <;> set_option smartUnfolding false in conv => whnf
    · replace h : i < fs.length := by have := dT h; rw [boolsP_len, hrl, ← hfl] at this; simpa using this
      obtain ⟨b, hb0, hb1, hb2⟩ := drop_bool (l := bs) (i := i) (by omega)
      refine V.get_elim h fun k1 n1 ks1 hv hg hg0 hd => ?_
      rw [hd, hb2, picks_cons] at hs
      refine ⟨.bool b, ⟨by simp, by simpa using hb1⟩, ?_⟩
      set_option smartUnfolding false in conv => whnf
      refine br_intro (fun g => ?_) (fun g => ?_) <;> set_option smartUnfolding false in conv => whnf
      · have g : b = false := by simpa using g
        subst g
        rw [if_neg (by simp), V.pvL_cons, V.pv_mk] at hs
        refine ⟨V.ag k1 n1 ks1, ⟨by simp, by simpa using hg⟩, ?_⟩
        set_option smartUnfolding false in conv => whnf
        refine ⟨Nat.le_refl 1, ?_⟩
        set_option smartUnfolding false in conv => whnf
        cases ps with
        | nil =>
          set_option smartUnfolding false in conv => whnf
          refine ⟨⟨⟨by decide, by decide⟩, by decide⟩, ?_⟩
          set_option smartUnfolding false in conv => whnf
          exact ⟨(i + 1, [] ++ [V.ag k1 n1 ks1]), ⟨h, by rw [← hs]; simp, by simp⟩, weak_ren [2] 3 (by kernel_rfl) (blk (by kernel_rfl) trivial) ⟨(by kernel_rfl), (by kernel_rfl), (by kernel_rfl), (by kernel_rfl), (by kernel_rfl), sUp h hl, trivial⟩, subUp h⟩
        | cons p ps =>
          set_option smartUnfolding false in conv => whnf
          simp only [List.length_cons] at hpl
          refine ⟨⟨⟨by simp [pvs_len], by simp only [Nat.succ_eq_add_one]; omega⟩, by rw [show ((S.E 0).te 25).bytes = 40 from rfl]; simp only [Nat.succ_eq_add_one]; omega⟩, ?_⟩
          set_option smartUnfolding false in conv => whnf
          exact ⟨(i + 1, (p :: ps) ++ [V.ag k1 n1 ks1]), ⟨h, by rw [← hs]; simp, by simp; omega⟩, weak_ren [2] 3 (by kernel_rfl) (blkR_snoc (by kernel_rfl) trivial) ⟨(by kernel_rfl), (by kernel_rfl), by simp only [lsV_snoc]; kernel_rfl, (by kernel_rfl), (by kernel_rfl), sUp h hl, trivial⟩, subUp h⟩
      · have g : b = true := by simpa using g
        subst g
        rw [if_pos rfl] at hs
        exact ⟨(i + 1, ps), ⟨h, hs, by simp only; omega⟩, weak_ren [0] 1 (by kernel_rfl) (blkR_ls (by kernel_rfl) trivial) ⟨(by kernel_rfl), (by kernel_rfl), sLs (by kernel_rfl), (by kernel_rfl), (by kernel_rfl), sUp h hl, trivial⟩, subUp h⟩
    · replace h : ¬ i < fs.length := by have := dF h; rw [boolsP_len, hrl, ← hfl] at this; simpa using this
      rw [List.drop_of_length_le (by omega), picks_nil, V.pvL_nil, List.append_nil] at hs
      subst hs
      cases ps with
      | nil =>
        set_option smartUnfolding false in conv => whnf
        exact .le (.tuple (.cons (.nils 3) (.cons (.refl _) .nil)))
      | cons p ps =>
        set_option smartUnfolding false in conv => whnf
        exact .tup (.cons (rd_lsE (k := 0) rfl rfl trivial rfl) (.cons (.pv _) .nil))
end Go.AM

set_option linter.all false
set_option maxRecDepth 20000
set_option maxHeartbeats 4000000
namespace Go.AM
open Go.Proofs

/-! ### The payload and the recursive places -/
def pos (q : Bool) : List Bool → Nat → List Nat
  | [], _ => []
  | b :: bs, i => if (b == q) = true then i :: pos q bs (i + 1) else pos q bs (i + 1)
theorem pos_nil (q : Bool) (i : Nat) : pos q [] i = [] := rfl
theorem pos_cons (q b : Bool) (bs : List Bool) (i : Nat) : pos q (b :: bs) i = if (b == q) = true then i :: pos q bs (i + 1) else pos q bs (i + 1) := rfl
def natsP (l : List Nat) : List PV := l.map fun n : Nat => PV.int .i64 (n : Int)
theorem natsP_nil : natsP [] = [] := rfl
theorem natsP_cons (n : Nat) (l : List Nat) : natsP (n :: l) = .int .i64 n :: natsP l := rfl
theorem natsP_len (l : List Nat) : (natsP l).length = l.length := by simp [natsP]
theorem pos_len (q : Bool) : ∀ (bs : List Bool) (i : Nat), (pos q bs i).length ≤ bs.length
  | [], i => by simp [pos_nil]
  | b :: bs, i => by
    rw [pos_cons]
    have := pos_len q bs (i + 1)
    split <;> simp only [List.length_cons] <;> omega
theorem pos_lt (q : Bool) : ∀ (bs : List Bool) (i k : Nat), k ∈ pos q bs i → i ≤ k ∧ k < i + bs.length
  | [], i, k, h => by simp [pos_nil] at h
  | b :: bs, i, k, h => by
    rw [pos_cons] at h
    split at h
    · rcases List.mem_cons.1 h with rfl | h
      · simp only [List.length_cons]; omega
      · have := pos_lt q bs (i + 1) k h
        simp only [List.length_cons]; omega
    · have := pos_lt q bs (i + 1) k h
      simp only [List.length_cons]; omega
/-- What stands at the payload places. -/
theorem picks_pos : ∀ (fs : List V) (bs : List Bool) (l : List V) (i : Nat), (∀ j, fs[j]? = l[i + j]?) → fs.length = bs.length → (pos false bs i).filterMap (fun k => l[k]?) = picks fs bs
  | [], [], l, i, _, _ => by rw [pos_nil, picks_nil]; rfl
  | [], b :: bs, l, i, _, h => by simp at h
  | f :: fs, [], l, i, _, h => by simp at h
  | f :: fs, b :: bs, l, i, hj, h => by
    have ih := picks_pos fs bs l (i + 1) (fun j => by have := hj (j + 1); rw [show i + 1 + j = i + (j + 1) by omega, ← this]; simp) (by simpa using h)
    have h0 := hj 0
    rw [pos_cons, picks_cons]
    cases b with
    | true => rw [if_neg (by simp), if_pos rfl]; exact ih
    | false =>
      rw [if_pos (by simp), if_neg (by simp), List.filterMap_cons]
      have : l[i]? = some f := by simpa using h0.symm
      rw [this, ih]
attribute [irreducible] pos natsP
theorem payload_r {D : List Dt} (hD : DOK D) (tn : Int) (ts : List V) (ht : (V.mk 5 tn ts).cnt ≤ 1000) (c : Int) {fs : List V} (hf : fieldsS D (.mk 5 tn ts) c = some fs) :
    Det Tryz.prog 62 [.lst 3 (Dt.pvL D), (V.mk 5 tn ts).pv, .int .i64 c] (.tuple [.lst 1 (natsP (pos false (recS D tn c) 0)), .lst 1 (natsP (pos true (recS D tn c) 0)), .bool true]) := by
  have hF := rfields_det hD (.mk 5 tn ts) ht c
  have hRc := rrec_det hD tn c
  have hrl := recS_len hD tn c
  rw [V.pv_mk, hf, optP_some, List.nil_append] at hF
  rw [V.pv_mk]
  generalize recS D tn c = bs at hRc hrl
  generalize hP : natsP (pos false bs 0) = P
  generalize hQ : natsP (pos true bs 0) = Q
  refine det_of_vc' (E := S.E 0) rfl fol Tryz.func62 rfl rfl (slots := [6, 7, 8]) rfl rfl fun hw => ?_
  set_option smartUnfolding false in conv => whnf
  refine acall_det (ps := [.lst 3 (Dt.pvL D), V.ag 5 tn ts, .int .i64 c]) hF ?_
  set_option smartUnfolding false in conv => whnf
  refine acall_det (ps := [.lst 3 (Dt.pvL D), .int .i64 tn, .int .i64 c]) hRc ?_
  set_option smartUnfolding false in conv => whnf
  have hl : bs.length ≤ 9223372036854775807 := by omega
  refine vloop_intro (σ := Nat × List PV × List PV) (fun x => x.1 ≤ bs.length ∧ (x.2.1 ++ natsP (pos false (bs.drop x.1) x.1) = P ∧ x.2.2 ++ natsP (pos true (bs.drop x.1) x.1) = Q) ∧ x.2.1.length ≤ x.1 ∧ x.2.2.length ≤ x.1)
    (fun x => [(11, lsV 0 x.2.1), (12, lsV 1 x.2.2), (28, .pv (.lst 1 (boolsP bs))), (29, .pv (.int .i64 (boolsP bs).length)), (30, .pv (.int .i64 x.1))])
    (fun x => [lsB 3 1 x.2.1, lsB 3 1 x.2.2]) (fun x => bs.length - x.1) (0, [], []) ⟨by simp, ⟨by simpa using hP, by simpa using hQ⟩, by simp, by simp⟩ (weak_ren [1, 2] 3 (by kernel_rfl) (blkD (blkD trivial)) ⟨(by kernel_rfl), (by kernel_rfl), (by kernel_rfl), (by kernel_rfl), (by kernel_rfl), trivial⟩) ?_
  rintro ⟨i, ps, qs⟩ ⟨hi, ⟨hs1, hs2⟩, hl1, hl2⟩
  simp only at hi hs1 hs2 hl1 hl2
  set_option smartUnfolding false in conv => whnf
  refine br_intro (fun h => ?_) (fun h => ?_) <;> set_option smartUnfolding false in conv => whnf
  · replace h : i < bs.length := by have := dT h; rw [boolsP_len] at this; simpa using this
    obtain ⟨b, hb0, hb1, hb2⟩ := drop_bool (l := bs) (i := i) h
    rw [hb2, pos_cons] at hs1 hs2
    refine ⟨.bool b, ⟨by simp, by simpa using hb1⟩, ?_⟩
    set_option smartUnfolding false in conv => whnf
    refine br_intro (fun g => ?_) (fun g => ?_) <;> set_option smartUnfolding false in conv => whnf
    · subst g
      rw [if_neg (by simp)] at hs1
      rw [if_pos (by simp), natsP_cons] at hs2
      refine ⟨Nat.le_refl 1, ?_⟩
      set_option smartUnfolding false in conv => whnf
      cases qs with
      | nil =>
        set_option smartUnfolding false in conv => whnf
        refine ⟨⟨⟨by decide, by decide⟩, by decide⟩, ?_⟩
        set_option smartUnfolding false in conv => whnf
        exact ⟨(i + 1, ps, [] ++ [.int .i64 i]), ⟨h, ⟨hs1, by rw [← hs2]; simp⟩, by simp only; omega, by simp⟩, weak_ren [0, 3] 4 (by kernel_rfl) (blkR_ls (by kernel_rfl) (blk (by kernel_rfl) trivial)) ⟨sLs (by kernel_rfl), (by kernel_rfl), (by kernel_rfl), (by kernel_rfl), sUp h hl, trivial⟩, subUp h⟩
      | cons p qs =>
        set_option smartUnfolding false in conv => whnf
        simp only [List.length_cons] at hl2
        refine ⟨⟨⟨by simp [pvs_len], by simp only [Nat.succ_eq_add_one]; omega⟩, by rw [show ((S.E 0).te 3).bytes = 8 from rfl]; simp only [Nat.succ_eq_add_one]; omega⟩, ?_⟩
        set_option smartUnfolding false in conv => whnf
        exact ⟨(i + 1, ps, (p :: qs) ++ [.int .i64 i]), ⟨h, ⟨hs1, by rw [← hs2]; simp⟩, by simp only; omega, by simp; omega⟩, weak_ren [0, 3] 4 (by kernel_rfl) (blkR_ls (by kernel_rfl) (blkR_snoc (by kernel_rfl) trivial)) ⟨sLs (by kernel_rfl), by simp only [lsV_snoc]; kernel_rfl, (by kernel_rfl), (by kernel_rfl), sUp h hl, trivial⟩, subUp h⟩
    · subst g
      rw [if_pos (by simp), natsP_cons] at hs1
      rw [if_neg (by simp)] at hs2
      refine ⟨Nat.le_refl 1, ?_⟩
      set_option smartUnfolding false in conv => whnf
      cases ps with
      | nil =>
        set_option smartUnfolding false in conv => whnf
        refine ⟨⟨⟨by decide, by decide⟩, by decide⟩, ?_⟩
        set_option smartUnfolding false in conv => whnf
        exact ⟨(i + 1, [] ++ [.int .i64 i], qs), ⟨h, ⟨by rw [← hs1]; simp, hs2⟩, by simp, by simp only; omega⟩, weak_ren [3, 1] 4 (by kernel_rfl) (blk (by kernel_rfl) (blkR_ls (by kernel_rfl) trivial)) ⟨(by kernel_rfl), sLs (by kernel_rfl), (by kernel_rfl), (by kernel_rfl), sUp h hl, trivial⟩, subUp h⟩
      | cons p ps =>
        set_option smartUnfolding false in conv => whnf
        simp only [List.length_cons] at hl1
        refine ⟨⟨⟨by simp [pvs_len], by simp only [Nat.succ_eq_add_one]; omega⟩, by rw [show ((S.E 0).te 3).bytes = 8 from rfl]; simp only [Nat.succ_eq_add_one]; omega⟩, ?_⟩
        set_option smartUnfolding false in conv => whnf
        exact ⟨(i + 1, (p :: ps) ++ [.int .i64 i], qs), ⟨h, ⟨by rw [← hs1]; simp, hs2⟩, by simp; omega, by simp only; omega⟩, weak_ren [3, 1] 4 (by kernel_rfl) (blkR_snoc (by kernel_rfl) (blkR_ls (by kernel_rfl) trivial)) ⟨by simp only [lsV_snoc]; kernel_rfl, sLs (by kernel_rfl), (by kernel_rfl), (by kernel_rfl), sUp h hl, trivial⟩, subUp h⟩
  · replace h : ¬ i < bs.length := by have := dF h; rw [boolsP_len] at this; simpa using this
    rw [List.drop_of_length_le (by omega), pos_nil, natsP_nil, List.append_nil] at hs1 hs2
    subst hs1 hs2
    cases ps with
    | nil =>
      cases qs with
      | nil =>
        set_option smartUnfolding false in conv => whnf
        exact .le (.tuple (.cons (.nils 1) (.cons (.nils 1) (.cons (.refl _) .nil))))
      | cons q qs =>
        set_option smartUnfolding false in conv => whnf
        exact .tup (.cons (.le (.nils 1)) (.cons (rd_lsE (k := 1) rfl rfl trivial rfl) (.cons (.pv _) .nil)))
    | cons p ps =>
      cases qs with
      | nil =>
        set_option smartUnfolding false in conv => whnf
        exact .tup (.cons (rd_lsE (k := 0) rfl rfl trivial rfl) (.cons (.le (.nils 1)) (.cons (.pv _) .nil)))
      | cons q qs =>
        set_option smartUnfolding false in conv => whnf
        exact .tup (.cons (rd_lsE (k := 0) rfl rfl trivial rfl) (.cons (rd_lsE (k := 1) rfl rfl trivial rfl) (.cons (.pv _) .nil)))
end Go.AM

set_option linter.all false
set_option maxRecDepth 20000
set_option maxHeartbeats 4000000
namespace Go.AM
open Go.Proofs

theorem iknown_det {D : List Dt} (hD : DOK D) (hN : DN D) (t : V) : Det Tryz.prog 57 [.lst 3 (Dt.pvL D), t.pv] (.bool (known D t)) := by
  have h1 := coreValid_det hD hN
  have h2 := tValid_det D 0 t
  unfold coreP at h1
  obtain ⟨k, n, ts⟩ := t
  rw [V.pv_mk] at h2 ⊢
  unfold known
  refine det_of_vc' (E := S.E 0) rfl fol Tryz.func57 rfl rfl (slots := [4]) rfl rfl fun hw => ?_
  set_option smartUnfolding false in conv => whnf
  refine acall_det (ps := [.agg [.lst 3 (Dt.pvL D), .nils, .nils, .nils]]) h1 ?_
  set_option smartUnfolding false in conv => whnf
  refine br_intro (fun g => ?_) (fun g => ?_) <;> set_option smartUnfolding false in conv => whnf
  · refine acall_det (ps := [.lst 3 (Dt.pvL D), V.ag k n ts, .int .i64 0]) h2 ?_
    set_option smartUnfolding false in conv => whnf
    exact rdB (by rw [g]; rfl)
  · exact rdB (by rw [g]; rfl)
end Go.AM

set_option linter.all false
set_option maxRecDepth 20000
set_option maxHeartbeats 4000000
namespace Go.AM
open Go.Proofs

/-! ### index.Payload -/
theorem ipayload_det {D : List Dt} (hD : DOK D) (hN : DN D) (tn : Int) (ts : List V) (ht : (V.mk 5 tn ts).cnt ≤ 1000) (hk : known D (.mk 5 tn ts) = true) (c : Int) {fs : List V} (hf : fieldsS D (.mk 5 tn ts) c = some fs) :
    Det Tryz.prog 35 [.lst 3 (Dt.pvL D), (V.mk 5 tn ts).pv, .int .i64 c] (.tuple [.lst 1 (natsP (pos false (recS D tn c) 0)), .lst 1 (natsP (pos true (recS D tn c) 0)), .bool true]) := by
  have hKn := iknown_det hD hN (.mk 5 tn ts)
  rw [hk, V.pv_mk] at hKn
  have hF := tfields_det hD (.mk 5 tn ts) ht c
  have hRc := trec_det hD tn c
  have hrl := recS_len hD tn c
  rw [V.pv_mk, hf, optP_some, List.nil_append] at hF
  rw [V.pv_mk]
  generalize recS D tn c = bs at hRc hrl
  generalize hP : natsP (pos false bs 0) = P
  generalize hQ : natsP (pos true bs 0) = Q
  refine det_of_vc' (E := S.E 0) rfl fol Tryz.func35 rfl rfl (slots := [6, 7, 8]) rfl rfl fun hw => ?_
  set_option smartUnfolding false in conv => whnf
  refine acall_det (ps := [.lst 3 (Dt.pvL D), V.ag 5 tn ts]) hKn ?_
  set_option smartUnfolding false in conv => whnf
  refine acall_det (ps := [.lst 3 (Dt.pvL D), V.ag 5 tn ts, .int .i64 c]) hF ?_
  set_option smartUnfolding false in conv => whnf
  refine acall_det (ps := [.lst 3 (Dt.pvL D), .int .i64 tn, .int .i64 c]) hRc ?_
  set_option smartUnfolding false in conv => whnf
  have hl : bs.length ≤ 9223372036854775807 := by omega
  refine vloop_intro (σ := Nat × List PV × List PV) (fun x => x.1 ≤ bs.length ∧ (x.2.1 ++ natsP (pos false (bs.drop x.1) x.1) = P ∧ x.2.2 ++ natsP (pos true (bs.drop x.1) x.1) = Q) ∧ x.2.1.length ≤ x.1 ∧ x.2.2.length ≤ x.1)
    (fun x => [(6, lsV 0 x.2.1), (7, lsV 1 x.2.2), (30, .pv (.lst 1 (boolsP bs))), (31, .pv (.int .i64 (boolsP bs).length)), (32, .pv (.int .i64 x.1))])
    (fun x => [lsB 3 1 x.2.1, lsB 3 1 x.2.2]) (fun x => bs.length - x.1) (0, [], []) ⟨by simp, ⟨by simpa using hP, by simpa using hQ⟩, by simp, by simp⟩ (weak_ren [1, 2] 3 (by kernel_rfl) (blkD (blkD trivial)) ⟨(by kernel_rfl), (by kernel_rfl), (by kernel_rfl), (by kernel_rfl), (by kernel_rfl), trivial⟩) ?_
  rintro ⟨i, ps, qs⟩ ⟨hi, ⟨hs1, hs2⟩, hl1, hl2⟩
  simp only at hi hs1 hs2 hl1 hl2
  set_option smartUnfolding false in conv => whnf
  refine br_intro (fun h => ?_) (fun h => ?_) <;> set_option smartUnfolding false in conv => whnf
  · replace h : i < bs.length := by have := dT h; rw [boolsP_len] at this; simpa using this
    obtain ⟨b, hb0, hb1, hb2⟩ := drop_bool (l := bs) (i := i) h
    rw [hb2, pos_cons] at hs1 hs2
    refine ⟨.bool b, ⟨by simp, by simpa using hb1⟩, ?_⟩
    set_option smartUnfolding false in conv => whnf
    refine br_intro (fun g => ?_) (fun g => ?_) <;> set_option smartUnfolding false in conv => whnf
    · subst g
      rw [if_neg (by simp)] at hs1
      rw [if_pos (by simp), natsP_cons] at hs2
      refine ⟨Nat.le_refl 1, ?_⟩
      set_option smartUnfolding false in conv => whnf
      cases qs with
      | nil =>
        set_option smartUnfolding false in conv => whnf
        refine ⟨⟨⟨by decide, by decide⟩, by decide⟩, ?_⟩
        set_option smartUnfolding false in conv => whnf
        exact ⟨(i + 1, ps, [] ++ [.int .i64 i]), ⟨h, ⟨hs1, by rw [← hs2]; simp⟩, by simp only; omega, by simp⟩, weak_ren [0, 3] 4 (by kernel_rfl) (blkR_ls (by kernel_rfl) (blk (by kernel_rfl) trivial)) ⟨sLs (by kernel_rfl), (by kernel_rfl), (by kernel_rfl), (by kernel_rfl), sUp h hl, trivial⟩, subUp h⟩
      | cons p qs =>
        set_option smartUnfolding false in conv => whnf
        simp only [List.length_cons] at hl2
        refine ⟨⟨⟨by simp [pvs_len], by simp only [Nat.succ_eq_add_one]; omega⟩, by rw [show ((S.E 0).te 3).bytes = 8 from rfl]; simp only [Nat.succ_eq_add_one]; omega⟩, ?_⟩
        set_option smartUnfolding false in conv => whnf
        exact ⟨(i + 1, ps, (p :: qs) ++ [.int .i64 i]), ⟨h, ⟨hs1, by rw [← hs2]; simp⟩, by simp only; omega, by simp; omega⟩, weak_ren [0, 3] 4 (by kernel_rfl) (blkR_ls (by kernel_rfl) (blkR_snoc (by kernel_rfl) trivial)) ⟨sLs (by kernel_rfl), by simp only [lsV_snoc]; kernel_rfl, (by kernel_rfl), (by kernel_rfl), sUp h hl, trivial⟩, subUp h⟩
    · subst g
      rw [if_pos (by simp), natsP_cons] at hs1
      rw [if_neg (by simp)] at hs2
      refine ⟨Nat.le_refl 1, ?_⟩
      set_option smartUnfolding false in conv => whnf
      cases ps with
      | nil =>
        set_option smartUnfolding false in conv => whnf
        refine ⟨⟨⟨by decide, by decide⟩, by decide⟩, ?_⟩
        set_option smartUnfolding false in conv => whnf
        exact ⟨(i + 1, [] ++ [.int .i64 i], qs), ⟨h, ⟨by rw [← hs1]; simp, hs2⟩, by simp, by simp only; omega⟩, weak_ren [3, 1] 4 (by kernel_rfl) (blk (by kernel_rfl) (blkR_ls (by kernel_rfl) trivial)) ⟨(by kernel_rfl), sLs (by kernel_rfl), (by kernel_rfl), (by kernel_rfl), sUp h hl, trivial⟩, subUp h⟩
      | cons p ps =>
        set_option smartUnfolding false in conv => whnf
        simp only [List.length_cons] at hl1
        refine ⟨⟨⟨by simp [pvs_len], by simp only [Nat.succ_eq_add_one]; omega⟩, by rw [show ((S.E 0).te 3).bytes = 8 from rfl]; simp only [Nat.succ_eq_add_one]; omega⟩, ?_⟩
        set_option smartUnfolding false in conv => whnf
        exact ⟨(i + 1, (p :: ps) ++ [.int .i64 i], qs), ⟨h, ⟨by rw [← hs1]; simp, hs2⟩, by simp; omega, by simp only; omega⟩, weak_ren [3, 1] 4 (by kernel_rfl) (blkR_snoc (by kernel_rfl) (blkR_ls (by kernel_rfl) trivial)) ⟨by simp only [lsV_snoc]; kernel_rfl, sLs (by kernel_rfl), (by kernel_rfl), (by kernel_rfl), sUp h hl, trivial⟩, subUp h⟩
  · replace h : ¬ i < bs.length := by have := dF h; rw [boolsP_len] at this; simpa using this
    rw [List.drop_of_length_le (by omega), pos_nil, natsP_nil, List.append_nil] at hs1 hs2
    subst hs1 hs2
    cases ps with
    | nil =>
      cases qs with
      | nil =>
        set_option smartUnfolding false in conv => whnf
        exact .le (.tuple (.cons (.nils 1) (.cons (.nils 1) (.cons (.refl _) .nil))))
      | cons q qs =>
        set_option smartUnfolding false in conv => whnf
        exact .tup (.cons (.le (.nils 1)) (.cons (rd_lsE (k := 1) rfl rfl trivial rfl) (.cons (.pv _) .nil)))
    | cons p ps =>
      cases qs with
      | nil =>
        set_option smartUnfolding false in conv => whnf
        exact .tup (.cons (rd_lsE (k := 0) rfl rfl trivial rfl) (.cons (.le (.nils 1)) (.cons (.pv _) .nil)))
      | cons q qs =>
        set_option smartUnfolding false in conv => whnf
        exact .tup (.cons (rd_lsE (k := 0) rfl rfl trivial rfl) (.cons (rd_lsE (k := 1) rfl rfl trivial rfl) (.cons (.pv _) .nil)))
end Go.AM

set_option linter.all false
set_option maxRecDepth 20000
set_option maxHeartbeats 4000000
namespace Go.AM
open Go.Proofs

/-! ### The smallest data type -/
def D0 : List Dt := [⟨⟨#[68]⟩, 0, [⟨⟨#[67]⟩, []⟩]⟩]
def leaf0 : V := .mk 5 0 []
theorem upName_one {b : UInt8} (h1 : 65 ≤ b.toNat) (h2 : b.toNat ≤ 90) : upName ⟨#[b]⟩ = true := by
  have e : bt ⟨#[b]⟩ 0 = (b.toNat : Int) := rfl
  have hg : bGr (bt ⟨#[b]⟩ 0) = true := by rw [e]; unfold bGr; rw [decide_eq_true (by omega), decide_eq_true (by omega)]; rfl
  have hu : UpN ⟨#[b]⟩ := by
    refine ⟨by show 1 ≤ 1; omega, by show 1 ≤ 24; omega, hg, fun k hk => ?_⟩
    have hk : k < 1 := hk
    have : k = 0 := by omega
    subst this
    unfold bPt
    rw [hg]; simp
  simp [upName, hu]
theorem D0_ok : DOK D0 ∧ DN D0 := by
  refine ⟨⟨by decide, ?_, ?_, ?_⟩, ⟨?_, ?_⟩⟩
  · intro d hd; simp [D0] at hd; subst hd; decide
  · intro d hd c hc; simp [D0] at hd; subst hd; simp at hc; subst hc; decide
  · intro d hd c hc a ha; simp [D0] at hd; subst hd; simp at hc; subst hc; simp at ha
  · intro d hd; simp [D0] at hd; subst hd; decide
  · intro d hd c hc; simp [D0] at hd; subst hd; simp at hc; subst hc; decide
theorem D0_valid : dvalid D0 = true := by
  unfold dvalid
  have h1 : ndup (namesOf D0) = true := ndup_iff.2 (by simp [namesOf, D0])
  have h2 : ndup (cnamesOf D0) = true := ndup_iff.2 (by simp [cnamesOf, D0])
  rw [h1, h2]
  have h3 : decsR D0 0 D0 = true := by
    unfold D0
    rw [decsR_cons, decsR_nil, consR_cons, consR_nil, argsR_nil]
    simp only
    rw [upName_one (b := 68) (by decide) (by decide), upName_one (b := 67) (by decide) (by decide)]
    rfl
  rw [h3]; rfl
theorem leaf0_cnt : leaf0.cnt = 1 := by unfold leaf0; rw [V.cnt_mk, V.cntL_nil]
theorem leaf0_known : known D0 leaf0 = true := by
  unfold known V.okW
  rw [D0_valid, leaf0_cnt]
  have : V.okT D0 0 leaf0 = true := by
    unfold leaf0
    rw [V.okT_mk]
    have : V.shape D0 0 5 0 = some (true, 0, 0) := by unfold V.shape; rw [if_neg (by omega), if_neg (by omega), if_pos rfl]; rfl
    rw [this]
    simp [V.okTL_nil]
  rw [this]; rfl
theorem D0_pv : Dt.pvL D0 = [.agg [.str ⟨#[68]⟩, .int .i64 0, .lst 2 [.agg [.str ⟨#[67]⟩, .lst 3 []]]]] := by
  unfold D0 Dt.pvL
  simp only [List.map_cons, List.map_nil]
  unfold Dt.pv
  simp only [Dt.ag]
  unfold Cn.pvL
  simp only [List.map_cons, List.map_nil]
  unfold Cn.pv
  simp only [Cn.ag, V.pvL_nil]
theorem leaf0_pv : leaf0.pv = .agg [.int .i64 5, .int .i64 0, .lst 3 []] := by unfold leaf0; rw [V.pv_mk]; simp only [V.ag, V.pvL_nil]

end Go.AM

set_option linter.all false
set_option maxRecDepth 20000
set_option maxHeartbeats 4000000
namespace Go.AM
open Go.Proofs

theorem natsP_get {l : List Nat} {i : Nat} (h : i < l.length) : ∃ k, k ∈ l ∧ (natsP l)[i]? = some (.int .i64 (k : Nat)) ∧ l.drop i = k :: l.drop (i + 1) :=
  ⟨l[i], by simp, by unfold natsP; simp [h], List.drop_eq_getElem_cons h⟩
theorem natsP_len' (l : List Nat) : (natsP l).length = l.length := by unfold natsP; simp
theorem payTypes_det {D : List Dt} (hD : DOK D) (tn : Int) (ts : List V) (ht : (V.mk 5 tn ts).cnt ≤ 1000) (c : Int) : Det Tryz.prog 74 [.lst 3 (Dt.pvL D), (V.mk 5 tn ts).pv, .int .i64 c] (optP [] (payS D (.mk 5 tn ts) c)) := by
  have hF := rfields_det hD (.mk 5 tn ts) ht c
  have hP := fun fs hf => payload_r hD tn ts ht c (fs := fs) hf
  rw [V.pv_mk] at hF hP
  rw [V.pv_mk]
  refine det_of_vc' (E := S.E 0) rfl fol Tryz.func74 rfl rfl (slots := [6, 7]) rfl rfl fun hw => ?_
  set_option smartUnfolding false in conv => whnf
  cases hf : fieldsS D (.mk 5 tn ts) c with
  | none =>
    rw [hf, optP_none] at hF
    rw [payS_none hf, optP_none]
    refine acall_det (ps := [.lst 3 (Dt.pvL D), V.ag 5 tn ts, .int .i64 c]) hF ?_
    set_option smartUnfolding false in conv => whnf
    exact rd_no
  | some fs =>
    obtain ⟨x, cn, hx, hcn, hfl, hrl⟩ := rec_len hf
    have hal := hD.args x hx cn hcn
    have hP := hP fs hf
    rw [hf, optP_some, List.nil_append] at hF
    have hR : PV.tuple [.lst 3 (V.pvL (payF D tn ts c fs)), .bool true] = optP [] (payS D (.mk 5 tn ts) c) := by rw [payS_some hf, optP_some, List.nil_append]; rfl
    rw [← hR]
    unfold payF
    have hpk := picks_pos fs (recS D tn c) fs 0 (fun j => by rw [Nat.zero_add]) (by omega)
    have hlt := fun k hk => (pos_lt false (recS D tn c) 0 k hk).2
    have hnl := pos_len false (recS D tn c) 0
    rw [← hpk]
    generalize pos false (recS D tn c) 0 = ns at hP hlt hnl
    generalize hT : V.pvL (ns.filterMap fun k => fs[k]?) = T
    refine acall_det (ps := [.lst 3 (Dt.pvL D), V.ag 5 tn ts, .int .i64 c]) hF ?_
    set_option smartUnfolding false in conv => whnf
    refine acall_det (ps := [.lst 3 (Dt.pvL D), V.ag 5 tn ts, .int .i64 c]) hP ?_
    set_option smartUnfolding false in conv => whnf
    have hl : ns.length ≤ 9223372036854775807 := by omega
    refine vloop_intro (σ := Nat × List PV) (fun x => x.1 ≤ ns.length ∧ x.2 ++ V.pvL ((ns.drop x.1).filterMap fun k => fs[k]?) = T ∧ x.2.length ≤ x.1) (fun x => [(8, .pv (.lst 3 (V.pvL fs))), (13, lsV 0 x.2), (33, .pv (.lst 1 (natsP ns))), (34, .pv (.int .i64 (natsP ns).length)), (35, .pv (.int .i64 x.1))])
      (fun x => [lsB 25 3 x.2]) (fun x => ns.length - x.1) (0, []) ⟨by simp, by simpa using hT, Nat.le_refl _⟩ (weak_ren [1] 2 (by kernel_rfl) (blkD trivial) ⟨(by kernel_rfl), (by kernel_rfl), (by kernel_rfl), (by kernel_rfl), (by kernel_rfl), trivial⟩) ?_
    rintro ⟨i, ps⟩ ⟨hi, hs, hpl⟩
    simp only at hi hs hpl
    set_option smartUnfolding false in conv => whnf
    refine br_intro (fun h => ?_) (fun h => ?_) <;> set_option smartUnfolding false in conv => whnf
    · replace h : i < ns.length := by have := dT h; rw [natsP_len'] at this; simpa using this
      obtain ⟨m, hm, hm1, hm2⟩ := natsP_get h
      have hmf : m < fs.length := by have := hlt m hm; omega
      refine V.get_elim hmf fun k1 n1 ks1 hv hg hg0 hd => ?_
      rw [hm2, List.filterMap_cons, hg0] at hs
      simp only at hs
      rw [V.pvL_cons, V.pv_mk] at hs
      refine ⟨.int .i64 m, ⟨by simp, by simpa using hm1⟩, ?_⟩
      set_option smartUnfolding false in conv => whnf
      refine ⟨V.ag k1 n1 ks1, ⟨by simp, by simpa using hg⟩, ?_⟩
      set_option smartUnfolding false in conv => whnf
      refine ⟨Nat.le_refl 1, ?_⟩
      set_option smartUnfolding false in conv => whnf
      cases ps with
      | nil =>
        set_option smartUnfolding false in conv => whnf
        refine ⟨⟨⟨by decide, by decide⟩, by decide⟩, ?_⟩
        set_option smartUnfolding false in conv => whnf
        exact ⟨(i + 1, [] ++ [V.ag k1 n1 ks1]), ⟨h, by rw [← hs]; simp, by simp⟩, weak_ren [2] 3 (by kernel_rfl) (blk (by kernel_rfl) trivial) ⟨(by kernel_rfl), (by kernel_rfl), (by kernel_rfl), (by kernel_rfl), sUp h hl, trivial⟩, subUp h⟩
      | cons p ps =>
        set_option smartUnfolding false in conv => whnf
        simp only [List.length_cons] at hpl
        refine ⟨⟨⟨by simp [pvs_len], by simp only [Nat.succ_eq_add_one]; omega⟩, by rw [show ((S.E 0).te 25).bytes = 40 from rfl]; simp only [Nat.succ_eq_add_one]; omega⟩, ?_⟩
        set_option smartUnfolding false in conv => whnf
        exact ⟨(i + 1, (p :: ps) ++ [V.ag k1 n1 ks1]), ⟨h, by rw [← hs]; simp, by simp; omega⟩, weak_ren [2] 3 (by kernel_rfl) (blkR_snoc (by kernel_rfl) trivial) ⟨(by kernel_rfl), by simp only [lsV_snoc]; kernel_rfl, (by kernel_rfl), (by kernel_rfl), sUp h hl, trivial⟩, subUp h⟩
    · replace h : ¬ i < ns.length := by have := dF h; rw [natsP_len'] at this; simpa using this
      rw [List.drop_of_length_le (by omega), List.filterMap_nil, V.pvL_nil, List.append_nil] at hs
      subst hs
      cases ps with
      | nil =>
        set_option smartUnfolding false in conv => whnf
        exact .le (.tuple (.cons (.nils 3) (.cons (.refl _) .nil)))
      | cons p ps =>
        set_option smartUnfolding false in conv => whnf
        exact .tup (.cons (rd_lsE (k := 0) rfl rfl trivial rfl) (.cons (.pv _) .nil))

/-! ### The sum of the degrees -/
def totP (o : Option Int) : PV := .tuple [.int .i64 (o.getD 0), .bool o.isSome]
theorem totP_none : totP Option.none = .tuple [.int .i64 0, .bool false] := rfl
theorem totP_some (d : Int) : totP (some d) = .tuple [.int .i64 d, .bool true] := rfl
def Ix.fst (D : List Dt) : Ix → V → Int
  | .mk n ks, .mk tk tn ts => if tk = 6 then (Ix.degL D 0 ks ts).getD 0 else if tk = 7 then n else if tk = 5 then (Ix.deg D (.mk n ks) (.mk tk tn ts)).getD 0 else 0
theorem Ix.fst_mk (D : List Dt) (n : Int) (ks : List Ix) (tk tn : Int) (ts : List V) : Ix.fst D (.mk n ks) (.mk tk tn ts) = if tk = 6 then (Ix.degL D 0 ks ts).getD 0 else if tk = 7 then n else if tk = 5 then (Ix.deg D (.mk n ks) (.mk tk tn ts)).getD 0 else 0 := rfl
theorem Ix.fst_some {D : List Dt} {i : Ix} {t : V} {d : Int} (h : Ix.deg D i t = some d) : Ix.fst D i t = d := by
  obtain ⟨n, ks⟩ := i
  obtain ⟨tk, tn, ts⟩ := t
  rw [Ix.fst_mk]
  have h' := h
  rw [Ix.deg_mk] at h
  split at h
  · rename_i h1
    rw [if_pos h1]
    split at h
    · rw [h]; rfl
    · cases h
  · rename_i h1
    rw [if_neg h1]
    split at h
    · rename_i h2
      rw [if_pos h2]
      split at h
      · cases h; rfl
      · cases h
    · rename_i h2
      rw [if_neg h2]
      split at h
      · rename_i h3
        rw [if_pos h3, h']; rfl
      · rename_i h3
        rw [if_neg h3]
        split at h
        · cases h; rfl
        · cases h
def degP (D : List Dt) (i : Ix) (t : V) : PV := .tuple [.int .i64 (Ix.fst D i t), .bool (Ix.deg D i t).isSome]
theorem degP_none {D : List Dt} {i : Ix} {t : V} (h : Ix.deg D i t = Option.none) : degP D i t = .tuple [.int .i64 (Ix.fst D i t), .bool false] := by unfold degP; rw [h]; rfl
theorem degP_some {D : List Dt} {i : Ix} {t : V} {d : Int} (h : Ix.deg D i t = some d) : degP D i t = .tuple [.int .i64 d, .bool true] := by unfold degP; rw [h, Ix.fst_some h]; rfl
attribute [irreducible] Ix.fst degP
theorem total_of (D : List Dt) (l : List Ix) (us : List V) (hq : ∀ (i : Nat) e u, l[i]? = some e → us[i]? = some u → Det Tryz.prog 58 [.lst 3 (Dt.pvL D), u.pv, e.pv] (degP D e u)) :
    Det Tryz.prog 86 [.lst 3 (Dt.pvL D), .lst 3 (V.pvL us), .lst 2 (Ix.pvL l)] (totP (Ix.degL D 0 l us)) := by
  generalize hR : Ix.degL D 0 l us = o
  refine det_of_vc' (E := S.E 0) rfl fol Tryz.func86 rfl rfl (slots := [6, 7]) rfl rfl fun hw => ?_
  have hl : l.length ≤ 9223372036854775807 := by
    have := hw.2.2.1
    have := this.1
    rwa [Ix.pvL_len] at this
  set_option smartUnfolding false in conv => whnf
  refine br_intro (fun h0 => ?_) (fun h0 => ?_) <;> set_option smartUnfolding false in conv => whnf
  · have h0 : ¬ (us.length : Int) = l.length := by rw [V.pvL_len, Ix.pvL_len] at h0; simpa using h0
    cases o with
    | none => rw [totP_none]; exact rdP (.refl _)
    | some d => have := Ix.degL_len hR; omega
  have h0 : (us.length : Int) = l.length := by rw [V.pvL_len, Ix.pvL_len] at h0; simpa using h0
  refine vloop_intro (σ := Nat × Int) (fun x => x.1 ≤ l.length ∧ Ix.degL D x.2 (l.drop x.1) (us.drop x.1) = o ∧ 0 ≤ x.2 ∧ x.2 ≤ 6) (fun x => [(0, .pv (.lst 3 (Dt.pvL D))), (1, .pv (.lst 3 (V.pvL us))), (8, .pv (.int .i64 x.2)), (18, .pv (.lst 2 (Ix.pvL l))), (19, .pv (.int .i64 (Ix.pvL l).length)), (20, .pv (.int .i64 x.1))])
    (fun _ => []) (fun x => l.length - x.1) (0, 0) ⟨by simp, by simpa using hR, by simp, by simp⟩ (weak_bare rfl ⟨(by kernel_rfl), (by kernel_rfl), (by kernel_rfl), (by kernel_rfl), (by kernel_rfl), (by kernel_rfl), trivial⟩) ?_
  rintro ⟨i, a⟩ ⟨hi, hs, ha1, ha2⟩
  simp only at hi hs ha1 ha2
  set_option smartUnfolding false in conv => whnf
  refine br_intro (fun h => ?_) (fun h => ?_) <;> set_option smartUnfolding false in conv => whnf
  · replace h : i < l.length := by have := dT h; rw [Ix.pvL_len] at this; simpa using this
    refine Ix.get_elim h fun n1 es1 hv hg hg0 hd => ?_
    refine V.get_elim (l := us) (i := i) (by omega) fun k2 n2 ks2 hv2 hg2 hg02 hd2 => ?_
    have hdet := hq i _ _ hg0 hg02
    rw [Ix.pv_mk, V.pv_mk] at hdet
    rw [hd, hd2, Ix.degL_cons] at hs
    refine ⟨Ix.ag n1 es1, ⟨by simp, by simpa using hg⟩, ?_⟩
    set_option smartUnfolding false in conv => whnf
    refine ⟨V.ag k2 n2 ks2, ⟨by simp, by simpa using hg2⟩, ?_⟩
    set_option smartUnfolding false in conv => whnf
    cases hdg : Ix.deg D (.mk n1 es1) (.mk k2 n2 ks2) with
    | none =>
      rw [hdg] at hs
      simp only at hs
      subst hs
      rw [degP_none hdg] at hdet
      refine acall_det (ps := [.lst 3 (Dt.pvL D), V.ag k2 n2 ks2, Ix.ag n1 es1]) hdet ?_
      set_option smartUnfolding false in conv => whnf
      rw [totP_none]
      exact rdP (.refl _)
    | some d =>
      have hr := Ix.deg_rng D _ _ d hdg
      rw [hdg] at hs
      simp only at hs
      rw [degP_some hdg] at hdet
      refine acall_det (ps := [.lst 3 (Dt.pvL D), V.ag k2 n2 ks2, Ix.ag n1 es1]) hdet ?_
      set_option smartUnfolding false in conv => whnf
      have ew : IntKind.wrap .i64 (a + d) = a + d := wrapI (by omega) (by omega)
      refine br_intro (fun g => ?_) (fun g => ?_) <;> set_option smartUnfolding false in conv => whnf
      · have g := dT g
        rw [ew] at g
        rw [if_pos g] at hs
        subst hs
        rw [totP_none]
        exact rdP (.refl _)
      · have g := dF g
        rw [ew] at g
        rw [if_neg g] at hs
        exact ⟨(i + 1, a + d), ⟨h, hs, by simp only; omega, by simp only; omega⟩, weak_bare rfl ⟨(by kernel_rfl), (by kernel_rfl), sI ew, (by kernel_rfl), (by kernel_rfl), sUp h hl, trivial⟩, subUp h⟩
  · replace h : ¬ i < l.length := by have := dF h; rw [Ix.pvL_len] at this; simpa using this
    rw [List.drop_of_length_le (by omega), List.drop_of_length_le (by omega), Ix.degL_nil] at hs
    subst hs
    rw [totP_some]
    exact rdP (.refl _)
end Go.AM

set_option linter.all false
set_option maxRecDepth 20000
set_option maxHeartbeats 8000000
namespace Go.AM
open Go.Proofs

theorem rdIB {S : Nat → Prop} {H : Heap} {n : Int} {a b : Bool} (h : a = b) : Rd S H (.pv (.tuple [.int .i64 n, .bool a])) (.tuple [.int .i64 n, .bool b]) := h ▸ Rd.pv _
theorem degree_det {D : List Dt} (hD : DOK D) (hv : dvalid D = true) (i : Ix) : ∀ t, Good D t → Det Tryz.prog 58 [.lst 3 (Dt.pvL D), t.pv, i.pv] (degP D i t) := by
  refine Ix.rec2 (p := fun i => ∀ t, Good D t → Det Tryz.prog 58 [.lst 3 (Dt.pvL D), t.pv, i.pv] (degP D i t)) (fun n ks ih ih2 t hg => ?_) i
  obtain ⟨tk, tn, ts⟩ := t
  have hT : ∀ us : List V, (∀ u ∈ us, Good D u) → Det Tryz.prog 86 [.lst 3 (Dt.pvL D), .lst 3 (V.pvL us), .lst 2 (Ix.pvL ks)] (totP (Ix.degL D 0 ks us)) := fun us hus => total_of D ks us fun i e u h1 h2 => ih e (List.mem_of_getElem? h1) u (hus u (List.mem_of_getElem? h2))
  have hT2 : ∀ c es, Ix.mk c es ∈ ks → ∀ us : List V, (∀ u ∈ us, Good D u) → Det Tryz.prog 86 [.lst 3 (Dt.pvL D), .lst 3 (V.pvL us), .lst 2 (Ix.pvL es)] (totP (Ix.degL D 0 es us)) := fun c es he us hus => total_of D es us fun i e u h1 h2 => ih2 c es he e (List.mem_of_getElem? h1) u (hus u (List.mem_of_getElem? h2))
  clear ih ih2
  generalize hR : Ix.deg D (.mk n ks) (.mk tk tn ts) = o
  rw [Ix.deg_mk] at hR
  rw [V.pv_mk, Ix.pv_mk]
  refine det_of_vc' (E := S.E 0) rfl fol Tryz.func58 rfl rfl (slots := [6, 7]) rfl rfl fun hw => ?_
  have hl : ks.length ≤ 9223372036854775807 := by
    have := hw.2.2.1
    exact Ix.lenle this
  set_option smartUnfolding false in conv => whnf
  refine br_intro (fun h1 => ?_) (fun h1 => ?_) <;> set_option smartUnfolding false in conv => whnf
  · have h1 : tk = 6 := by simpa using h1
    rw [if_pos h1] at hR
    have hdet := hT ts fun u hu => hg.kid hu
    have hf : Ix.fst D (.mk n ks) (.mk tk tn ts) = (Ix.degL D 0 ks ts).getD 0 := by rw [Ix.fst_mk, if_pos h1]
    have ho : degP D (.mk n ks) (.mk tk tn ts) = .tuple [.int .i64 ((Ix.degL D 0 ks ts).getD 0), .bool o.isSome] := by unfold degP; rw [hf, Ix.deg_mk, if_pos h1, hR]
    rw [ho]
    cases hL : Ix.degL D 0 ks ts with
    | none =>
      rw [hL, totP_none] at hdet
      have : o = Option.none := by rw [← hR, hL]; split <;> rfl
      subst this
      refine acall_det (ps := [.lst 3 (Dt.pvL D), .lst 3 (V.pvL ts), .lst 2 (Ix.pvL ks)]) hdet ?_
      set_option smartUnfolding false in conv => whnf
      exact rdP (.refl _)
    | some d =>
      rw [hL, totP_some] at hdet
      have e : o.isSome = decide (n = 0) := by
        rw [← hR, hL]
        by_cases hn : n = 0
        · rw [if_pos hn, decide_eq_true hn]; rfl
        · rw [if_neg hn, decide_eq_false hn]; rfl
      rw [e]
      refine acall_det (ps := [.lst 3 (Dt.pvL D), .lst 3 (V.pvL ts), .lst 2 (Ix.pvL ks)]) hdet ?_
      set_option smartUnfolding false in conv => whnf
      exact rdP (.refl _)
  have h1 : ¬ tk = 6 := by simpa using h1
  rw [if_neg h1] at hR
  refine br_intro (fun h2 => ?_) (fun h2 => ?_) <;> set_option smartUnfolding false in conv => whnf
  · have h2 : tk = 7 := by simpa using h2
    rw [if_pos h2] at hR
    have hf : Ix.fst D (.mk n ks) (.mk tk tn ts) = n := by rw [Ix.fst_mk, if_neg h1, if_pos h2]
    have ho : degP D (.mk n ks) (.mk tk tn ts) = .tuple [.int .i64 n, .bool o.isSome] := by unfold degP; rw [hf, Ix.deg_mk, if_neg h1, if_pos h2, hR]
    rw [ho]
    refine br_intro (fun g1 => ?_) (fun g1 => ?_) <;> set_option smartUnfolding false in conv => whnf
    · have g1 := dT g1
      refine br_intro (fun g2 => ?_) (fun g2 => ?_) <;> set_option smartUnfolding false in conv => whnf
      · have g2 := dT g2
        refine rdIB ?_
        rw [Ix.pvL_len, ← hR]
        by_cases g3 : ks.length = 0
        · rw [if_pos ⟨g1, g2, g3⟩, decide_eq_true (by omega)]; rfl
        · rw [if_neg (fun h => g3 h.2.2), decide_eq_false (by omega)]; rfl
      · have g2 := dF g2
        rw [if_neg (fun h => g2 h.2.1)] at hR
        exact rdIB (by rw [← hR]; rfl)
    · have g1 := dF g1
      rw [if_neg (fun h => g1 h.1)] at hR
      exact rdIB (by rw [← hR]; rfl)
  have h2 : ¬ tk = 7 := by simpa using h2
  rw [if_neg h2] at hR
  refine br_intro (fun h3 => ?_) (fun h3 => ?_) <;> set_option smartUnfolding false in conv => whnf
  · have h3 : tk = 5 := by simpa using h3
    subst h3
    rw [if_pos rfl] at hR
    have ho : degP D (.mk n ks) (.mk 5 tn ts) = totP o := by
      have : Ix.deg D (.mk n ks) (.mk 5 tn ts) = o := by rw [Ix.deg_mk, if_neg h1, if_neg h2, if_pos rfl, hR]
      unfold degP
      rw [Ix.fst_mk, if_neg h1, if_neg h2, if_pos rfl, this]; rfl
    rw [ho]
    refine br_intro (fun g1 => ?_) (fun g1 => ?_) <;> set_option smartUnfolding false in conv => whnf
    · have g1 : ¬ n = 0 := by simpa using g1
      rw [if_neg (fun h => g1 h.1)] at hR
      subst hR
      rw [totP_none]
      exact rdP (.refl _)
    have g1 : n = 0 := by simpa using g1
    refine br_intro (fun g2 => ?_) (fun g2 => ?_) <;> set_option smartUnfolding false in conv => whnf
    · have g2 := dT g2
      rw [Ix.pvL_len] at g2
      rw [if_neg (fun h => by have := h.2; omega)] at hR
      subst hR
      rw [totP_none]
      exact rdP (.refl _)
    have g2 := dF g2
    rw [Ix.pvL_len] at g2
    rw [if_pos ⟨g1, by omega⟩] at hR
    refine vloop_intro (σ := Nat × Int) (fun x => x.1 ≤ ks.length ∧ Ix.degE D (.mk 5 tn ts) x.2 (ks.drop x.1) = o ∧ 0 ≤ x.2 ∧ x.2 ≤ 6) (fun x => [(0, .pv (.lst 3 (Dt.pvL D))), (4, .bp 0 0), (5, .bp 1 0), (10, .pv (.int .i64 x.2)), (66, .pv (.lst 2 (Ix.pvL ks))), (67, .pv (.int .i64 (Ix.pvL ks).length)), (68, .pv (.int .i64 x.1))])
      (fun _ => [.box 25 [.pv (.int .i64 5), .pv (.int .i64 tn), .pv (.lst 3 (V.pvL ts))], .box 28 [.pv (.int .i64 n), .pv (.lst 2 (Ix.pvL ks))]]) (fun x => ks.length - x.1) (0, 0) ⟨by simp, by simpa using hR, by simp, by simp⟩ (weak_sub ⟨(by kernel_rfl), (by kernel_rfl), (by kernel_rfl), (by kernel_rfl), (by kernel_rfl), (by kernel_rfl), (by kernel_rfl), trivial⟩) ?_
    rintro ⟨i, a⟩ ⟨hi, hs, ha1, ha2⟩
    simp only at hi hs ha1 ha2
    set_option smartUnfolding false in conv => whnf
    refine br_intro (fun h => ?_) (fun h => ?_) <;> set_option smartUnfolding false in conv => whnf
    · replace h : i < ks.length := by have := dT h; rw [Ix.pvL_len] at this; simpa using this
      refine Ix.get_elim h fun c1 es1 hv1 hg1 hg0 hd => ?_
      have hpay := payloads_t hD tn ts hg c1
      rw [V.pv_mk] at hpay
      rw [hd, Ix.degE_cons, Ix.degK_mk] at hs
      refine ⟨Ix.ag c1 es1, ⟨by simp, by simpa using hg1⟩, ?_⟩
      set_option smartUnfolding false in conv => whnf
      cases hp : payS D (.mk 5 tn ts) c1 with
      | none =>
        rw [hp, optP_none] at hpay
        rw [hp] at hs
        simp only at hs
        subst hs
        refine acall_det (ps := [.lst 3 (Dt.pvL D), V.ag 5 tn ts, .int .i64 c1]) hpay ?_
        set_option smartUnfolding false in conv => whnf
        rw [totP_none]
        exact rdP (.refl _)
      | some us =>
        rw [hp, optP_some, List.nil_append] at hpay
        rw [hp] at hs
        simp only at hs
        have htot := hT2 c1 es1 hv1 us (payS_good hv hg hp)
        refine acall_det (ps := [.lst 3 (Dt.pvL D), V.ag 5 tn ts, .int .i64 c1]) hpay ?_
        set_option smartUnfolding false in conv => whnf
        cases hL : Ix.degL D 0 es1 us with
        | none =>
          rw [hL, totP_none] at htot
          rw [hL] at hs
          simp only at hs
          subst hs
          refine acall_det (ps := [.lst 3 (Dt.pvL D), .lst 3 (V.pvL us), .lst 2 (Ix.pvL es1)]) htot ?_
          set_option smartUnfolding false in conv => whnf
          rw [totP_none]
          exact rdP (.refl _)
        | some d =>
          have hr := Ix.degL_rng D es1 us 0 d hL (by omega) (by omega)
          rw [hL, totP_some] at htot
          rw [hL] at hs
          simp only at hs
          refine acall_det (ps := [.lst 3 (Dt.pvL D), .lst 3 (V.pvL us), .lst 2 (Ix.pvL es1)]) htot ?_
          set_option smartUnfolding false in conv => whnf
          have ew1 : IntKind.wrap .i64 (1 + d) = 1 + d := wrapI (by omega) (by omega)
          have ew : IntKind.wrap .i64 (a + IntKind.wrap .i64 (1 + d)) = a + (1 + d) := by rw [ew1]; exact wrapI (by omega) (by omega)
          refine br_intro (fun g => ?_) (fun g => ?_) <;> set_option smartUnfolding false in conv => whnf
          · have g := dT g
            rw [ew] at g
            rw [if_pos g] at hs
            subst hs
            rw [totP_none]
            exact rdP (.refl _)
          · have g := dF g
            rw [ew] at g
            rw [if_neg g] at hs
            exact ⟨(i + 1, a + (1 + d)), ⟨h, hs, by simp only; omega, by simp only; omega⟩, weak_ren [0, 1] 3 (by kernel_rfl) (blk (by kernel_rfl) (blk (by kernel_rfl) trivial)) ⟨(by kernel_rfl), (by kernel_rfl), (by kernel_rfl), sI ew, (by kernel_rfl), (by kernel_rfl), sUp h hl, trivial⟩, subUp h⟩
    · replace h : ¬ i < ks.length := by have := dF h; rw [Ix.pvL_len] at this; simpa using this
      rw [List.drop_of_length_le (by omega), Ix.degE_nil] at hs
      subst hs
      rw [totP_some]
      exact rdP (.refl _)
  have h3 : ¬ tk = 5 := by simpa using h3
  rw [if_neg h3] at hR
  have ho : degP D (.mk n ks) (.mk tk tn ts) = .tuple [.int .i64 0, .bool o.isSome] := by unfold degP; rw [Ix.fst_mk, if_neg h1, if_neg h2, if_neg h3, Ix.deg_mk, if_neg h1, if_neg h2, if_neg h3, hR]
  rw [ho]
  refine br_intro (fun g1 => ?_) (fun g1 => ?_) <;> set_option smartUnfolding false in conv => whnf
  · have g1 : n = 0 := by simpa using g1
    refine rdIB ?_
    rw [Ix.pvL_len, ← hR]
    by_cases g3 : ks.length = 0
    · rw [if_pos ⟨g1, g3⟩, decide_eq_true (by omega)]; rfl
    · rw [if_neg (fun h => g3 h.2), decide_eq_false (by omega)]; rfl
  · have g1 : ¬ n = 0 := by simpa using g1
    rw [if_neg (fun h => g1 h.1)] at hR
    exact rdIB (by rw [← hR]; rfl)
end Go.AM

set_option linter.all false
set_option maxRecDepth 20000
set_option maxHeartbeats 8000000
namespace Go.AM
open Go.Proofs

/-! ### The reference's degrees -/
theorem degrees_of (D : List Dt) (l : List Ix) (us : List V) (hq : ∀ (i : Nat) e u, l[i]? = some e → us[i]? = some u → Det Tryz.prog 47 [.lst 3 (Dt.pvL D), u.pv, e.pv] (.int .i64 ((Ix.deg D e u).getD (-1)))) :
    Det Tryz.prog 73 [.lst 3 (Dt.pvL D), .lst 3 (V.pvL us), .lst 2 (Ix.pvL l)] (.int .i64 ((Ix.degL D 0 l us).getD (-1))) := by
  generalize hR : Ix.degL D 0 l us = o
  refine det_of_vc' (E := S.E 0) rfl fol Tryz.func73 rfl rfl (slots := [6]) rfl rfl fun hw => ?_
  have hl : l.length ≤ 9223372036854775807 := by
    have := hw.2.2.1
    have := this.1
    rwa [Ix.pvL_len] at this
  set_option smartUnfolding false in conv => whnf
  refine br_intro (fun h0 => ?_) (fun h0 => ?_) <;> set_option smartUnfolding false in conv => whnf
  · have h0 : ¬ (us.length : Int) = l.length := by rw [V.pvL_len, Ix.pvL_len] at h0; simpa using h0
    cases o with
    | none => exact rdP (.refl _)
    | some d => have := Ix.degL_len hR; omega
  have h0 : (us.length : Int) = l.length := by rw [V.pvL_len, Ix.pvL_len] at h0; simpa using h0
  refine vloop_intro (σ := Nat × Int) (fun x => x.1 ≤ l.length ∧ Ix.degL D x.2 (l.drop x.1) (us.drop x.1) = o ∧ 0 ≤ x.2 ∧ x.2 ≤ 6) (fun x => [(0, .pv (.lst 3 (Dt.pvL D))), (1, .pv (.lst 3 (V.pvL us))), (2, .pv (.lst 2 (Ix.pvL l))), (7, .pv (.int .i64 x.2)), (15, .pv (.lst 3 (V.pvL us))), (16, .pv (.int .i64 (V.pvL us).length)), (17, .pv (.int .i64 x.1))])
    (fun _ => []) (fun x => l.length - x.1) (0, 0) ⟨by simp, by simpa using hR, by simp, by simp⟩ (weak_bare rfl ⟨(by kernel_rfl), (by kernel_rfl), (by kernel_rfl), (by kernel_rfl), (by kernel_rfl), (by kernel_rfl), (by kernel_rfl), trivial⟩) ?_
  rintro ⟨i, a⟩ ⟨hi, hs, ha1, ha2⟩
  simp only at hi hs ha1 ha2
  set_option smartUnfolding false in conv => whnf
  refine br_intro (fun h => ?_) (fun h => ?_) <;> set_option smartUnfolding false in conv => whnf
  · replace h : i < l.length := by have := dT h; rw [V.pvL_len] at this; simp only at this; omega
    refine Ix.get_elim h fun n1 es1 hv hg hg0 hd => ?_
    refine V.get_elim (l := us) (i := i) (by omega) fun k2 n2 ks2 hv2 hg2 hg02 hd2 => ?_
    have hdet := hq i _ _ hg0 hg02
    rw [Ix.pv_mk, V.pv_mk] at hdet
    rw [hd, hd2, Ix.degL_cons] at hs
    refine ⟨V.ag k2 n2 ks2, ⟨by simp, by simpa using hg2⟩, ?_⟩
    set_option smartUnfolding false in conv => whnf
    refine ⟨Ix.ag n1 es1, ⟨by simp, by simpa using hg⟩, ?_⟩
    set_option smartUnfolding false in conv => whnf
    cases hdg : Ix.deg D (.mk n1 es1) (.mk k2 n2 ks2) with
    | none =>
      rw [hdg] at hs hdet
      simp only at hs
      subst hs
      refine acall_det (ps := [.lst 3 (Dt.pvL D), V.ag k2 n2 ks2, Ix.ag n1 es1]) hdet ?_
      set_option smartUnfolding false in conv => whnf
      exact rdP (.refl _)
    | some d =>
      have hr := Ix.deg_rng D _ _ d hdg
      rw [hdg] at hs hdet
      simp only at hs
      replace hdet : Det Tryz.prog 47 [.lst 3 (Dt.pvL D), V.ag k2 n2 ks2, Ix.ag n1 es1] (.int .i64 d) := hdet
      refine acall_det (ps := [.lst 3 (Dt.pvL D), V.ag k2 n2 ks2, Ix.ag n1 es1]) hdet ?_
      set_option smartUnfolding false in conv => whnf
      have ew : IntKind.wrap .i64 (a + d) = a + d := wrapI (by omega) (by omega)
      refine br_intro (fun g => ?_) (fun g => ?_) <;> set_option smartUnfolding false in conv => whnf
      · have g := dT g; omega
      refine br_intro (fun g => ?_) (fun g => ?_) <;> set_option smartUnfolding false in conv => whnf
      · have g := dT g
        rw [ew] at g
        rw [if_pos g] at hs
        subst hs
        exact rdP (.refl _)
      · have g := dF g
        rw [ew] at g
        rw [if_neg g] at hs
        exact ⟨(i + 1, a + d), ⟨h, hs, by simp only; omega, by simp only; omega⟩, weak_bare rfl ⟨(by kernel_rfl), (by kernel_rfl), (by kernel_rfl), sI ew, (by kernel_rfl), (by kernel_rfl), sUp h hl, trivial⟩, subUp h⟩
  · replace h : ¬ i < l.length := by have := dF h; rw [V.pvL_len] at this; simp only at this; omega
    rw [List.drop_of_length_le (by omega), List.drop_of_length_le (by omega), Ix.degL_nil] at hs
    subst hs
    exact rdP (.refl _)
theorem rdegree_det {D : List Dt} (hD : DOK D) (hv : dvalid D = true) (i : Ix) : ∀ t, Good D t → Det Tryz.prog 47 [.lst 3 (Dt.pvL D), t.pv, i.pv] (.int .i64 ((Ix.deg D i t).getD (-1))) := by
  refine Ix.rec2 (p := fun i => ∀ t, Good D t → Det Tryz.prog 47 [.lst 3 (Dt.pvL D), t.pv, i.pv] (.int .i64 ((Ix.deg D i t).getD (-1)))) (fun n ks ih ih2 t hg => ?_) i
  obtain ⟨tk, tn, ts⟩ := t
  have hT : ∀ us : List V, (∀ u ∈ us, Good D u) → Det Tryz.prog 73 [.lst 3 (Dt.pvL D), .lst 3 (V.pvL us), .lst 2 (Ix.pvL ks)] (.int .i64 ((Ix.degL D 0 ks us).getD (-1))) := fun us hus => degrees_of D ks us fun i e u h1 h2 => ih e (List.mem_of_getElem? h1) u (hus u (List.mem_of_getElem? h2))
  have hT2 : ∀ c es, Ix.mk c es ∈ ks → ∀ us : List V, (∀ u ∈ us, Good D u) → Det Tryz.prog 73 [.lst 3 (Dt.pvL D), .lst 3 (V.pvL us), .lst 2 (Ix.pvL es)] (.int .i64 ((Ix.degL D 0 es us).getD (-1))) := fun c es he us hus => degrees_of D es us fun i e u h1 h2 => ih2 c es he e (List.mem_of_getElem? h1) u (hus u (List.mem_of_getElem? h2))
  clear ih ih2
  have hgc := hg.cnt
  generalize hR : Ix.deg D (.mk n ks) (.mk tk tn ts) = o
  rw [Ix.deg_mk] at hR
  rw [V.pv_mk, Ix.pv_mk]
  refine det_of_vc' (E := S.E 0) rfl fol Tryz.func47 rfl rfl (slots := [6]) rfl rfl fun hw => ?_
  have hl : ks.length ≤ 9223372036854775807 := by
    have := hw.2.2.1
    exact Ix.lenle this
  set_option smartUnfolding false in conv => whnf
  refine br_intro (fun h1 => ?_) (fun h1 => ?_) <;> set_option smartUnfolding false in conv => whnf
  · have h1 : tk = 6 := by simpa using h1
    rw [if_pos h1] at hR
    refine br_intro (fun g1 => ?_) (fun g1 => ?_) <;> set_option smartUnfolding false in conv => whnf
    · have g1 : ¬ n = 0 := by simpa using g1
      rw [if_neg g1] at hR
      exact rdI (by rw [← hR]; rfl)
    have g1 : n = 0 := by simpa using g1
    rw [if_pos g1] at hR
    refine acall_det (ps := [.lst 3 (Dt.pvL D), .lst 3 (V.pvL ts), .lst 2 (Ix.pvL ks)]) (hT ts fun u hu => hg.kid hu) ?_
    set_option smartUnfolding false in conv => whnf
    exact rdI (by rw [hR])
  have h1 : ¬ tk = 6 := by simpa using h1
  rw [if_neg h1] at hR
  refine br_intro (fun h2 => ?_) (fun h2 => ?_) <;> set_option smartUnfolding false in conv => whnf
  · have h2 : tk = 7 := by simpa using h2
    rw [if_pos h2] at hR
    refine br_intro (fun g1 => ?_) (fun g1 => ?_) <;> set_option smartUnfolding false in conv => whnf
    · have g1 := dT g1
      rw [if_neg (by omega)] at hR
      exact rdI (by rw [← hR]; rfl)
    have g1 := dF g1
    refine br_intro (fun g2 => ?_) (fun g2 => ?_) <;> set_option smartUnfolding false in conv => whnf
    · have g2 := dT g2
      rw [if_neg (by omega)] at hR
      exact rdI (by rw [← hR]; rfl)
    have g2 := dF g2
    refine br_intro (fun g3 => ?_) (fun g3 => ?_) <;> set_option smartUnfolding false in conv => whnf
    · have g3 := dT g3
      rw [Ix.pvL_len] at g3
      rw [if_neg (by omega)] at hR
      exact rdI (by rw [← hR]; rfl)
    have g3 := dF g3
    rw [Ix.pvL_len] at g3
    rw [if_pos (by omega)] at hR
    exact rdI (by rw [← hR]; rfl)
  have h2 : ¬ tk = 7 := by simpa using h2
  rw [if_neg h2] at hR
  refine br_intro (fun h3 => ?_) (fun h3 => ?_) <;> set_option smartUnfolding false in conv => whnf
  · have h3 : tk = 5 := by simpa using h3
    subst h3
    rw [if_pos rfl] at hR
    refine br_intro (fun g1 => ?_) (fun g1 => ?_) <;> set_option smartUnfolding false in conv => whnf
    · have g1 : ¬ n = 0 := by simpa using g1
      rw [if_neg (fun h => g1 h.1)] at hR
      exact rdI (by rw [← hR]; rfl)
    have g1 : n = 0 := by simpa using g1
    refine br_intro (fun g2 => ?_) (fun g2 => ?_) <;> set_option smartUnfolding false in conv => whnf
    · have g2 := dT g2
      rw [Ix.pvL_len] at g2
      rw [if_neg (fun h => by have := h.2; omega)] at hR
      exact rdI (by rw [← hR]; rfl)
    have g2 := dF g2
    rw [Ix.pvL_len] at g2
    rw [if_pos ⟨g1, by omega⟩] at hR
    refine vloop_intro (σ := Nat × Int) (fun x => x.1 ≤ ks.length ∧ Ix.degE D (.mk 5 tn ts) x.2 (ks.drop x.1) = o ∧ 0 ≤ x.2 ∧ x.2 ≤ 6) (fun x => [(0, .pv (.lst 3 (Dt.pvL D))), (4, .bp 0 0), (5, .bp 1 0), (7, .pv (.int .i64 x.2)), (56, .pv (.lst 2 (Ix.pvL ks))), (57, .pv (.int .i64 (Ix.pvL ks).length)), (58, .pv (.int .i64 x.1))])
      (fun _ => [.box 25 [.pv (.int .i64 5), .pv (.int .i64 tn), .pv (.lst 3 (V.pvL ts))], .box 28 [.pv (.int .i64 n), .pv (.lst 2 (Ix.pvL ks))]]) (fun x => ks.length - x.1) (0, 0) ⟨by simp, by simpa using hR, by simp, by simp⟩ (weak_sub ⟨(by kernel_rfl), (by kernel_rfl), (by kernel_rfl), (by kernel_rfl), (by kernel_rfl), (by kernel_rfl), (by kernel_rfl), trivial⟩) ?_
    rintro ⟨i, a⟩ ⟨hi, hs, ha1, ha2⟩
    simp only at hi hs ha1 ha2
    set_option smartUnfolding false in conv => whnf
    refine br_intro (fun h => ?_) (fun h => ?_) <;> set_option smartUnfolding false in conv => whnf
    · replace h : i < ks.length := by have := dT h; rw [Ix.pvL_len] at this; simpa using this
      refine Ix.get_elim h fun c1 es1 hv1 hg1 hg0 hd => ?_
      have hpay := payTypes_det hD tn ts (by omega) c1
      rw [V.pv_mk] at hpay
      rw [hd, Ix.degE_cons, Ix.degK_mk] at hs
      refine ⟨Ix.ag c1 es1, ⟨by simp, by simpa using hg1⟩, ?_⟩
      set_option smartUnfolding false in conv => whnf
      refine br_intro (fun g3 => ?_) (fun g3 => ?_) <;> set_option smartUnfolding false in conv => whnf
      · have g3 := dT g3
        rw [payS_none (conOf_big hv (.inl g3))] at hs
        exact rdI (by rw [← hs]; rfl)
      have g3 := dF g3
      refine br_intro (fun g4 => ?_) (fun g4 => ?_) <;> set_option smartUnfolding false in conv => whnf
      · have g4 := dT g4
        rw [payS_none (conOf_big hv (.inr g4))] at hs
        exact rdI (by rw [← hs]; rfl)
      have g4 := dF g4
      cases hp : payS D (.mk 5 tn ts) c1 with
      | none =>
        rw [hp, optP_none] at hpay
        rw [hp] at hs
        simp only at hs
        subst hs
        refine acall_det (ps := [.lst 3 (Dt.pvL D), V.ag 5 tn ts, .int .i64 c1]) hpay ?_
        set_option smartUnfolding false in conv => whnf
        exact rdP (.refl _)
      | some us =>
        rw [hp, optP_some, List.nil_append] at hpay
        rw [hp] at hs
        simp only at hs
        have htot := hT2 c1 es1 hv1 us (payS_good hv hg hp)
        refine acall_det (ps := [.lst 3 (Dt.pvL D), V.ag 5 tn ts, .int .i64 c1]) hpay ?_
        set_option smartUnfolding false in conv => whnf
        cases hL : Ix.degL D 0 es1 us with
        | none =>
          rw [hL] at hs htot
          simp only at hs
          subst hs
          refine acall_det (ps := [.lst 3 (Dt.pvL D), .lst 3 (V.pvL us), .lst 2 (Ix.pvL es1)]) htot ?_
          set_option smartUnfolding false in conv => whnf
          exact rdP (.refl _)
        | some d =>
          have hr := Ix.degL_rng D es1 us 0 d hL (by omega) (by omega)
          rw [hL] at hs htot
          simp only at hs
          replace htot : Det Tryz.prog 73 [.lst 3 (Dt.pvL D), .lst 3 (V.pvL us), .lst 2 (Ix.pvL es1)] (.int .i64 d) := htot
          refine acall_det (ps := [.lst 3 (Dt.pvL D), .lst 3 (V.pvL us), .lst 2 (Ix.pvL es1)]) htot ?_
          set_option smartUnfolding false in conv => whnf
          have ew1 : IntKind.wrap .i64 (1 + d) = 1 + d := wrapI (by omega) (by omega)
          have ew : IntKind.wrap .i64 (a + IntKind.wrap .i64 (1 + d)) = a + (1 + d) := by rw [ew1]; exact wrapI (by omega) (by omega)
          have ew2 : IntKind.wrap .i64 (IntKind.wrap .i64 (a + 1) + d) = a + (1 + d) := by rw [show IntKind.wrap .i64 (a + 1) = a + 1 from wrapI (by omega) (by omega), wrapI (by omega) (by omega)]; omega
          refine br_intro (fun g => ?_) (fun g => ?_) <;> set_option smartUnfolding false in conv => whnf
          · have g := dT g; omega
          refine br_intro (fun g => ?_) (fun g => ?_) <;> set_option smartUnfolding false in conv => whnf
          · have g := dT g
            rw [ew2] at g
            rw [if_pos g] at hs
            subst hs
            exact rdP (.refl _)
          · have g := dF g
            rw [ew2] at g
            rw [if_neg g] at hs
            exact ⟨(i + 1, a + (1 + d)), ⟨h, hs, by simp only; omega, by simp only; omega⟩, weak_ren [0, 1] 3 (by kernel_rfl) (blk (by kernel_rfl) (blk (by kernel_rfl) trivial)) ⟨(by kernel_rfl), (by kernel_rfl), (by kernel_rfl), sI ew, (by kernel_rfl), (by kernel_rfl), sUp h hl, trivial⟩, subUp h⟩
    · replace h : ¬ i < ks.length := by have := dF h; rw [Ix.pvL_len] at this; simpa using this
      rw [List.drop_of_length_le (by omega), Ix.degE_nil] at hs
      subst hs
      exact rdP (.refl _)
  have h3 : ¬ tk = 5 := by simpa using h3
  rw [if_neg h3] at hR
  refine br_intro (fun g1 => ?_) (fun g1 => ?_) <;> set_option smartUnfolding false in conv => whnf
  · have g1 : ¬ n = 0 := by simpa using g1
    rw [if_neg (fun h => g1 h.1)] at hR
    exact rdI (by rw [← hR]; rfl)
  have g1 : n = 0 := by simpa using g1
  refine br_intro (fun g2 => ?_) (fun g2 => ?_) <;> set_option smartUnfolding false in conv => whnf
  · have g2 := dT g2
    rw [Ix.pvL_len] at g2
    rw [if_neg (by omega)] at hR
    exact rdI (by rw [← hR]; rfl)
  have g2 := dF g2
  rw [Ix.pvL_len] at g2
  rw [if_pos (by omega)] at hR
  exact rdI (by rw [← hR]; rfl)
end Go.AM

set_option linter.all false
set_option maxRecDepth 20000
set_option maxHeartbeats 4000000
namespace Go.AM
open Go.Proofs

/-! ### Degree and Valid, both -/
/-- What both answer. -/
noncomputable def degS (D : List Dt) (t : V) (i : Ix) : Int := if known D t = true then (Ix.deg D i t).getD (-1) else -1
theorem degS_no {D : List Dt} {t : V} {i : Ix} (h : known D t = false) : degS D t i = -1 := by unfold degS; rw [if_neg (by rw [h]; simp)]
theorem degS_yes {D : List Dt} {t : V} {i : Ix} (h : known D t = true) : degS D t i = (Ix.deg D i t).getD (-1) := by unfold degS; rw [if_pos h]
theorem degS_ge {D : List Dt} {t : V} {i : Ix} : -1 ≤ degS D t i ∧ degS D t i ≤ 6 := by
  unfold degS
  split
  · cases h : Ix.deg D i t with
    | none => simp
    | some d => have := Ix.deg_rng D i t d h; simp only [Option.getD_some]; omega
  · omega
attribute [irreducible] degS
theorem iDegree_det {D : List Dt} (hD : DOK D) (hN : DN D) (t : V) (i : Ix) : Det Tryz.prog 34 [.lst 3 (Dt.pvL D), t.pv, i.pv] (.int .i64 (degS D t i)) := by
  have h1 := iknown_det hD hN t
  have h2 := fun h : known D t = true => degree_det hD (known_good h).1 i t (known_good h).2
  generalize hS : degS D t i = r
  obtain ⟨tk, tn, ts⟩ := t
  obtain ⟨n, ks⟩ := i
  rw [V.pv_mk] at h1 h2
  rw [Ix.pv_mk] at h2
  rw [V.pv_mk, Ix.pv_mk]
  refine det_of_vc' (E := S.E 0) rfl fol Tryz.func34 rfl rfl (slots := [6]) rfl rfl fun hw => ?_
  set_option smartUnfolding false in conv => whnf
  cases hk : known D (.mk tk tn ts) with
  | false =>
    rw [hk] at h1
    rw [degS_no hk] at hS
    subst hS
    refine acall_det (ps := [.lst 3 (Dt.pvL D), V.ag tk tn ts]) h1 ?_
    set_option smartUnfolding false in conv => whnf
    exact rdP (.refl _)
  | true =>
    rw [hk] at h1
    rw [degS_yes hk] at hS
    have h2 := h2 hk
    refine acall_det (ps := [.lst 3 (Dt.pvL D), V.ag tk tn ts]) h1 ?_
    set_option smartUnfolding false in conv => whnf
    cases hd : Ix.deg D (.mk n ks) (.mk tk tn ts) with
    | none =>
      rw [degP_none hd] at h2
      rw [hd] at hS
      subst hS
      refine acall_det (ps := [.lst 3 (Dt.pvL D), V.ag tk tn ts, Ix.ag n ks]) h2 ?_
      set_option smartUnfolding false in conv => whnf
      exact rdP (.refl _)
    | some d =>
      rw [degP_some hd] at h2
      rw [hd] at hS
      subst hS
      refine acall_det (ps := [.lst 3 (Dt.pvL D), V.ag tk tn ts, Ix.ag n ks]) h2 ?_
      set_option smartUnfolding false in conv => whnf
      exact rdP (.refl _)
theorem fine_det {D : List Dt} (hD : DOK D) (hN : DN D) (t : V) (ht : t.cnt ≤ 1000000) : Det Tryz.prog 37 [.lst 3 (Dt.pvL D), t.pv] (.bool (known D t)) := by
  have h1 := validData_r hD hN
  have h2 := rValid_det D 0 t ht
  obtain ⟨k, n, ts⟩ := t
  rw [V.pv_mk] at h2 ⊢
  unfold known
  refine det_of_vc' (E := S.E 0) rfl fol Tryz.func37 rfl rfl (slots := [4]) rfl rfl fun hw => ?_
  set_option smartUnfolding false in conv => whnf
  refine acall_det (ps := [.lst 3 (Dt.pvL D)]) h1 ?_
  set_option smartUnfolding false in conv => whnf
  refine br_intro (fun g => ?_) (fun g => ?_) <;> set_option smartUnfolding false in conv => whnf
  · refine acall_det (ps := [.lst 3 (Dt.pvL D), V.ag k n ts, .int .i64 0]) h2 ?_
    set_option smartUnfolding false in conv => whnf
    exact rdB (by rw [g]; rfl)
  · exact rdB (by rw [g]; rfl)
theorem rDegree_det {D : List Dt} (hD : DOK D) (hN : DN D) (t : V) (ht : t.cnt ≤ 1000000) (i : Ix) : Det Tryz.prog 21 [.lst 3 (Dt.pvL D), t.pv, i.pv] (.int .i64 (degS D t i)) := by
  have h1 := fine_det hD hN t ht
  have h2 := fun h : known D t = true => rdegree_det hD (known_good h).1 i t (known_good h).2
  generalize hS : degS D t i = r
  obtain ⟨tk, tn, ts⟩ := t
  obtain ⟨n, ks⟩ := i
  rw [V.pv_mk] at h1 h2
  rw [Ix.pv_mk] at h2
  rw [V.pv_mk, Ix.pv_mk]
  refine det_of_vc' (E := S.E 0) rfl fol Tryz.func21 rfl rfl (slots := [6]) rfl rfl fun hw => ?_
  set_option smartUnfolding false in conv => whnf
  cases hk : known D (.mk tk tn ts) with
  | false =>
    rw [hk] at h1
    rw [degS_no hk] at hS
    subst hS
    refine acall_det (ps := [.lst 3 (Dt.pvL D), V.ag tk tn ts]) h1 ?_
    set_option smartUnfolding false in conv => whnf
    exact rdP (.refl _)
  | true =>
    rw [hk] at h1
    rw [degS_yes hk] at hS
    have h2 := h2 hk
    rw [hS] at h2
    refine acall_det (ps := [.lst 3 (Dt.pvL D), V.ag tk tn ts]) h1 ?_
    set_option smartUnfolding false in conv => whnf
    refine acall_det (ps := [.lst 3 (Dt.pvL D), V.ag tk tn ts, Ix.ag n ks]) h2 ?_
    set_option smartUnfolding false in conv => whnf
    exact rdP (.refl _)
theorem iValid_det {D : List Dt} (hD : DOK D) (hN : DN D) (t : V) (i : Ix) : Det Tryz.prog 27 [.lst 3 (Dt.pvL D), t.pv, i.pv] (.bool (decide (0 ≤ degS D t i))) := by
  have h1 := iDegree_det hD hN t i
  generalize degS D t i = r at h1
  obtain ⟨tk, tn, ts⟩ := t
  obtain ⟨n, ks⟩ := i
  rw [V.pv_mk, Ix.pv_mk] at h1 ⊢
  refine det_of_vc' (E := S.E 0) rfl fol Tryz.func27 rfl rfl (slots := [6]) rfl rfl fun hw => ?_
  set_option smartUnfolding false in conv => whnf
  refine acall_det (ps := [.lst 3 (Dt.pvL D), V.ag tk tn ts, Ix.ag n ks]) h1 ?_
  set_option smartUnfolding false in conv => whnf
  exact rdB rfl
theorem rIValid_det {D : List Dt} (hD : DOK D) (hN : DN D) (t : V) (ht : t.cnt ≤ 1000000) (i : Ix) : Det Tryz.prog 29 [.lst 3 (Dt.pvL D), t.pv, i.pv] (.bool (decide (0 ≤ degS D t i))) := by
  have h1 := rDegree_det hD hN t ht i
  generalize degS D t i = r at h1
  obtain ⟨tk, tn, ts⟩ := t
  obtain ⟨n, ks⟩ := i
  rw [V.pv_mk, Ix.pv_mk] at h1 ⊢
  refine det_of_vc' (E := S.E 0) rfl fol Tryz.func29 rfl rfl (slots := [6]) rfl rfl fun hw => ?_
  set_option smartUnfolding false in conv => whnf
  refine acall_det (ps := [.lst 3 (Dt.pvL D), V.ag tk tn ts, Ix.ag n ks]) h1 ?_
  set_option smartUnfolding false in conv => whnf
  exact rdB rfl
end Go.AM

set_option linter.all false
namespace Go.AM
open Go.Proofs

/-! ### A callee reads what was built; after that it is let go of -/
theorem gupd_dead : ∀ (S : List Nat) (G : Own) (id : Nat), gupd G (S.map fun i => (i, AB.dead)) id = if id ∈ S then AB.dead else G id
  | [], G, id => by simp [gupd]
  | i :: S, G, id => by
    simp only [List.map_cons, gupd]
    rw [gupd_dead S]
    by_cases h : id ∈ S
    · simp [h]
    · by_cases h2 : id = i
      · subst h2; simp [h, gset]
      · simp [h, h2, gset]
theorem adet_eat {P : Program} {f : FuncId} {ps : List PV} {r : PV} {H : Heap} {vs : List AV} {S : List Nat} (h : Det P f ps r) (hr : RdL (· ∈ S) H vs ps) : ADet P f vs H (.pv r) (S.map fun i => (i, AB.dead)) S where
  enters := h.enters
  ids := fun p hp => by simp only [List.mem_map] at hp; obtain ⟨i, hi, rfl⟩ := hp; exact hi
  calls := fun w X ι G us hC hS hT => Calls.mono (h.calls w (offS X ι G (· ∈ S)) us (fun b hb => off_lt hC (offS_off hb)) hC.laid (TR_of hr.len (hr.sound hC hS) hT)) (by
    rintro e w' ⟨v, rfl, hv, hP⟩
    have hg : ∀ id, gupd G (S.map fun i => (i, AB.dead)) id = if id ∈ S then AB.dead else G id := gupd_dead S G
    generalize gupd G (S.map fun i => (i, AB.dead)) = G' at hg
    have hlive : ∀ id, (G' id).live = true → id ∉ S ∧ (G id).live = true := fun id hl => by
      rw [hg] at hl
      split at hl
      · simp [AB.live] at hl
      · rename_i hn; exact ⟨hn, hl⟩
    have hown : ∀ b, own ι G' b → own ι G b := fun b ⟨id, h1, h2⟩ => ⟨id, (hlive id h1).2, h2⟩
    have hoff : ∀ b, off X ι G' b → off X ι G b := fun b hb => hb.elim (fun h => .inl (hown b h)) .inr
    have hC' := hP.conc hC
    have hsome : ∀ id, (G id).isNone = false → (G' id).isNone = false := fun id hi => by
      rw [hg]; split
      · rfl
      · exact hi
    have hbox : ∀ id, (G' id).isBox = true → (G id).isBox = true := fun id hb => by
      rw [hg] at hb
      split at hb
      · simp [AB.isBox] at hb
      · exact hb
    have hrow : ∀ id, (G' id).isRow = true → (G id).isRow = true ∧ (G' id).sz = (G id).sz := fun id hb => by
      rw [hg] at hb ⊢
      split at hb
      · simp [AB.isRow] at hb
      · rename_i hn; rw [if_neg hn]; exact ⟨hb, rfl⟩
    have hN : Next w' X ι G w' ι G' := ⟨⟨Nat.le_refl _, fun _ _ _ => rfl, fun b _ hb => hoff b hb⟩, fun _ _ => rfl, hsome, fun id _ hb => hbox id hb, fun id _ hb => hrow id hb⟩
    refine ⟨v, ι, rfl, ?_, ⟨?_, ?_, hC'.xlt, ?_, hC'.laid, fun p hp i hi => hC'.free p hp i (hlive i hi).2⟩, ?_⟩
    · simp only [VR]
      refine hv.less fun b hb => ?_
      rcases hb with ⟨id, h1, h2⟩ | hx
      · exact .inr ⟨id, (hlive id h1).1, (hlive id h1).2, h2⟩
      · exact .inl hx
    · exact fun i j hi hj he => hC'.inj i j (hlive i hi).2 (hlive j hj).2 he
    · exact fun i hi => hC'.dis i (hlive i hi).2
    · intro id
      rw [hg]
      split
      · trivial
      · cases hn : (G id).isNone with
        | true => exact BR_none hn
        | false => exact (hC'.br id).next hN hn fun _ => rfl
    · exact ⟨hP.size, hP.os, hP.tape, hP.output, fun b hb _ => hP.heap b hb, fun b _ hb => hown b hb, fun _ _ => rfl, hsome, fun id _ hb => hbox id hb, fun id _ hb => hrow id hb⟩)
end Go.AM
