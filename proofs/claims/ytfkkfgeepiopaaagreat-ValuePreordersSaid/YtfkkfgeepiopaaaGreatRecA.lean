import Derived.Test.YtfkkfgeepiopaaaGreatFldB
set_option linter.all false
set_option maxRecDepth 20000
set_option maxHeartbeats 2000000
namespace Go.AM
open Go.Proofs

/-! ### Recursive arguments -/
def selfArgs : List V → Nat → Bool
  | [], _ => true
  | .mk k n us :: l, i => decide (k = 4) && decide (n = i) && decide ((us.length : Int) = 0) && selfArgs l (i + 1)
theorem selfArgs_nil (i : Nat) : selfArgs [] i = true := rfl
theorem selfArgs_cons (k n : Int) (us l : List V) (i : Nat) : selfArgs (.mk k n us :: l) i = (decide (k = 4) && decide (n = i) && decide ((us.length : Int) = 0) && selfArgs l (i + 1)) := rfl
def isSelf (d vars : Int) : V → Bool
  | .mk k n ts => decide (k = 5) && decide (n = d) && decide ((ts.length : Int) = vars) && selfArgs ts 0
theorem isSelf_mk (d vars k n : Int) (ts : List V) : isSelf d vars (.mk k n ts) = (decide (k = 5) && decide (n = d) && decide ((ts.length : Int) = vars) && selfArgs ts 0) := rfl
/-- The declaration and the constructor. -/
def conAt (D : List Dt) (d c : Int) : Option (Int × Cn) := if 0 ≤ d ∧ 0 ≤ c then (match D[d.toNat]? with | some x => (match x.cons[c.toNat]? with | some y => some (x.vars, y) | Option.none => Option.none) | Option.none => Option.none) else Option.none
def recS (D : List Dt) (d c : Int) : List Bool := match conAt D d c with
  | some (vars, y) => y.args.map (isSelf d vars)
  | Option.none => []
def boolsP (l : List Bool) : List PV := l.map .bool
theorem boolsP_nil : boolsP [] = [] := rfl
theorem boolsP_cons (b : Bool) (l : List Bool) : boolsP (b :: l) = .bool b :: boolsP l := rfl
attribute [irreducible] selfArgs isSelf

theorem isSelf_det (t : V) (d vars : Int) : Det Tryz.prog 34 [t.pv, .int .i64 d, .int .i64 vars] (.bool (isSelf d vars t)) := by
  obtain ⟨k, n, ts⟩ := t
  rw [V.pv_mk]
  generalize hR : isSelf d vars (.mk k n ts) = R
  rw [isSelf_mk] at hR
  refine det_of_vc' (E := S.E 0) rfl fol Tryz.func34 rfl rfl (slots := [6]) rfl rfl fun hw => ?_
  have hl := V.lenle hw.1
  set_option smartUnfolding false in conv => whnf
  refine br_intro (fun h1 => ?_) (fun h1 => ?_) <;> set_option smartUnfolding false in conv => whnf
  · have h1 : ¬ k = 5 := by simpa using h1
    exact rdB (by rw [← hR]; simp [h1])
  have h1 : k = 5 := by simpa using h1
  refine br_intro (fun h2 => ?_) (fun h2 => ?_) <;> set_option smartUnfolding false in conv => whnf
  · have h2 : ¬ n = d := by simpa using h2
    exact rdB (by rw [← hR]; simp [h2])
  have h2 : n = d := by simpa using h2
  refine br_intro (fun h3 => ?_) (fun h3 => ?_) <;> set_option smartUnfolding false in conv => whnf
  · rw [V.pvL_len] at h3
    have h3 : ¬ (ts.length : Int) = vars := by simpa using h3
    exact rdB (by rw [← hR]; simp [h3])
  rw [V.pvL_len] at h3
  have h3 : (ts.length : Int) = vars := by simpa using h3
  rw [decide_eq_true h1, decide_eq_true h2, decide_eq_true h3, Bool.true_and, Bool.true_and, Bool.true_and] at hR
  refine vloop_intro (σ := Nat) (fun i => i ≤ ts.length ∧ selfArgs (ts.drop i) i = R) (fun i => [(3, .bp 0 0), (7, .pv (.int .i64 i))])
    (fun _ => [.box 28 [.pv (.int .i64 k), .pv (.int .i64 n), .pv (.lst 3 (V.pvL ts))]]) (fun i => ts.length - i) 0 ⟨by simp, by simpa using hR⟩ (weak_sub ⟨(by kernel_rfl), (by kernel_rfl), trivial⟩) ?_
  rintro i ⟨hi, hs⟩
  set_option smartUnfolding false in conv => whnf
  refine br_intro (fun h => ?_) (fun h => ?_) <;> set_option smartUnfolding false in conv => whnf
  · replace h : i < ts.length := by have := dT h; rw [V.pvL_len] at this; simpa using this
    obtain ⟨⟨k', n', ts'⟩, hv, hg, _, hd⟩ := V.get_pvL h
    rw [V.pv_mk] at hg
    rw [hd, selfArgs_cons] at hs
    refine ⟨V.ag k' n' ts', ⟨by simp, by simpa using hg⟩, ?_⟩
    set_option smartUnfolding false in conv => whnf
    refine br_intro (fun g1 => ?_) (fun g1 => ?_) <;> set_option smartUnfolding false in conv => whnf
    · have g1 : ¬ k' = 4 := by simpa using g1
      exact rdB (by rw [← hs]; simp [g1])
    have g1 : k' = 4 := by simpa using g1
    refine ⟨V.ag k' n' ts', ⟨by simp, by simpa using hg⟩, ?_⟩
    set_option smartUnfolding false in conv => whnf
    refine br_intro (fun g2 => ?_) (fun g2 => ?_) <;> set_option smartUnfolding false in conv => whnf
    · have g2 : ¬ n' = i := by simpa using g2
      exact rdB (by rw [← hs]; simp [g2])
    have g2 : n' = i := by simpa using g2
    refine ⟨V.ag k' n' ts', ⟨by simp, by simpa using hg⟩, ?_⟩
    set_option smartUnfolding false in conv => whnf
    refine br_intro (fun g3 => ?_) (fun g3 => ?_) <;> set_option smartUnfolding false in conv => whnf
    · have g3 := dT g3
      rw [V.pvL_len] at g3
      exact rdB (by rw [← hs, decide_eq_false (p := (ts'.length : Int) = 0) (by omega)]; simp)
    · have g3 := dF g3
      rw [V.pvL_len] at g3
      rw [decide_eq_true g1, decide_eq_true g2, decide_eq_true (p := (ts'.length : Int) = 0) (by omega), Bool.true_and, Bool.true_and, Bool.true_and] at hs
      refine ⟨i + 1, ⟨h, hs⟩, weak_sub ⟨(by kernel_rfl), sUp h hl, trivial⟩, subUp h⟩
  · replace h : ¬ i < ts.length := by have := dF h; rw [V.pvL_len] at this; simpa using this
    rw [List.drop_of_length_le (by omega), selfArgs_nil] at hs
    exact rdB hs


theorem rrec_det {D : List Dt} (hD : DOK D) (d c : Int) : Det Tryz.prog 26 [.lst 3 (Dt.pvL D), .int .i64 d, .int .i64 c] (.lst 1 (boolsP (recS D d c))) := by
  generalize hR : PV.lst 1 (boolsP (recS D d c)) = R
  refine det_of_vc' (E := S.E 0) rfl fol Tryz.func26 rfl rfl (slots := [6]) rfl rfl fun hw => ?_
  set_option smartUnfolding false in conv => whnf
  have no : conAt D d c = Option.none → .lst 1 [] = R := fun h => by rw [← hR, recS, h]; rfl
  refine br_intro (fun h2 => ?_) (fun h2 => ?_) <;> set_option smartUnfolding false in conv => whnf
  · have h2 := dT h2
    rw [← no (by rw [conAt, if_neg (by omega)])]; exact .le (.nils 1)
  have h2 := dF h2
  refine br_intro (fun h3 => ?_) (fun h3 => ?_) <;> set_option smartUnfolding false in conv => whnf
  · have h3 := dT h3
    rw [Dt.pvL_len] at h3
    rw [← no (by rw [conAt, List.getElem?_eq_none (by omega)]; split <;> rfl)]; exact .le (.nils 1)
  have h3 := dF h3
  rw [Dt.pvL_len] at h3
  obtain ⟨nm, vs, cs, hd, hg, hg2, _⟩ := Dt.get_pvL (l := D) (i := d.toNat) (by omega)
  refine br_intro (fun h5 => ?_) (fun h5 => ?_) <;> set_option smartUnfolding false in conv => whnf
  · have h5 := dT h5
    rw [← no (by rw [conAt, if_neg (by omega)])]; exact .le (.nils 1)
  have h5 := dF h5
  refine ⟨Dt.ag nm vs cs, ⟨by omega, hg⟩, ?_⟩
  set_option smartUnfolding false in conv => whnf
  refine br_intro (fun h6 => ?_) (fun h6 => ?_) <;> set_option smartUnfolding false in conv => whnf
  · have h6 := dT h6
    rw [Cn.pvL_len] at h6
    rw [← no (by simp only [conAt, hg2]; rw [List.getElem?_eq_none (by omega)]; simp)]; exact .le (.nils 1)
  have h6 := dF h6
  rw [Cn.pvL_len] at h6
  obtain ⟨cn, cas, hc, hcg, hcg2, _⟩ := Cn.get_pvL (l := cs) (i := c.toNat) (by omega)
  have hcl := hD.args _ hd _ hc
  simp only at hcl
  have ec : conAt D d c = some (vs, ⟨cn, cas⟩) := by simp only [conAt, hg2, hcg2]; rw [if_pos (by omega)]
  rw [recS, ec] at hR
  simp only at hR
  refine ⟨Dt.ag nm vs cs, ⟨by omega, hg⟩, ?_⟩
  set_option smartUnfolding false in conv => whnf
  refine ⟨Cn.ag cn cas, ⟨by omega, hcg⟩, ?_⟩
  set_option smartUnfolding false in conv => whnf
  have hl : cas.length ≤ 9223372036854775807 := by omega
  refine vloop_intro (σ := Nat × List PV) (fun x => x.1 ≤ cas.length ∧ .lst 1 (x.2 ++ boolsP ((cas.drop x.1).map (isSelf d vs))) = R ∧ x.2.length = x.1) (fun x => [(0, .pv (.lst 3 (Dt.pvL D))), (1, .pv (.int .i64 d)), (7, lsV 0 x.2), (40, .pv (.lst 3 (V.pvL cas))), (41, .pv (.int .i64 (V.pvL cas).length)), (42, .pv (.int .i64 x.1))])
    (fun x => [lsB 4 1 x.2])
    (fun x => cas.length - x.1) (0, []) ⟨by simp, by simpa using hR, rfl⟩ (weak_ren [0] 1 (by kernel_rfl) (blkD trivial) ⟨(by kernel_rfl), (by kernel_rfl), (by kernel_rfl), (by kernel_rfl), (by kernel_rfl), (by kernel_rfl), trivial⟩) ?_
  rintro ⟨i, ps⟩ ⟨hi, hs, hpl⟩
  simp only at hi hs hpl
  set_option smartUnfolding false in conv => whnf
  refine br_intro (fun h => ?_) (fun h => ?_) <;> set_option smartUnfolding false in conv => whnf
  · replace h : i < cas.length := by have := dT h; rw [V.pvL_len] at this; simpa using this
    obtain ⟨⟨k', n', ts'⟩, hv, hge, _, hde⟩ := V.get_pvL h
    have hsf := isSelf_det (.mk k' n' ts') d vs
    rw [V.pv_mk] at hge hsf
    rw [hde, List.map_cons, boolsP_cons] at hs
    refine ⟨V.ag k' n' ts', ⟨by simp, by simpa using hge⟩, ?_⟩
    set_option smartUnfolding false in conv => whnf
    refine ⟨Dt.ag nm vs cs, ⟨by omega, hg⟩, ?_⟩
    set_option smartUnfolding false in conv => whnf
    refine acall_det (ps := [V.ag k' n' ts', .int .i64 d, .int .i64 vs]) hsf ?_
    set_option smartUnfolding false in conv => whnf
    refine ⟨Nat.le_refl 1, ?_⟩
    set_option smartUnfolding false in conv => whnf
    cases ps with
    | nil =>
      set_option smartUnfolding false in conv => whnf
      refine ⟨⟨⟨by decide, by decide⟩, by decide⟩, ?_⟩
      set_option smartUnfolding false in conv => whnf
      exact ⟨(i + 1, [] ++ [.bool (isSelf d vs (.mk k' n' ts'))]), ⟨h, hs, by simp at hpl ⊢; omega⟩, weak_ren [3] 4 (by kernel_rfl) (blk (by kernel_rfl) trivial) ⟨(by kernel_rfl), (by kernel_rfl), (by kernel_rfl), (by kernel_rfl), (by kernel_rfl), sUp h hl, trivial⟩, subUp h⟩
    | cons p ps =>
      set_option smartUnfolding false in conv => whnf
      simp only [List.length_cons] at hpl
      refine ⟨⟨⟨by simp [pvs_len], by simp only [Nat.succ_eq_add_one]; omega⟩, by rw [show ((S.E 0).te 4).bytes = 1 from rfl]; simp only [Nat.succ_eq_add_one]; omega⟩, ?_⟩
      set_option smartUnfolding false in conv => whnf
      exact ⟨(i + 1, (p :: ps) ++ [.bool (isSelf d vs (.mk k' n' ts'))]), ⟨h, by rw [← hs]; simp, by simp; omega⟩, weak_ren [3] 4 (by kernel_rfl) (blkR_snoc (by kernel_rfl) trivial) ⟨(by kernel_rfl), (by kernel_rfl), by simp only [lsV_snoc]; kernel_rfl, (by kernel_rfl), (by kernel_rfl), sUp h hl, trivial⟩, subUp h⟩
  · replace h : ¬ i < cas.length := by have := dF h; rw [V.pvL_len] at this; simpa using this
    rw [List.drop_of_length_le (by omega), List.map_nil, boolsP_nil, List.append_nil] at hs
    rw [← hs]
    exact rd_ls (k := 0) rfl trivial rfl
end Go.AM
