import Derived.Test.YtececigbpmaacaaGreatPkH
set_option linter.all false
set_option maxRecDepth 20000
set_option maxHeartbeats 2000000
namespace Go.AM
open Go.Proofs


theorem rfields_det {D : List Dt} (hD : DOK D) (t : V) (ht : t.cnt ≤ 1000) (c : Int) : Det Tryz.prog 60 [.lst 3 (Dt.pvL D), t.pv, .int .i64 c] (optP [] (fieldsS D t c)) := by
  obtain ⟨k, n, ts⟩ := t
  rw [V.cnt_mk] at ht
  have hts : ∀ u ∈ ts, u.cnt ≤ 1000 := fun u hu => by have := V.cnt_mem hu; omega
  have hsub := rsubst_det ts (fun u hu => by have := hts u hu; omega)
  rw [V.pv_mk]
  generalize hR : optP [] (fieldsS D (.mk k n ts) c) = R
  have no : conOf D (.mk k n ts) c = Option.none → .tuple [.lst 3 [], .bool false] = R := fun h => by rw [← hR, fieldsS, h]; rfl
  refine det_of_vc' (E := S.E 0) rfl fol Tryz.func60 rfl rfl (slots := [6, 7]) rfl rfl fun hw => ?_
  set_option smartUnfolding false in conv => whnf
  refine br_intro (fun h1 => ?_) (fun h1 => ?_) <;> set_option smartUnfolding false in conv => whnf
  · have h1 : ¬ k = 5 := by simpa using h1
    refine ⟨by kernel_rfl, ?_⟩
    set_option smartUnfolding false in conv => whnf
    rw [← no (by simp [conOf, h1])]; exact rd_no
  have h1 : k = 5 := by simpa using h1
  refine br_intro (fun h2 => ?_) (fun h2 => ?_) <;> set_option smartUnfolding false in conv => whnf
  · have h2 := dT h2
    refine ⟨by kernel_rfl, ?_⟩
    set_option smartUnfolding false in conv => whnf
    rw [← no (by rw [conOf, if_neg (by omega)])]; exact rd_no
  have h2 := dF h2
  refine br_intro (fun h3 => ?_) (fun h3 => ?_) <;> set_option smartUnfolding false in conv => whnf
  · have h3 := dT h3
    rw [Dt.pvL_len] at h3
    refine ⟨by kernel_rfl, ?_⟩
    set_option smartUnfolding false in conv => whnf
    rw [← no (by rw [conOf, List.getElem?_eq_none (by omega)]; split <;> rfl)]; exact rd_no
  have h3 := dF h3
  rw [Dt.pvL_len] at h3
  obtain ⟨nm, vs, cs, hd, hg, hg2, _⟩ := Dt.get_pvL (l := D) (i := n.toNat) (by omega)
  refine ⟨Dt.ag nm vs cs, ⟨by omega, hg⟩, ?_⟩
  set_option smartUnfolding false in conv => whnf
  refine br_intro (fun h4 => ?_) (fun h4 => ?_) <;> set_option smartUnfolding false in conv => whnf
  · rw [V.pvL_len] at h4
    have h4 : ¬ (ts.length : Int) = vs := by simpa using h4
    refine ⟨by kernel_rfl, ?_⟩
    set_option smartUnfolding false in conv => whnf
    rw [← no (by simp [conOf, hg2, h4])]; exact rd_no
  rw [V.pvL_len] at h4
  have h4 : (ts.length : Int) = vs := by simpa using h4
  refine br_intro (fun h5 => ?_) (fun h5 => ?_) <;> set_option smartUnfolding false in conv => whnf
  · have h5 := dT h5
    refine ⟨by kernel_rfl, ?_⟩
    set_option smartUnfolding false in conv => whnf
    rw [← no (by rw [conOf, if_neg (by omega)])]; exact rd_no
  have h5 := dF h5
  refine ⟨Dt.ag nm vs cs, ⟨by omega, hg⟩, ?_⟩
  set_option smartUnfolding false in conv => whnf
  refine ⟨by kernel_rfl, ?_⟩
  set_option smartUnfolding false in conv => whnf
  refine br_intro (fun h6 => ?_) (fun h6 => ?_) <;> set_option smartUnfolding false in conv => whnf
  · have h6 := dT h6
    rw [Cn.pvL_len] at h6
    rw [← no (by simp only [conOf, hg2]; rw [List.getElem?_eq_none (by omega)]; simp)]; exact rd_no
  have h6 := dF h6
  rw [Cn.pvL_len] at h6
  obtain ⟨cn, cas, hc, hcg, hcg2, _⟩ := Cn.get_pvL (l := cs) (i := c.toNat) (by omega)
  have hcl := hD.args _ hd _ hc
  have hca := hD.arg _ hd _ hc
  simp only at hcl hca
  have ec : conOf D (.mk k n ts) c = some ⟨cn, cas⟩ := by simp only [conOf, hg2, h4, hcg2]; rw [if_pos (by omega)]; simp
  rw [fieldsS, ec] at hR
  simp only [V.kids] at hR
  refine ⟨Dt.ag nm vs cs, ⟨by omega, hg⟩, ?_⟩
  set_option smartUnfolding false in conv => whnf
  refine ⟨Cn.ag cn cas, ⟨by omega, hcg⟩, ?_⟩
  set_option smartUnfolding false in conv => whnf
  have hl : cas.length ≤ 9223372036854775807 := by omega
  refine vloop_intro (σ := Nat × List PV) (fun x => x.1 ≤ cas.length ∧ optP x.2 (flds ts (cas.drop x.1)) = R ∧ x.2.length = x.1) (fun x => [(4, .bp 0 0), (8, lsV 1 x.2), (63, .pv (.lst 3 (V.pvL cas))), (64, .pv (.int .i64 (V.pvL cas).length)), (65, .pv (.int .i64 x.1))])
    (fun x => [.box 25 [.pv (.int .i64 k), .pv (.int .i64 n), .pv (.lst 3 (V.pvL ts))], lsB 25 3 x.2])
    (fun x => cas.length - x.1) (0, []) ⟨by simp, by simpa using hR, rfl⟩ (weak_ren [0, 1] 2 (by kernel_rfl) (blk (by kernel_rfl) (blkD trivial)) ⟨(by kernel_rfl), (by kernel_rfl), (by kernel_rfl), (by kernel_rfl), (by kernel_rfl), trivial⟩) ?_
  rintro ⟨i, ps⟩ ⟨hi, hs, hpl⟩
  simp only at hi hs hpl
  set_option smartUnfolding false in conv => whnf
  refine br_intro (fun h => ?_) (fun h => ?_) <;> set_option smartUnfolding false in conv => whnf
  · replace h : i < cas.length := by have := dT h; rw [V.pvL_len] at this; simpa using this
    obtain ⟨⟨k', n', ts'⟩, hv, hg, _, hd⟩ := V.get_pvL h
    have hcnt : (V.sub ts (.mk k' n' ts')).cnt ≤ 1000000 := Nat.le_trans (V.sub_cnt (M := 1000) (by omega) hts _) (by have := hca _ hv; omega)
    have hsb := hsub (.mk k' n' ts') (by have := hca _ hv; omega)
    rw [hd, flds_cons] at hs
    have hsz := rtsize_det (V.sub ts (.mk k' n' ts')) hcnt
    cases he : V.sub ts (.mk k' n' ts') with
    | mk k2 n2 ts2 =>
      rw [he] at hs hsb hsz
      rw [V.pv_mk] at hsz hg
      rw [V.pv_mk, V.pv_mk] at hsb
      refine ⟨V.ag k' n' ts', ⟨by simp, by simpa using hg⟩, ?_⟩
      set_option smartUnfolding false in conv => whnf
      refine acall_det (ps := [V.ag k' n' ts', .lst 3 (V.pvL ts)]) hsb ?_
      set_option smartUnfolding false in conv => whnf
      refine acall_det (ps := [V.ag k2 n2 ts2]) hsz ?_
      set_option smartUnfolding false in conv => whnf
      refine br_intro (fun g => ?_) (fun g => ?_) <;> set_option smartUnfolding false in conv => whnf
      · have g := dT g
        rw [if_pos (by omega), optP_none] at hs
        rw [← hs]
        exact rd_no
      · have g := dF g
        rw [if_neg (by omega), optP_cons, V.pv_mk] at hs
        refine ⟨Nat.le_refl 1, ?_⟩
        set_option smartUnfolding false in conv => whnf
        cases ps with
        | nil =>
          set_option smartUnfolding false in conv => whnf
          refine ⟨⟨⟨by decide, by decide⟩, by decide⟩, ?_⟩
          set_option smartUnfolding false in conv => whnf
          exact ⟨(i + 1, [] ++ [V.ag k2 n2 ts2]), ⟨h, hs, by simp at hpl ⊢; omega⟩, weak_ren [0, 5] 6 (by kernel_rfl) (blk (by kernel_rfl) (blk (by kernel_rfl) trivial)) ⟨(by kernel_rfl), (by kernel_rfl), (by kernel_rfl), (by kernel_rfl), sUp h hl, trivial⟩, subUp h⟩
        | cons p ps =>
          set_option smartUnfolding false in conv => whnf
          simp only [List.length_cons] at hpl
          refine ⟨⟨⟨by simp [pvs_len], by simp only [Nat.succ_eq_add_one]; omega⟩, by rw [show ((S.E 0).te 25).bytes = 40 from rfl]; simp only [Nat.succ_eq_add_one]; omega⟩, ?_⟩
          set_option smartUnfolding false in conv => whnf
          exact ⟨(i + 1, (p :: ps) ++ [V.ag k2 n2 ts2]), ⟨h, hs, by simp; omega⟩, weak_ren [0, 5] 6 (by kernel_rfl) (blk (by kernel_rfl) (blkR_snoc (by kernel_rfl) trivial)) ⟨(by kernel_rfl), by simp only [lsV_snoc]; kernel_rfl, (by kernel_rfl), (by kernel_rfl), sUp h hl, trivial⟩, subUp h⟩
  · replace h : ¬ i < cas.length := by have := dF h; rw [V.pvL_len] at this; simpa using this
    rw [List.drop_of_length_le (by omega), flds_nil, optP_some, V.pvL_nil, List.append_nil] at hs
    rw [← hs]
    cases ps with
    | nil =>
      set_option smartUnfolding false in conv => whnf
      exact .le (.tuple (.cons (.nils 3) (.cons (.refl _) .nil)))
    | cons p ps =>
      set_option smartUnfolding false in conv => whnf
      exact .tup (.cons (rd_lsE (k := 1) rfl rfl trivial rfl) (.cons (.pv _) .nil))
end Go.AM

set_option linter.all false
set_option maxRecDepth 20000
set_option maxHeartbeats 2000000
namespace Go.AM
open Go.Proofs

/-! ### Recursive arguments -/
def selfArgs : List V → Nat → Bool
  | [], _ => true
  | .mk k n us :: l, i => decide (k = 4) && decide (n = i) && decide ((us.length : Int) = 0) && selfArgs l (i + 1)
theorem selfArgs_nil (i : Nat) : selfArgs [] i = true := rfl
theorem selfArgs_cons (k n : Int) (us l : List V) (i : Nat) : selfArgs (.mk k n us :: l) i = (decide (k = 4) && decide (n = i) && decide ((us.length : Int) = 0) && selfArgs l (i + 1)) := rfl
def isSelf (d vars : Int) : V → Bool
  | .mk k n ts => decide (k = 5) && decide (n = d) && decide ((ts.length : Int) = vars) && selfArgs ts 0
theorem isSelf_mk (d vars k n : Int) (ts : List V) : isSelf d vars (.mk k n ts) = (decide (k = 5) && decide (n = d) && decide ((ts.length : Int) = vars) && selfArgs ts 0) := rfl
/-- The declaration and the constructor. -/
def conAt (D : List Dt) (d c : Int) : Option (Int × Cn) := if 0 ≤ d ∧ 0 ≤ c then (match D[d.toNat]? with | some x => (match x.cons[c.toNat]? with | some y => some (x.vars, y) | Option.none => Option.none) | Option.none => Option.none) else Option.none
def recS (D : List Dt) (d c : Int) : List Bool := match conAt D d c with
  | some (vars, y) => y.args.map (isSelf d vars)
  | Option.none => []
def boolsP (l : List Bool) : List PV := l.map .bool
theorem boolsP_nil : boolsP [] = [] := rfl
theorem boolsP_cons (b : Bool) (l : List Bool) : boolsP (b :: l) = .bool b :: boolsP l := rfl
attribute [irreducible] selfArgs isSelf

theorem isSelf_det (t : V) (d vars : Int) : Det Tryz.prog 55 [t.pv, .int .i64 d, .int .i64 vars] (.bool (isSelf d vars t)) := by
  obtain ⟨k, n, ts⟩ := t
  rw [V.pv_mk]
  generalize hR : isSelf d vars (.mk k n ts) = R
  rw [isSelf_mk] at hR
  refine det_of_vc' (E := S.E 0) rfl fol Tryz.func55 rfl rfl (slots := [6]) rfl rfl fun hw => ?_
  have hl := V.lenle hw.1
  set_option smartUnfolding false in conv => whnf
  refine br_intro (fun h1 => ?_) (fun h1 => ?_) <;> set_option smartUnfolding false in conv => whnf
  · have h1 : ¬ k = 5 := by simpa using h1
    exact rdB (by rw [← hR]; simp [h1])
  have h1 : k = 5 := by simpa using h1
  refine br_intro (fun h2 => ?_) (fun h2 => ?_) <;> set_option smartUnfolding false in conv => whnf
  · have h2 : ¬ n = d := by simpa using h2
    exact rdB (by rw [← hR]; simp [h2])
  have h2 : n = d := by simpa using h2
  refine br_intro (fun h3 => ?_) (fun h3 => ?_) <;> set_option smartUnfolding false in conv => whnf
  · rw [V.pvL_len] at h3
    have h3 : ¬ (ts.length : Int) = vars := by simpa using h3
    exact rdB (by rw [← hR]; simp [h3])
  rw [V.pvL_len] at h3
  have h3 : (ts.length : Int) = vars := by simpa using h3
  rw [decide_eq_true h1, decide_eq_true h2, decide_eq_true h3, Bool.true_and, Bool.true_and, Bool.true_and] at hR
  refine vloop_intro (σ := Nat) (fun i => i ≤ ts.length ∧ selfArgs (ts.drop i) i = R) (fun i => [(3, .bp 0 0), (7, .pv (.int .i64 i))])
    (fun _ => [.box 25 [.pv (.int .i64 k), .pv (.int .i64 n), .pv (.lst 3 (V.pvL ts))]]) (fun i => ts.length - i) 0 ⟨by simp, by simpa using hR⟩ (weak_sub ⟨(by kernel_rfl), (by kernel_rfl), trivial⟩) ?_
  rintro i ⟨hi, hs⟩
  set_option smartUnfolding false in conv => whnf
  refine br_intro (fun h => ?_) (fun h => ?_) <;> set_option smartUnfolding false in conv => whnf
  · replace h : i < ts.length := by have := dT h; rw [V.pvL_len] at this; simpa using this
    obtain ⟨⟨k', n', ts'⟩, hv, hg, _, hd⟩ := V.get_pvL h
    rw [V.pv_mk] at hg
    rw [hd, selfArgs_cons] at hs
    refine ⟨V.ag k' n' ts', ⟨by simp, by simpa using hg⟩, ?_⟩
    set_option smartUnfolding false in conv => whnf
    refine br_intro (fun g1 => ?_) (fun g1 => ?_) <;> set_option smartUnfolding false in conv => whnf
    · have g1 : ¬ k' = 4 := by simpa using g1
      exact rdB (by rw [← hs]; simp [g1])
    have g1 : k' = 4 := by simpa using g1
    refine ⟨V.ag k' n' ts', ⟨by simp, by simpa using hg⟩, ?_⟩
    set_option smartUnfolding false in conv => whnf
    refine br_intro (fun g2 => ?_) (fun g2 => ?_) <;> set_option smartUnfolding false in conv => whnf
    · have g2 : ¬ n' = i := by simpa using g2
      exact rdB (by rw [← hs]; simp [g2])
    have g2 : n' = i := by simpa using g2
    refine ⟨V.ag k' n' ts', ⟨by simp, by simpa using hg⟩, ?_⟩
    set_option smartUnfolding false in conv => whnf
    refine br_intro (fun g3 => ?_) (fun g3 => ?_) <;> set_option smartUnfolding false in conv => whnf
    · have g3 := dT g3
      rw [V.pvL_len] at g3
      exact rdB (by rw [← hs, decide_eq_false (p := (ts'.length : Int) = 0) (by omega)]; simp)
    · have g3 := dF g3
      rw [V.pvL_len] at g3
      rw [decide_eq_true g1, decide_eq_true g2, decide_eq_true (p := (ts'.length : Int) = 0) (by omega), Bool.true_and, Bool.true_and, Bool.true_and] at hs
      refine ⟨i + 1, ⟨h, hs⟩, weak_sub ⟨(by kernel_rfl), sUp h hl, trivial⟩, subUp h⟩
  · replace h : ¬ i < ts.length := by have := dF h; rw [V.pvL_len] at this; simpa using this
    rw [List.drop_of_length_le (by omega), selfArgs_nil] at hs
    exact rdB hs


theorem rrec_det {D : List Dt} (hD : DOK D) (d c : Int) : Det Tryz.prog 61 [.lst 3 (Dt.pvL D), .int .i64 d, .int .i64 c] (.lst 1 (boolsP (recS D d c))) := by
  generalize hR : PV.lst 1 (boolsP (recS D d c)) = R
  refine det_of_vc' (E := S.E 0) rfl fol Tryz.func61 rfl rfl (slots := [6]) rfl rfl fun hw => ?_
  set_option smartUnfolding false in conv => whnf
  have no : conAt D d c = Option.none → .lst 1 [] = R := fun h => by rw [← hR, recS, h]; rfl
  refine br_intro (fun h2 => ?_) (fun h2 => ?_) <;> set_option smartUnfolding false in conv => whnf
  · have h2 := dT h2
    rw [← no (by rw [conAt, if_neg (by omega)])]; exact .le (.nils 1)
  have h2 := dF h2
  refine br_intro (fun h3 => ?_) (fun h3 => ?_) <;> set_option smartUnfolding false in conv => whnf
  · have h3 := dT h3
    rw [Dt.pvL_len] at h3
    rw [← no (by rw [conAt, List.getElem?_eq_none (by omega)]; split <;> rfl)]; exact .le (.nils 1)
  have h3 := dF h3
  rw [Dt.pvL_len] at h3
  obtain ⟨nm, vs, cs, hd, hg, hg2, _⟩ := Dt.get_pvL (l := D) (i := d.toNat) (by omega)
  refine br_intro (fun h5 => ?_) (fun h5 => ?_) <;> set_option smartUnfolding false in conv => whnf
  · have h5 := dT h5
    rw [← no (by rw [conAt, if_neg (by omega)])]; exact .le (.nils 1)
  have h5 := dF h5
  refine ⟨Dt.ag nm vs cs, ⟨by omega, hg⟩, ?_⟩
  set_option smartUnfolding false in conv => whnf
  refine br_intro (fun h6 => ?_) (fun h6 => ?_) <;> set_option smartUnfolding false in conv => whnf
  · have h6 := dT h6
    rw [Cn.pvL_len] at h6
    rw [← no (by simp only [conAt, hg2]; rw [List.getElem?_eq_none (by omega)]; simp)]; exact .le (.nils 1)
  have h6 := dF h6
  rw [Cn.pvL_len] at h6
  obtain ⟨cn, cas, hc, hcg, hcg2, _⟩ := Cn.get_pvL (l := cs) (i := c.toNat) (by omega)
  have hcl := hD.args _ hd _ hc
  simp only at hcl
  have ec : conAt D d c = some (vs, ⟨cn, cas⟩) := by simp only [conAt, hg2, hcg2]; rw [if_pos (by omega)]
  rw [recS, ec] at hR
  simp only at hR
  refine ⟨Dt.ag nm vs cs, ⟨by omega, hg⟩, ?_⟩
  set_option smartUnfolding false in conv => whnf
  refine ⟨Cn.ag cn cas, ⟨by omega, hcg⟩, ?_⟩
  set_option smartUnfolding false in conv => whnf
  have hl : cas.length ≤ 9223372036854775807 := by omega
  refine vloop_intro (σ := Nat × List PV) (fun x => x.1 ≤ cas.length ∧ .lst 1 (x.2 ++ boolsP ((cas.drop x.1).map (isSelf d vs))) = R ∧ x.2.length = x.1) (fun x => [(0, .pv (.lst 3 (Dt.pvL D))), (1, .pv (.int .i64 d)), (7, lsV 0 x.2), (40, .pv (.lst 3 (V.pvL cas))), (41, .pv (.int .i64 (V.pvL cas).length)), (42, .pv (.int .i64 x.1))])
    (fun x => [lsB 4 1 x.2])
    (fun x => cas.length - x.1) (0, []) ⟨by simp, by simpa using hR, rfl⟩ (weak_ren [0] 1 (by kernel_rfl) (blkD trivial) ⟨(by kernel_rfl), (by kernel_rfl), (by kernel_rfl), (by kernel_rfl), (by kernel_rfl), (by kernel_rfl), trivial⟩) ?_
  rintro ⟨i, ps⟩ ⟨hi, hs, hpl⟩
  simp only at hi hs hpl
  set_option smartUnfolding false in conv => whnf
  refine br_intro (fun h => ?_) (fun h => ?_) <;> set_option smartUnfolding false in conv => whnf
  · replace h : i < cas.length := by have := dT h; rw [V.pvL_len] at this; simpa using this
    obtain ⟨⟨k', n', ts'⟩, hv, hge, _, hde⟩ := V.get_pvL h
    have hsf := isSelf_det (.mk k' n' ts') d vs
    rw [V.pv_mk] at hge hsf
    rw [hde, List.map_cons, boolsP_cons] at hs
    refine ⟨V.ag k' n' ts', ⟨by simp, by simpa using hge⟩, ?_⟩
    set_option smartUnfolding false in conv => whnf
    refine ⟨Dt.ag nm vs cs, ⟨by omega, hg⟩, ?_⟩
    set_option smartUnfolding false in conv => whnf
    refine acall_det (ps := [V.ag k' n' ts', .int .i64 d, .int .i64 vs]) hsf ?_
    set_option smartUnfolding false in conv => whnf
    refine ⟨Nat.le_refl 1, ?_⟩
    set_option smartUnfolding false in conv => whnf
    cases ps with
    | nil =>
      set_option smartUnfolding false in conv => whnf
      refine ⟨⟨⟨by decide, by decide⟩, by decide⟩, ?_⟩
      set_option smartUnfolding false in conv => whnf
      exact ⟨(i + 1, [] ++ [.bool (isSelf d vs (.mk k' n' ts'))]), ⟨h, hs, by simp at hpl ⊢; omega⟩, weak_ren [3] 4 (by kernel_rfl) (blk (by kernel_rfl) trivial) ⟨(by kernel_rfl), (by kernel_rfl), (by kernel_rfl), (by kernel_rfl), (by kernel_rfl), sUp h hl, trivial⟩, subUp h⟩
    | cons p ps =>
      set_option smartUnfolding false in conv => whnf
      simp only [List.length_cons] at hpl
      refine ⟨⟨⟨by simp [pvs_len], by simp only [Nat.succ_eq_add_one]; omega⟩, by rw [show ((S.E 0).te 4).bytes = 1 from rfl]; simp only [Nat.succ_eq_add_one]; omega⟩, ?_⟩
      set_option smartUnfolding false in conv => whnf
      exact ⟨(i + 1, (p :: ps) ++ [.bool (isSelf d vs (.mk k' n' ts'))]), ⟨h, by rw [← hs]; simp, by simp; omega⟩, weak_ren [3] 4 (by kernel_rfl) (blkR_snoc (by kernel_rfl) trivial) ⟨(by kernel_rfl), (by kernel_rfl), by simp only [lsV_snoc]; kernel_rfl, (by kernel_rfl), (by kernel_rfl), sUp h hl, trivial⟩, subUp h⟩
  · replace h : ¬ i < cas.length := by have := dF h; rw [V.pvL_len] at this; simpa using this
    rw [List.drop_of_length_le (by omega), List.map_nil, boolsP_nil, List.append_nil] at hs
    rw [← hs]
    exact rd_ls (k := 0) rfl trivial rfl
end Go.AM

set_option linter.all false
set_option maxRecDepth 20000
set_option maxHeartbeats 2000000
namespace Go.AM
open Go.Proofs



theorem trec_det {D : List Dt} (hD : DOK D) (d c : Int) : Det Tryz.prog 29 [.lst 3 (Dt.pvL D), .int .i64 d, .int .i64 c] (.lst 1 (boolsP (recS D d c))) := by
  generalize hR : PV.lst 1 (boolsP (recS D d c)) = R
  refine det_of_vc' (E := S.E 0) rfl fol Tryz.func29 rfl rfl (slots := [6]) rfl rfl fun hw => ?_
  set_option smartUnfolding false in conv => whnf
  have no : conAt D d c = Option.none → .lst 1 [] = R := fun h => by rw [← hR, recS, h]; rfl
  refine br_intro (fun h2 => ?_) (fun h2 => ?_) <;> set_option smartUnfolding false in conv => whnf
  · have h2 := dT h2
    rw [← no (by rw [conAt, if_neg (by omega)])]; exact .le (.nils 1)
  have h2 := dF h2
  refine br_intro (fun h3 => ?_) (fun h3 => ?_) <;> set_option smartUnfolding false in conv => whnf
  · have h3 := dT h3
    rw [Dt.pvL_len] at h3
    rw [← no (by rw [conAt, List.getElem?_eq_none (by omega)]; split <;> rfl)]; exact .le (.nils 1)
  have h3 := dF h3
  rw [Dt.pvL_len] at h3
  obtain ⟨nm, vs, cs, hd, hg, hg2, _⟩ := Dt.get_pvL (l := D) (i := d.toNat) (by omega)
  refine br_intro (fun h5 => ?_) (fun h5 => ?_) <;> set_option smartUnfolding false in conv => whnf
  · have h5 := dT h5
    rw [← no (by rw [conAt, if_neg (by omega)])]; exact .le (.nils 1)
  have h5 := dF h5
  refine ⟨Dt.ag nm vs cs, ⟨by omega, hg⟩, ?_⟩
  set_option smartUnfolding false in conv => whnf
  refine br_intro (fun h6 => ?_) (fun h6 => ?_) <;> set_option smartUnfolding false in conv => whnf
  · have h6 := dT h6
    rw [Cn.pvL_len] at h6
    rw [← no (by simp only [conAt, hg2]; rw [List.getElem?_eq_none (by omega)]; simp)]; exact .le (.nils 1)
  have h6 := dF h6
  rw [Cn.pvL_len] at h6
  obtain ⟨cn, cas, hc, hcg, hcg2, _⟩ := Cn.get_pvL (l := cs) (i := c.toNat) (by omega)
  have hcl := hD.args _ hd _ hc
  simp only at hcl
  have ec : conAt D d c = some (vs, ⟨cn, cas⟩) := by simp only [conAt, hg2, hcg2]; rw [if_pos (by omega)]
  rw [recS, ec] at hR
  simp only at hR
  refine ⟨Dt.ag nm vs cs, ⟨by omega, hg⟩, ?_⟩
  set_option smartUnfolding false in conv => whnf
  refine ⟨Cn.ag cn cas, ⟨by omega, hcg⟩, ?_⟩
  set_option smartUnfolding false in conv => whnf
  have hl : cas.length ≤ 9223372036854775807 := by omega
  refine vloop_intro (σ := Nat × List PV) (fun x => x.1 ≤ cas.length ∧ .lst 1 (x.2 ++ boolsP ((cas.drop x.1).map (isSelf d vs))) = R ∧ x.2.length = x.1) (fun x => [(0, .pv (.lst 3 (Dt.pvL D))), (1, .pv (.int .i64 d)), (7, lsV 0 x.2), (43, .pv (.lst 3 (V.pvL cas))), (44, .pv (.int .i64 (V.pvL cas).length)), (45, .pv (.int .i64 x.1))])
    (fun x => [lsB 4 1 x.2])
    (fun x => cas.length - x.1) (0, []) ⟨by simp, by simpa using hR, rfl⟩ (weak_ren [0] 1 (by kernel_rfl) (blkD trivial) ⟨(by kernel_rfl), (by kernel_rfl), (by kernel_rfl), (by kernel_rfl), (by kernel_rfl), (by kernel_rfl), trivial⟩) ?_
  rintro ⟨i, ps⟩ ⟨hi, hs, hpl⟩
  simp only at hi hs hpl
  set_option smartUnfolding false in conv => whnf
  refine br_intro (fun h => ?_) (fun h => ?_) <;> set_option smartUnfolding false in conv => whnf
  · replace h : i < cas.length := by have := dT h; rw [V.pvL_len] at this; simpa using this
    refine V.get_elim h fun k' n' ts' hv hge _ hde => ?_
    rw [hde, List.map_cons, boolsP_cons] at hs
    refine ⟨V.ag k' n' ts', ⟨by simp, by simpa using hge⟩, ?_⟩
    set_option smartUnfolding false in conv => whnf
    have hl' : ts'.length ≤ 9223372036854775807 := by
      have h1 := hD.arg _ hd _ hc _ hv
      have h2 := V.len_cntL ts'
      rw [V.cnt_mk] at h1
      omega
    have hsm := isSelf_mk d vs k' n' ts'
    refine br_intro (fun g1 => ?_) (fun g1 => ?_) <;> set_option smartUnfolding false in conv => whnf
    · refine br_intro (fun g2 => ?_) (fun g2 => ?_) <;> set_option smartUnfolding false in conv => whnf
      · refine ⟨Dt.ag nm vs cs, ⟨by omega, hg⟩, ?_⟩
        set_option smartUnfolding false in conv => whnf
        refine vloop_intro (σ := Nat × Bool) (fun x => x.1 ≤ ts'.length ∧ (x.2 && selfArgs (ts'.drop x.1) x.1) = isSelf d vs (.mk k' n' ts')) (fun x => [(0, .pv (.lst 3 (Dt.pvL D))), (1, .pv (.int .i64 d)), (7, lsV 0 ps), (43, .pv (.lst 3 (V.pvL cas))), (44, .pv (.int .i64 (V.pvL cas).length)), (45, .pv (.int .i64 i)), (10, .pv (.bool x.2)), (70, .pv (.lst 3 (V.pvL ts'))), (71, .pv (.int .i64 (V.pvL ts').length)), (72, .pv (.int .i64 x.1))])
          (fun x => [lsB 4 1 ps]) (fun x => ts'.length - x.1) (0, decide (((V.pvL ts').length : Int) = vs)) ⟨by simp, (by rw [hsm, g1, g2, V.pvL_len]; simp)⟩ (weak_ren [0] 2 (by kernel_rfl) (blkR_ls (by kernel_rfl) trivial) ⟨(by kernel_rfl), (by kernel_rfl), sLs (by kernel_rfl), (by kernel_rfl), (by kernel_rfl), (by kernel_rfl), (by kernel_rfl), (by kernel_rfl), (by kernel_rfl), (by kernel_rfl), trivial⟩) ?_
        rintro ⟨j, b⟩ ⟨hj, hb⟩
        simp only at hj hb
        set_option smartUnfolding false in conv => whnf
        refine br_intro (fun h' => ?_) (fun h' => ?_) <;> set_option smartUnfolding false in conv => whnf
        · replace h' : j < ts'.length := by have := dT h'; rw [V.pvL_len] at this; simpa using this
          refine V.get_elim h' fun k2 n2 ts2 hv2 hg2' _ hd2 => ?_
          rw [hd2, selfArgs_cons] at hb
          refine ⟨V.ag k2 n2 ts2, ⟨by simp, by simpa using hg2'⟩, ?_⟩
          set_option smartUnfolding false in conv => whnf
          refine br_intro (fun e1 => ?_) (fun e1 => ?_) <;> set_option smartUnfolding false in conv => whnf
          · subst e1
            refine br_intro (fun e2 => ?_) (fun e2 => ?_) <;> set_option smartUnfolding false in conv => whnf
            · refine br_intro (fun e3 => ?_) (fun e3 => ?_) <;> set_option smartUnfolding false in conv => whnf
              · refine ⟨(j + 1, decide (((V.pvL ts2).length : Int) = 0)), ⟨h', ?_⟩, weak_ren [0] 3 (by kernel_rfl) (blkR_ls (by kernel_rfl) trivial) ⟨(by kernel_rfl), (by kernel_rfl), sLs (by kernel_rfl), (by kernel_rfl), (by kernel_rfl), (by kernel_rfl), (by kernel_rfl), (by kernel_rfl), (by kernel_rfl), sUp h' hl', trivial⟩, subUp h'⟩
                rw [← hb, e2, e3, V.pvL_len]; simp
              · refine ⟨(j + 1, false), ⟨h', ?_⟩, weak_ren [0] 3 (by kernel_rfl) (blkR_ls (by kernel_rfl) trivial) ⟨(by kernel_rfl), (by kernel_rfl), sLs (by kernel_rfl), (by kernel_rfl), (by kernel_rfl), (by kernel_rfl), (by kernel_rfl), (by kernel_rfl), (by kernel_rfl), sUp h' hl', trivial⟩, subUp h'⟩
                rw [← hb, e3]; simp
            · refine ⟨(j + 1, false), ⟨h', ?_⟩, weak_ren [0] 3 (by kernel_rfl) (blkR_ls (by kernel_rfl) trivial) ⟨(by kernel_rfl), (by kernel_rfl), sLs (by kernel_rfl), (by kernel_rfl), (by kernel_rfl), (by kernel_rfl), (by kernel_rfl), (by kernel_rfl), (by kernel_rfl), sUp h' hl', trivial⟩, subUp h'⟩
              rw [← hb, e2]; simp
          · subst e1
            refine ⟨(j + 1, false), ⟨h', ?_⟩, weak_ren [0] 3 (by kernel_rfl) (blkR_ls (by kernel_rfl) trivial) ⟨(by kernel_rfl), (by kernel_rfl), sLs (by kernel_rfl), (by kernel_rfl), (by kernel_rfl), (by kernel_rfl), (by kernel_rfl), (by kernel_rfl), (by kernel_rfl), sUp h' hl', trivial⟩, subUp h'⟩
            rw [← hb]; simp
        · replace h' : ¬ j < ts'.length := by have := dF h'; rw [V.pvL_len] at this; simpa using this
          rw [List.drop_of_length_le (by omega), selfArgs_nil, Bool.and_true] at hb
          subst hb
          refine ⟨Nat.le_refl 1, ?_⟩
          set_option smartUnfolding false in conv => whnf
          cases ps with
          | nil =>
            set_option smartUnfolding false in conv => whnf
            refine ⟨⟨⟨by decide, by decide⟩, by decide⟩, ?_⟩
            set_option smartUnfolding false in conv => whnf
            exact ⟨(i + 1, [] ++ [.bool (isSelf d vs (.mk k' n' ts'))]), ⟨h, hs, by simp at hpl ⊢; omega⟩, weak_ren [2] 3 (by kernel_rfl) (blk (by kernel_rfl) trivial) ⟨(by kernel_rfl), (by kernel_rfl), (by kernel_rfl), (by kernel_rfl), (by kernel_rfl), sUp h hl, trivial⟩, subUp h⟩
          | cons p ps =>
            set_option smartUnfolding false in conv => whnf
            simp only [List.length_cons] at hpl
            refine ⟨⟨⟨by simp [pvs_len], by simp only [Nat.succ_eq_add_one]; omega⟩, by rw [show ((S.E 0).te 4).bytes = 1 from rfl]; simp only [Nat.succ_eq_add_one]; omega⟩, ?_⟩
            set_option smartUnfolding false in conv => whnf
            exact ⟨(i + 1, (p :: ps) ++ [.bool (isSelf d vs (.mk k' n' ts'))]), ⟨h, by rw [← hs]; simp, by simp; omega⟩, weak_ren [2] 3 (by kernel_rfl) (blkR_snoc (by kernel_rfl) trivial) ⟨(by kernel_rfl), (by kernel_rfl), by simp only [lsV_snoc]; kernel_rfl, (by kernel_rfl), (by kernel_rfl), sUp h hl, trivial⟩, subUp h⟩
      · refine vloop_intro (σ := Nat × Bool) (fun x => x.1 ≤ ts'.length ∧ (x.2 && selfArgs (ts'.drop x.1) x.1) = isSelf d vs (.mk k' n' ts')) (fun x => [(0, .pv (.lst 3 (Dt.pvL D))), (1, .pv (.int .i64 d)), (7, lsV 0 ps), (43, .pv (.lst 3 (V.pvL cas))), (44, .pv (.int .i64 (V.pvL cas).length)), (45, .pv (.int .i64 i)), (10, .pv (.bool x.2)), (70, .pv (.lst 3 (V.pvL ts'))), (71, .pv (.int .i64 (V.pvL ts').length)), (72, .pv (.int .i64 x.1))])
          (fun x => [lsB 4 1 ps]) (fun x => ts'.length - x.1) (0, false) ⟨by simp, (by rw [hsm, g2]; simp)⟩ (weak_ren [0] 2 (by kernel_rfl) (blkR_ls (by kernel_rfl) trivial) ⟨(by kernel_rfl), (by kernel_rfl), sLs (by kernel_rfl), (by kernel_rfl), (by kernel_rfl), (by kernel_rfl), (by kernel_rfl), (by kernel_rfl), (by kernel_rfl), (by kernel_rfl), trivial⟩) ?_
        rintro ⟨j, b⟩ ⟨hj, hb⟩
        simp only at hj hb
        set_option smartUnfolding false in conv => whnf
        refine br_intro (fun h' => ?_) (fun h' => ?_) <;> set_option smartUnfolding false in conv => whnf
        · replace h' : j < ts'.length := by have := dT h'; rw [V.pvL_len] at this; simpa using this
          refine V.get_elim h' fun k2 n2 ts2 hv2 hg2' _ hd2 => ?_
          rw [hd2, selfArgs_cons] at hb
          refine ⟨V.ag k2 n2 ts2, ⟨by simp, by simpa using hg2'⟩, ?_⟩
          set_option smartUnfolding false in conv => whnf
          refine br_intro (fun e1 => ?_) (fun e1 => ?_) <;> set_option smartUnfolding false in conv => whnf
          · subst e1
            refine br_intro (fun e2 => ?_) (fun e2 => ?_) <;> set_option smartUnfolding false in conv => whnf
            · refine br_intro (fun e3 => ?_) (fun e3 => ?_) <;> set_option smartUnfolding false in conv => whnf
              · refine ⟨(j + 1, decide (((V.pvL ts2).length : Int) = 0)), ⟨h', ?_⟩, weak_ren [0] 3 (by kernel_rfl) (blkR_ls (by kernel_rfl) trivial) ⟨(by kernel_rfl), (by kernel_rfl), sLs (by kernel_rfl), (by kernel_rfl), (by kernel_rfl), (by kernel_rfl), (by kernel_rfl), (by kernel_rfl), (by kernel_rfl), sUp h' hl', trivial⟩, subUp h'⟩
                rw [← hb, e2, e3, V.pvL_len]; simp
              · refine ⟨(j + 1, false), ⟨h', ?_⟩, weak_ren [0] 3 (by kernel_rfl) (blkR_ls (by kernel_rfl) trivial) ⟨(by kernel_rfl), (by kernel_rfl), sLs (by kernel_rfl), (by kernel_rfl), (by kernel_rfl), (by kernel_rfl), (by kernel_rfl), (by kernel_rfl), (by kernel_rfl), sUp h' hl', trivial⟩, subUp h'⟩
                rw [← hb, e3]; simp
            · refine ⟨(j + 1, false), ⟨h', ?_⟩, weak_ren [0] 3 (by kernel_rfl) (blkR_ls (by kernel_rfl) trivial) ⟨(by kernel_rfl), (by kernel_rfl), sLs (by kernel_rfl), (by kernel_rfl), (by kernel_rfl), (by kernel_rfl), (by kernel_rfl), (by kernel_rfl), (by kernel_rfl), sUp h' hl', trivial⟩, subUp h'⟩
              rw [← hb, e2]; simp
          · subst e1
            refine ⟨(j + 1, false), ⟨h', ?_⟩, weak_ren [0] 3 (by kernel_rfl) (blkR_ls (by kernel_rfl) trivial) ⟨(by kernel_rfl), (by kernel_rfl), sLs (by kernel_rfl), (by kernel_rfl), (by kernel_rfl), (by kernel_rfl), (by kernel_rfl), (by kernel_rfl), (by kernel_rfl), sUp h' hl', trivial⟩, subUp h'⟩
            rw [← hb]; simp
        · replace h' : ¬ j < ts'.length := by have := dF h'; rw [V.pvL_len] at this; simpa using this
          rw [List.drop_of_length_le (by omega), selfArgs_nil, Bool.and_true] at hb
          subst hb
          refine ⟨Nat.le_refl 1, ?_⟩
          set_option smartUnfolding false in conv => whnf
          cases ps with
          | nil =>
            set_option smartUnfolding false in conv => whnf
            refine ⟨⟨⟨by decide, by decide⟩, by decide⟩, ?_⟩
            set_option smartUnfolding false in conv => whnf
            exact ⟨(i + 1, [] ++ [.bool (isSelf d vs (.mk k' n' ts'))]), ⟨h, hs, by simp at hpl ⊢; omega⟩, weak_ren [2] 3 (by kernel_rfl) (blk (by kernel_rfl) trivial) ⟨(by kernel_rfl), (by kernel_rfl), (by kernel_rfl), (by kernel_rfl), (by kernel_rfl), sUp h hl, trivial⟩, subUp h⟩
          | cons p ps =>
            set_option smartUnfolding false in conv => whnf
            simp only [List.length_cons] at hpl
            refine ⟨⟨⟨by simp [pvs_len], by simp only [Nat.succ_eq_add_one]; omega⟩, by rw [show ((S.E 0).te 4).bytes = 1 from rfl]; simp only [Nat.succ_eq_add_one]; omega⟩, ?_⟩
            set_option smartUnfolding false in conv => whnf
            exact ⟨(i + 1, (p :: ps) ++ [.bool (isSelf d vs (.mk k' n' ts'))]), ⟨h, by rw [← hs]; simp, by simp; omega⟩, weak_ren [2] 3 (by kernel_rfl) (blkR_snoc (by kernel_rfl) trivial) ⟨(by kernel_rfl), (by kernel_rfl), by simp only [lsV_snoc]; kernel_rfl, (by kernel_rfl), (by kernel_rfl), sUp h hl, trivial⟩, subUp h⟩
    · refine vloop_intro (σ := Nat × Bool) (fun x => x.1 ≤ ts'.length ∧ (x.2 && selfArgs (ts'.drop x.1) x.1) = isSelf d vs (.mk k' n' ts')) (fun x => [(0, .pv (.lst 3 (Dt.pvL D))), (1, .pv (.int .i64 d)), (7, lsV 0 ps), (43, .pv (.lst 3 (V.pvL cas))), (44, .pv (.int .i64 (V.pvL cas).length)), (45, .pv (.int .i64 i)), (10, .pv (.bool x.2)), (70, .pv (.lst 3 (V.pvL ts'))), (71, .pv (.int .i64 (V.pvL ts').length)), (72, .pv (.int .i64 x.1))])
        (fun x => [lsB 4 1 ps]) (fun x => ts'.length - x.1) (0, false) ⟨by simp, (by rw [hsm, g1]; simp)⟩ (weak_ren [0] 2 (by kernel_rfl) (blkR_ls (by kernel_rfl) trivial) ⟨(by kernel_rfl), (by kernel_rfl), sLs (by kernel_rfl), (by kernel_rfl), (by kernel_rfl), (by kernel_rfl), (by kernel_rfl), (by kernel_rfl), (by kernel_rfl), (by kernel_rfl), trivial⟩) ?_
      rintro ⟨j, b⟩ ⟨hj, hb⟩
      simp only at hj hb
      set_option smartUnfolding false in conv => whnf
      refine br_intro (fun h' => ?_) (fun h' => ?_) <;> set_option smartUnfolding false in conv => whnf
      · replace h' : j < ts'.length := by have := dT h'; rw [V.pvL_len] at this; simpa using this
        refine V.get_elim h' fun k2 n2 ts2 hv2 hg2' _ hd2 => ?_
        rw [hd2, selfArgs_cons] at hb
        refine ⟨V.ag k2 n2 ts2, ⟨by simp, by simpa using hg2'⟩, ?_⟩
        set_option smartUnfolding false in conv => whnf
        refine br_intro (fun e1 => ?_) (fun e1 => ?_) <;> set_option smartUnfolding false in conv => whnf
        · subst e1
          refine br_intro (fun e2 => ?_) (fun e2 => ?_) <;> set_option smartUnfolding false in conv => whnf
          · refine br_intro (fun e3 => ?_) (fun e3 => ?_) <;> set_option smartUnfolding false in conv => whnf
            · refine ⟨(j + 1, decide (((V.pvL ts2).length : Int) = 0)), ⟨h', ?_⟩, weak_ren [0] 3 (by kernel_rfl) (blkR_ls (by kernel_rfl) trivial) ⟨(by kernel_rfl), (by kernel_rfl), sLs (by kernel_rfl), (by kernel_rfl), (by kernel_rfl), (by kernel_rfl), (by kernel_rfl), (by kernel_rfl), (by kernel_rfl), sUp h' hl', trivial⟩, subUp h'⟩
              rw [← hb, e2, e3, V.pvL_len]; simp
            · refine ⟨(j + 1, false), ⟨h', ?_⟩, weak_ren [0] 3 (by kernel_rfl) (blkR_ls (by kernel_rfl) trivial) ⟨(by kernel_rfl), (by kernel_rfl), sLs (by kernel_rfl), (by kernel_rfl), (by kernel_rfl), (by kernel_rfl), (by kernel_rfl), (by kernel_rfl), (by kernel_rfl), sUp h' hl', trivial⟩, subUp h'⟩
              rw [← hb, e3]; simp
          · refine ⟨(j + 1, false), ⟨h', ?_⟩, weak_ren [0] 3 (by kernel_rfl) (blkR_ls (by kernel_rfl) trivial) ⟨(by kernel_rfl), (by kernel_rfl), sLs (by kernel_rfl), (by kernel_rfl), (by kernel_rfl), (by kernel_rfl), (by kernel_rfl), (by kernel_rfl), (by kernel_rfl), sUp h' hl', trivial⟩, subUp h'⟩
            rw [← hb, e2]; simp
        · subst e1
          refine ⟨(j + 1, false), ⟨h', ?_⟩, weak_ren [0] 3 (by kernel_rfl) (blkR_ls (by kernel_rfl) trivial) ⟨(by kernel_rfl), (by kernel_rfl), sLs (by kernel_rfl), (by kernel_rfl), (by kernel_rfl), (by kernel_rfl), (by kernel_rfl), (by kernel_rfl), (by kernel_rfl), sUp h' hl', trivial⟩, subUp h'⟩
          rw [← hb]; simp
      · replace h' : ¬ j < ts'.length := by have := dF h'; rw [V.pvL_len] at this; simpa using this
        rw [List.drop_of_length_le (by omega), selfArgs_nil, Bool.and_true] at hb
        subst hb
        refine ⟨Nat.le_refl 1, ?_⟩
        set_option smartUnfolding false in conv => whnf
        cases ps with
        | nil =>
          set_option smartUnfolding false in conv => whnf
          refine ⟨⟨⟨by decide, by decide⟩, by decide⟩, ?_⟩
          set_option smartUnfolding false in conv => whnf
          exact ⟨(i + 1, [] ++ [.bool (isSelf d vs (.mk k' n' ts'))]), ⟨h, hs, by simp at hpl ⊢; omega⟩, weak_ren [2] 3 (by kernel_rfl) (blk (by kernel_rfl) trivial) ⟨(by kernel_rfl), (by kernel_rfl), (by kernel_rfl), (by kernel_rfl), (by kernel_rfl), sUp h hl, trivial⟩, subUp h⟩
        | cons p ps =>
          set_option smartUnfolding false in conv => whnf
          simp only [List.length_cons] at hpl
          refine ⟨⟨⟨by simp [pvs_len], by simp only [Nat.succ_eq_add_one]; omega⟩, by rw [show ((S.E 0).te 4).bytes = 1 from rfl]; simp only [Nat.succ_eq_add_one]; omega⟩, ?_⟩
          set_option smartUnfolding false in conv => whnf
          exact ⟨(i + 1, (p :: ps) ++ [.bool (isSelf d vs (.mk k' n' ts'))]), ⟨h, by rw [← hs]; simp, by simp; omega⟩, weak_ren [2] 3 (by kernel_rfl) (blkR_snoc (by kernel_rfl) trivial) ⟨(by kernel_rfl), (by kernel_rfl), by simp only [lsV_snoc]; kernel_rfl, (by kernel_rfl), (by kernel_rfl), sUp h hl, trivial⟩, subUp h⟩
  · replace h : ¬ i < cas.length := by have := dF h; rw [V.pvL_len] at this; simpa using this
    rw [List.drop_of_length_le (by omega), List.map_nil, boolsP_nil, List.append_nil] at hs
    rw [← hs]
    exact rd_ls (k := 0) rfl trivial rfl
end Go.AM

set_option linter.all false
set_option maxRecDepth 20000
set_option maxHeartbeats 2000000
namespace Go.AM
open Go.Proofs

/-! ### A type that mentions a declaration -/
mutual
def V.ment (d : Int) : V → Bool
  | .mk k n ts => (decide (k = 5) && decide (n = d)) || V.mentL d ts
def V.mentL (d : Int) : List V → Bool
  | [] => false
  | t :: l => V.ment d t || V.mentL d l
end
theorem V.ment_mk (d k n : Int) (ts : List V) : V.ment d (.mk k n ts) = ((decide (k = 5) && decide (n = d)) || V.mentL d ts) := by rw [V.ment]
theorem V.mentL_nil (d : Int) : V.mentL d [] = false := by rw [V.mentL]
theorem V.mentL_cons (d : Int) (t : V) (l : List V) : V.mentL d (t :: l) = (V.ment d t || V.mentL d l) := by rw [V.mentL]
theorem V.mentL_any (d : Int) : ∀ l : List V, (l.any fun t => V.ment d t) = V.mentL d l
  | [] => by rw [V.mentL_nil]; rfl
  | t :: l => by rw [V.mentL_cons, ← V.mentL_any d l]; simp
attribute [irreducible] V.ment V.mentL

theorem ment1_of (d : Int) (t : V) (h : Det Tryz.prog 71 [t.pv, .int .i64 d] (.bool (V.ment d t))) : Det Tryz.prog 110 [t.pv, .cp [.int .i64 d]] (.bool (V.ment d t)) := by
  obtain ⟨k, n, ts⟩ := t
  rw [V.pv_mk] at h ⊢
  refine det_of_vc' (E := S.E 0) rfl fol Tryz.func110 rfl rfl (slots := [3]) rfl rfl fun hw => ?_
  set_option smartUnfolding false in conv => whnf
  refine acall_det (ps := [V.ag k n ts, .int .i64 d]) h ?_
  set_option smartUnfolding false in conv => whnf
  exact rdB rfl
theorem ment_det (d : Int) (t : V) : Det Tryz.prog 71 [t.pv, .int .i64 d] (.bool (V.ment d t)) := by
  refine V.recOn' (p := fun t => Det Tryz.prog 71 [t.pv, .int .i64 d] (.bool (V.ment d t))) (fun k n ts ih => ?_) t
  have hc := hasT_det ts 110 [.cp [.int .i64 d]] (fun t => V.ment d t) fun t ht => ment1_of d t (ih t ht)
  rw [V.pv_mk, V.ment_mk, ← V.mentL_any]
  refine det_of_vc' (E := S.E 0) rfl fol Tryz.func71 rfl rfl (slots := [4]) rfl rfl fun hw => ?_
  set_option smartUnfolding false in conv => whnf
  refine br_intro (fun h1 => ?_) (fun h1 => ?_) <;> set_option smartUnfolding false in conv => whnf
  · refine br_intro (fun h2 => ?_) (fun h2 => ?_) <;> set_option smartUnfolding false in conv => whnf
    · exact rdB (by rw [h1, h2]; rfl)
    · refine acall_intro (adet_read (S := [1]) hc (.cons (.pv _) (.cons (.fn (.cons (.bp (.head _) rfl (.cons (.pv _) .nil)) .nil)) .nil)) rfl) ?_
      set_option smartUnfolding false in conv => whnf
      refine rdB ?_
      rw [h1, h2]; rfl
  · refine acall_intro (adet_read (S := [1]) hc (.cons (.pv _) (.cons (.fn (.cons (.bp (.head _) rfl (.cons (.pv _) .nil)) .nil)) .nil)) rfl) ?_
    set_option smartUnfolding false in conv => whnf
    refine rdB ?_
    rw [h1]; rfl

/-! ### Lists of names -/
theorem strs_elim {P : Prop} {l : List ByteArray} {i : Nat} (h : i < l.length) (k : ∀ a, (strsP l)[i]? = some (.str a) → l[i]? = some a → l.drop i = a :: l.drop (i + 1) → P) : P := by
  obtain ⟨a, hga, hda⟩ := strsP_get h
  have ha : l[i]? = some a := by
    have := congrArg (fun x => x[0]?) hda
    simpa [List.getElem?_drop] using this
  exact k a hga ha hda
open Classical in
/-- No name twice. -/
noncomputable def ndup (l : List ByteArray) : Bool := decide l.Nodup
theorem ndup_iff {l : List ByteArray} : ndup l = true ↔ l.Nodup := by simp [ndup]
theorem ndup_not {l : List ByteArray} (h : ¬ l.Nodup) : ndup l = false := by simp [ndup, h]
theorem repeats_det (l : List ByteArray) : Det Tryz.prog 56 [.lst 1 (strsP l)] (.bool (!ndup l)) := by
  generalize hR : (!ndup l) = R
  refine det_of_vc' (E := S.E 0) rfl fol Tryz.func56 rfl rfl (slots := [2]) rfl rfl fun hw => ?_
  have hl : l.length ≤ 9223372036854775807 := by have := hw.1.1; rwa [strsP_len] at this
  set_option smartUnfolding false in conv => whnf
  refine vloop_intro (σ := Nat) (fun i => i ≤ l.length ∧ (l.take i).Nodup) (fun i => [(0, .pv (.lst 1 (strsP l))), (3, .pv (.int .i64 i))]) (fun _ => []) (fun i => l.length - i) 0 ⟨by simp, by simp⟩ (weak_bare rfl ⟨(by kernel_rfl), (by kernel_rfl), trivial⟩) ?_
  rintro i ⟨hi, hn⟩
  set_option smartUnfolding false in conv => whnf
  refine br_intro (fun h => ?_) (fun h => ?_) <;> set_option smartUnfolding false in conv => whnf
  · replace h : i < l.length := by have := dT h; rw [strsP_len] at this; simpa using this
    refine strs_elim h fun a hga ha hda => ?_
    refine vloop_intro (σ := Nat) (fun j => j ≤ i ∧ ∀ k b, k < j → l[k]? = some b → ¬ b = a) (fun j => [(0, .pv (.lst 1 (strsP l))), (3, .pv (.int .i64 i)), (4, .pv (.int .i64 j))]) (fun _ => []) (fun j => i - j) 0 ⟨by simp, by omega⟩ (weak_bare rfl ⟨(by kernel_rfl), (by kernel_rfl), (by kernel_rfl), trivial⟩) ?_
    rintro j ⟨hj, hjn⟩
    set_option smartUnfolding false in conv => whnf
    refine br_intro (fun g => ?_) (fun g => ?_) <;> set_option smartUnfolding false in conv => whnf
    · have g := dT g
      refine strs_elim (l := l) (i := j) (by omega) fun b hgb hb hdb => ?_
      refine ⟨.str a, ⟨by omega, by simpa using hga⟩, ?_⟩
      set_option smartUnfolding false in conv => whnf
      refine ⟨.str b, ⟨by omega, by simpa using hgb⟩, ?_⟩
      set_option smartUnfolding false in conv => whnf
      refine br_intro (fun c => ?_) (fun c => ?_) <;> set_option smartUnfolding false in conv => whnf
      · refine rdB ?_
        have e : a = b := ba_toList (by simpa using c)
        rw [← hR, ndup_not, Bool.not_false]
        intro hnd
        rw [← e] at hb
        have := List.getElem_inj (i := i) (j := j) (h₀ := h) (h₁ := by omega) hnd
        have e2 : l[i] = l[j]'(by omega) := by
          rw [List.getElem?_eq_getElem h] at ha
          rw [List.getElem?_eq_getElem (by omega)] at hb
          rw [Option.some.inj ha, Option.some.inj hb]
        have := this.1 e2
        omega
      · refine ⟨j + 1, ⟨by omega, fun k b' hk hb' => ?_⟩, weak_bare rfl ⟨(by kernel_rfl), (by kernel_rfl), sUp (n := i) (by omega) (by omega), trivial⟩, by show i - (j + 1) < i - j; omega⟩
        by_cases e : k = j
        · subst e
          rw [hb] at hb'
          cases hb'
          rintro rfl
          simp at c
        · exact hjn k b' (by omega) hb'
    · have g := dF g
      have hji : j = i := by omega
      refine ⟨i + 1, ⟨by omega, ?_⟩, weak_bare rfl ⟨(by kernel_rfl), sUp h hl, trivial⟩, subUp h⟩
      rw [hji] at hjn
      rw [List.take_add_one, ha]
      simp only [Option.toList_some]
      rw [List.nodup_append]
      refine ⟨hn, by simp, ?_⟩
      intro x hx y hy
      simp only [List.mem_singleton] at hy
      subst hy
      obtain ⟨k, hk⟩ := List.mem_iff_getElem?.1 hx
      rw [List.getElem?_take] at hk
      split at hk
      · exact hjn k x (by assumption) hk
      · cases hk
  · replace h : ¬ i < l.length := by have := dF h; rw [strsP_len] at this; simpa using this
    rw [List.take_of_length_le (by omega)] at hn
    exact rdB (by rw [← hR, ndup_iff.2 hn]; rfl)
end Go.AM

set_option linter.all false
set_option maxRecDepth 20000
set_option maxHeartbeats 2000000
namespace Go.AM
open Go.Proofs

/-! ### Valid data types: the plain law -/
def argR (D : List Dt) (d : Nat) (vars : Int) (t : V) : Bool := isSelf d vars t || V.okW (D.take d) vars t
def argsR (D : List Dt) (d : Nat) (vars : Int) : List V → Bool
  | [] => true
  | t :: l => argR D d vars t && argsR D d vars l
noncomputable def consR (D : List Dt) (d : Nat) (vars : Int) : List Cn → Bool
  | [] => true
  | c :: l => (upName c.name && decide (c.args.length ≤ 6) && argsR D d vars c.args) && consR D d vars l
noncomputable def decsR (D : List Dt) : Nat → List Dt → Bool
  | _, [] => true
  | d, x :: l => (decide (0 ≤ x.vars) && decide (x.vars ≤ 6) && decide (1 ≤ x.cons.length) && decide (x.cons.length ≤ 8) && upName x.name && consR D d x.vars x.cons) && decsR D (d + 1) l
theorem argsR_nil (D : List Dt) (d : Nat) (vars : Int) : argsR D d vars [] = true := rfl
theorem argsR_cons (D : List Dt) (d : Nat) (vars : Int) (t : V) (l : List V) : argsR D d vars (t :: l) = (argR D d vars t && argsR D d vars l) := rfl
theorem consR_nil (D : List Dt) (d : Nat) (vars : Int) : consR D d vars [] = true := rfl
theorem consR_cons (D : List Dt) (d : Nat) (vars : Int) (c : Cn) (l : List Cn) : consR D d vars (c :: l) = ((upName c.name && decide (c.args.length ≤ 6) && argsR D d vars c.args) && consR D d vars l) := rfl
theorem decsR_nil (D : List Dt) (d : Nat) : decsR D d [] = true := rfl
theorem decsR_cons (D : List Dt) (d : Nat) (x : Dt) (l : List Dt) : decsR D d (x :: l) = ((decide (0 ≤ x.vars) && decide (x.vars ≤ 6) && decide (1 ≤ x.cons.length) && decide (x.cons.length ≤ 8) && upName x.name && consR D d x.vars x.cons) && decsR D (d + 1) l) := rfl
def namesOf (D : List Dt) : List ByteArray := D.map (·.name)
def cnamesOf (D : List Dt) : List ByteArray := D.flatMap fun x => x.cons.map (·.name)
noncomputable def dvalid (D : List Dt) : Bool := decide (D.length ≤ 12) && (decsR D 0 D && (ndup (namesOf D) && ndup (cnamesOf D)))
attribute [irreducible] argsR consR decsR argR
structure DN (D : List Dt) : Prop where
  name : ∀ d ∈ D, d.name.size ≤ 10000
  cname : ∀ d ∈ D, ∀ c ∈ d.cons, c.name.size ≤ 10000

/-- Types over one declaration more. -/
theorem shape_take {D : List Dt} {d : Nat} {vars k n : Int} (h : ¬ (k = 5 ∧ n = d)) : V.shape (D.take (d + 1)) vars k n = V.shape (D.take d) vars k n ∨ n < 0 := by
  by_cases hn : n < 0
  · exact .inr hn
  · left
    unfold V.shape
    split
    · rfl
    split
    · rfl
    split
    · rename_i h5
      have hne : n.toNat ≠ d := fun e => h ⟨h5, by omega⟩
      have : (D.take (d + 1))[n.toNat]? = (D.take d)[n.toNat]? := by
        rw [List.getElem?_take, List.getElem?_take]
        by_cases hlt : n.toNat < d
        · rw [if_pos (by omega), if_pos hlt]
        · rw [if_neg (by omega), if_neg hlt]
      rw [this]
    · rfl
theorem okT_neg {D D' : List Dt} {vars k n : Int} {ts : List V} (hn : n < 0) : V.okT D vars (.mk k n ts) = false := by
  rw [V.okT_mk]
  unfold V.shape
  split
  · rename_i b lo hi h
    split at h
    · cases h; simp; omega
    split at h
    · cases h; simp; omega
    split at h
    · split at h <;> cases h; simp; omega
    split at h
    · cases h; simp; omega
    split at h
    · cases h; simp; omega
    split at h
    · cases h; simp; omega
    · cases h
  · rfl
mutual
theorem okT_take {D : List Dt} {d : Nat} {vars : Int} : ∀ t : V, V.ment d t = false → V.okT (D.take (d + 1)) vars t = V.okT (D.take d) vars t
  | .mk k n ts, h => by
    rw [V.ment_mk] at h
    simp only [Bool.or_eq_false_iff, Bool.and_eq_false_iff, decide_eq_false_iff_not] at h
    have hk : ¬ (k = 5 ∧ n = d) := fun e => h.1.elim (fun x => x e.1) (fun x => x e.2)
    rcases shape_take (D := D) (vars := vars) hk with hs | hn
    · rw [V.okT_mk, V.okT_mk, hs, okTL_take ts h.2]
    · rw [okT_neg (D' := []) hn, okT_neg (D' := []) hn]
theorem okTL_take {D : List Dt} {d : Nat} {vars : Int} : ∀ l : List V, V.mentL d l = false → V.okTL (D.take (d + 1)) vars l = V.okTL (D.take d) vars l
  | [], _ => by rw [V.okTL_nil, V.okTL_nil]
  | t :: l, h => by
    rw [V.mentL_cons] at h
    simp only [Bool.or_eq_false_iff] at h
    rw [V.okTL_cons, V.okTL_cons, okT_take t h.1, okTL_take l h.2]
end
mutual
theorem ment_of_ok {D : List Dt} {d : Nat} {vars : Int} : ∀ t : V, V.okT (D.take d) vars t = true → V.ment d t = false
  | .mk k n ts, h => by
    rw [V.ment_mk]
    have hts : V.okTL (D.take d) vars ts = true := by
      rw [V.okT_mk] at h
      split at h
      · simp only [Bool.and_eq_true] at h; exact h.2
      · cases h
    rw [mentL_of_ok ts hts, Bool.or_false]
    by_cases hk : k = 5 ∧ n = d
    · exfalso
      rw [V.okT_mk] at h
      have : V.shape (D.take d) vars k n = Option.none := by
        unfold V.shape
        rw [if_neg (by omega), if_neg (by omega), if_pos hk.1, List.getElem?_take, if_neg (by omega)]
      rw [this] at h
      cases h
    · simp only [Bool.and_eq_false_iff, decide_eq_false_iff_not]
      by_cases h5 : k = 5
      · exact .inr fun e => hk ⟨h5, e⟩
      · exact .inl h5
theorem mentL_of_ok {D : List Dt} {d : Nat} {vars : Int} : ∀ l : List V, V.okTL (D.take d) vars l = true → V.mentL d l = false
  | [], _ => V.mentL_nil _
  | t :: l, h => by
    rw [V.okTL_cons] at h
    simp only [Bool.and_eq_true] at h
    rw [V.mentL_cons, ment_of_ok t h.1, mentL_of_ok l h.2]; rfl
end
theorem self_args {D : List Dt} {vars : Int} : ∀ (l : List V) (i : Nat), selfArgs l i = true → (i : Int) + l.length ≤ vars → V.okTL D vars l = true ∧ V.cntL l = l.length
  | [], i, _, _ => ⟨V.okTL_nil _ _, V.cntL_nil⟩
  | .mk k n us :: l, i, h, hl => by
    rw [selfArgs_cons] at h
    simp only [Bool.and_eq_true, decide_eq_true_eq, List.length_cons] at h hl
    have := self_args (D := D) (vars := vars) l (i + 1) h.2 (by omega)
    have hu : us = [] := List.eq_nil_of_length_eq_zero (by omega)
    subst hu
    obtain ⟨⟨⟨rfl, rfl⟩, _⟩, _⟩ := h
    refine ⟨?_, ?_⟩
    · rw [V.okTL_cons, this.1, Bool.and_true, V.okT_mk]
      have : V.shape D vars 4 i = some (true, 0, 0) := by
        unfold V.shape
        rw [if_neg (by omega), if_pos rfl, decide_eq_true (by omega), decide_eq_true (by omega)]; rfl
      rw [this]
      simp [V.okTL_nil]
    · rw [V.cntL_cons, V.cnt_mk, V.cntL_nil, this.2]; simp; omega
theorem arg_eq {D : List Dt} {d : Nat} {x : Dt} (hd : D[d]? = some x) (h6 : x.vars ≤ 6) (t : V) : (V.okW (D.take (d + 1)) x.vars t && (isSelf d x.vars t || !V.ment d t)) = argR D d x.vars t := by
  unfold argR
  cases hs : isSelf d x.vars t with
  | true =>
    simp only [Bool.true_or, Bool.and_true]
    obtain ⟨k, n, ts⟩ := t
    rw [isSelf_mk] at hs
    simp only [Bool.and_eq_true, decide_eq_true_eq] at hs
    obtain ⟨⟨⟨rfl, rfl⟩, hlen⟩, hsa⟩ := hs
    have h2 := self_args (D := D.take (d + 1)) (vars := x.vars) ts 0 hsa (by omega)
    unfold V.okW
    rw [V.okT_mk]
    have : V.shape (D.take (d + 1)) x.vars 5 (d : Int) = some (true, x.vars, x.vars) := by
      unfold V.shape
      rw [if_neg (by omega), if_neg (by omega), if_pos rfl, Int.toNat_natCast, List.getElem?_take, if_pos (by omega), hd]
      simp
    rw [this, V.cnt_mk, h2.2]
    simp only [h2.1, Bool.true_and, Bool.and_true, Bool.and_eq_true, decide_eq_true_eq]
    omega
  | false =>
    simp only [Bool.false_or]
    unfold V.okW
    cases hm : V.ment d t with
    | false => rw [okT_take t hm]; simp
    | true =>
      simp only [Bool.not_true, Bool.and_false]
      symm
      simp only [Bool.and_eq_false_iff]
      right
      cases ho : V.okT (D.take d) x.vars t with
      | false => rfl
      | true => rw [ment_of_ok t ho] at hm; cases hm
end Go.AM

set_option linter.all false
set_option maxRecDepth 20000
set_option maxHeartbeats 20000000
namespace Go.AM
open Go.Proofs

theorem strsP_cons (a : ByteArray) (l : List ByteArray) : strsP (a :: l) = .str a :: strsP l := by unfold strsP; rfl
theorem strsP_nil : strsP [] = [] := by unfold strsP; rfl
theorem strsP_app (l k : List ByteArray) : strsP (l ++ k) = strsP l ++ strsP k := by unfold strsP; simp
theorem Dt.pvL_take (D : List Dt) (n : Nat) : (Dt.pvL D).take n = Dt.pvL (D.take n) := by unfold Dt.pvL; simp
theorem take_snoc {α : Type} {l : List α} {i : Nat} {a : α} (h : l[i]? = some a) : l.take (i + 1) = l.take i ++ [a] := by rw [List.take_add_one, h]; rfl


theorem validData_r {D : List Dt} (hD : DOK D) (hN : DN D) : Det Tryz.prog 30 [.lst 3 (Dt.pvL D)] (.bool (dvalid D)) := by
  generalize hR : dvalid D = R
  unfold dvalid at hR
  have hDl := hD.len
  refine det_of_vc' (E := S.E 0) rfl fol Tryz.func30 rfl rfl (slots := [2]) rfl rfl fun hw => ?_
  set_option smartUnfolding false in conv => whnf
  refine br_intro (fun h0 => ?_) (fun h0 => ?_) <;> set_option smartUnfolding false in conv => whnf
  · have h0 := dT h0
    rw [Dt.pvL_len] at h0
    exact rdB (by rw [← hR, decide_eq_false (by omega)]; rfl)
  have h0 := dF h0
  rw [Dt.pvL_len] at h0
  rw [decide_eq_true (by omega), Bool.true_and] at hR
  refine vloop_intro (σ := Nat × List PV × List PV) (fun x => x.1 ≤ D.length ∧ (decsR D x.1 (D.drop x.1) && (ndup (namesOf D) && ndup (cnamesOf D))) = R ∧ x.2.1 = strsP (namesOf (D.take x.1)) ∧ x.2.2 = strsP (cnamesOf (D.take x.1)) ∧ x.2.1.length ≤ 1000000 ∧ x.2.2.length ≤ 1000 * x.1) (fun x => [(0, .pv (.lst 3 (Dt.pvL D))), (3, lsV 0 x.2.1), (4, lsV 1 x.2.2), (5, .pv (.int .i64 x.1))])
    (fun x => [lsB 9 1 x.2.1, lsB 9 1 x.2.2]) (fun x => D.length - x.1) (0, [], []) ⟨by simp, hR, by simp [namesOf, strsP_nil], by simp [cnamesOf, strsP_nil], by simp, by simp⟩ (weak_ren [0, 1] 2 (by kernel_rfl) (blkD (blkD trivial)) ⟨(by kernel_rfl), (by kernel_rfl), (by kernel_rfl), (by kernel_rfl), trivial⟩) ?_
  rintro ⟨i, As, Bs⟩ ⟨hi, hs, hA, hB, hAl, hBl⟩
  simp only at hi hs hA hB hAl hBl
  set_option smartUnfolding false in conv => whnf
  refine br_intro (fun h => ?_) (fun h => ?_) <;> set_option smartUnfolding false in conv => whnf
  rotate_left
  · replace h : D.length ≤ i := by have := dF h; rw [Dt.pvL_len] at this; simp only at this; omega
    rw [List.drop_of_length_le h, decsR_nil, Bool.true_and] at hs
    rw [List.take_of_length_le h] at hA hB
    refine acall_intro (adet_read (S := [0]) (repeats_det (namesOf D)) (.cons (rd_lsE (k := 0) (t := 9) hA rfl (.head _) rfl) .nil) rfl) ?_
    set_option smartUnfolding false in conv => whnf
    refine br_intro (fun g => ?_) (fun g => ?_) <;> set_option smartUnfolding false in conv => whnf
    · have g : ndup (namesOf D) = true := by simpa using g
      rw [g, Bool.true_and] at hs
      refine acall_intro (adet_read (S := [1]) (repeats_det (cnamesOf D)) (.cons (rd_lsE (k := 1) (t := 9) hB rfl (.head _) rfl) .nil) rfl) ?_
      set_option smartUnfolding false in conv => whnf
      exact rdB (by rw [← hs]; simp)
    · have g : ndup (namesOf D) = false := by simpa using g
      exact rdB (by rw [← hs, g]; rfl)
  replace h : i < D.length := by have := dT h; rw [Dt.pvL_len] at this; simp only at this; omega
  refine Dt.get_elim h fun nm vs cs hmem hg hg2 hd => ?_
  rw [hd, decsR_cons] at hs
  simp only at hs
  have hNn := hN.name _ hmem
  have hNc := hN.cname _ hmem
  have hDa := hD.arg _ hmem
  have hDl2 := hD.args _ hmem
  simp only at hNn hNc hDa hDl2
  refine ⟨Dt.ag nm vs cs, ⟨(by first | omega | (simp only; omega)), by simpa using hg⟩, ?_⟩
  set_option smartUnfolding false in conv => whnf
  refine br_intro (fun g => ?_) (fun g => ?_) <;> set_option smartUnfolding false in conv => whnf
  · have g := dT g
    exact rdB (by rw [← hs, decide_eq_false (p := 0 ≤ vs) (by omega)]; simp)
  have g1 : 0 ≤ vs := by have := dF g; omega
  refine br_intro (fun g => ?_) (fun g => ?_) <;> set_option smartUnfolding false in conv => whnf
  · have g := dT g
    exact rdB (by rw [← hs, decide_eq_false (p := vs ≤ 6) (by omega)]; simp)
  have g2 : vs ≤ 6 := by have := dF g; omega
  refine br_intro (fun g => ?_) (fun g => ?_) <;> set_option smartUnfolding false in conv => whnf
  · have g := dT g
    rw [Cn.pvL_len] at g
    exact rdB (by rw [← hs, decide_eq_false (p := 1 ≤ cs.length) (by omega)]; simp)
  have g3 : 1 ≤ cs.length := by have := dF g; rw [Cn.pvL_len] at this; omega
  refine br_intro (fun g => ?_) (fun g => ?_) <;> set_option smartUnfolding false in conv => whnf
  · have g := dT g
    rw [Cn.pvL_len] at g
    exact rdB (by rw [← hs, decide_eq_false (p := cs.length ≤ 8) (by omega)]; simp)
  have g4 : cs.length ≤ 8 := by have := dF g; rw [Cn.pvL_len] at this; omega
  refine acall_det (ps := [.str nm]) (upper_r nm hNn) ?_
  set_option smartUnfolding false in conv => whnf
  refine br_intro (fun g => ?_) (fun g => ?_) <;> set_option smartUnfolding false in conv => whnf
  · have g : upName nm = false := by simpa using g
    exact rdB (by rw [← hs, g]; simp)
  have g5 : upName nm = true := by simpa using g
  rw [decide_eq_true g1, decide_eq_true g2, decide_eq_true g3, decide_eq_true g4, g5] at hs
  simp only [Bool.true_and] at hs
  have hA' : As ++ [PV.str nm] = strsP (namesOf (D.take (i + 1))) := by
    rw [take_snoc hg2]
    unfold namesOf
    rw [List.map_append, strsP_app, ← namesOf, hA]; simp [strsP_cons, strsP_nil]
  have hB' : strsP (cnamesOf (D.take (i + 1))) = Bs ++ strsP (cs.map (·.name)) := by
    rw [take_snoc hg2]
    unfold cnamesOf
    rw [List.flatMap_append, strsP_app, ← cnamesOf, hB]; simp
  have hAi : As.length = i := by rw [hA, strsP_len]; simp [namesOf]; omega
  clear hA hB
  refine ⟨Nat.le_refl 1, ?_⟩
  set_option smartUnfolding false in conv => whnf
  apply vloop_cut (α := List PV) (fun A => A = As ++ [PV.str nm]) (fun A => [(0, .pv (.lst 3 (Dt.pvL D))), (3, lsV 0 A), (4, lsV 1 Bs), (5, .pv (.int .i64 i)), (6, .bp 2 0), (7, .pv (.int .i64 0))]) (fun A => [lsB 9 1 A, lsB 9 1 Bs, .box 42 [.pv (.str nm), .pv (.int .i64 vs), .pv (.lst 2 (Cn.pvL cs))]])
  · intro mid
    cases As with
    | nil =>
      set_option smartUnfolding false in conv => whnf
      refine ⟨⟨⟨by decide, by decide⟩, by decide⟩, ?_⟩
      set_option smartUnfolding false in conv => whnf
      exact vloop_shift (mid _ rfl) (weak_ren [4, 1, 2] 5 (by kernel_rfl) (blk (by kernel_rfl) (blkR_ls (by kernel_rfl) (blk (by kernel_rfl) trivial))) ⟨(by kernel_rfl), (by kernel_rfl), sLs (by kernel_rfl), (by kernel_rfl), (by kernel_rfl), (by kernel_rfl), trivial⟩)
    | cons p As =>
      set_option smartUnfolding false in conv => whnf
      simp only [List.length_cons] at hAl
      refine ⟨⟨⟨by simp [pvs_len], by simp only [Nat.succ_eq_add_one]; omega⟩, by rw [show ((S.E 0).te 9).bytes = 16 from rfl]; simp only [Nat.succ_eq_add_one]; omega⟩, ?_⟩
      set_option smartUnfolding false in conv => whnf
      exact vloop_shift (mid _ rfl) (weak_ren [4, 1, 2] 5 (by kernel_rfl) (blkR_snoc (by kernel_rfl) (blkR_ls (by kernel_rfl) (blk (by kernel_rfl) trivial))) ⟨(by kernel_rfl), by simp only [lsV_snoc]; kernel_rfl, sLs (by kernel_rfl), (by kernel_rfl), (by kernel_rfl), (by kernel_rfl), trivial⟩)
  rintro A hAe
  rw [← hAe] at hA'
  refine vloop_intro (σ := Nat × List PV) (fun x => x.1 ≤ cs.length ∧ (consR D i vs (cs.drop x.1) && decsR D (i + 1) (D.drop (i + 1)) && (ndup (namesOf D) && ndup (cnamesOf D))) = R ∧ x.2 = Bs ++ strsP ((cs.take x.1).map (·.name)) ∧ x.2.length ≤ 1000 * i + x.1) (fun x => [(0, .pv (.lst 3 (Dt.pvL D))), (3, lsV 0 A), (4, lsV 1 x.2), (5, .pv (.int .i64 i)), (6, .bp 2 0), (7, .pv (.int .i64 x.1))])
    (fun x => [lsB 9 1 A, lsB 9 1 x.2, .box 42 [.pv (.str nm), .pv (.int .i64 vs), .pv (.lst 2 (Cn.pvL cs))]]) (fun x => cs.length - x.1) (0, Bs) ⟨by simp, by simpa using hs, by simp [strsP_nil], by simp only; omega⟩ (weak_ren [0, 1, 2] 3 (by kernel_rfl) (blkR_ls (by kernel_rfl) (blkR_ls (by kernel_rfl) (blk (by kernel_rfl) trivial))) ⟨(by kernel_rfl), sLs (by kernel_rfl), sLs (by kernel_rfl), (by kernel_rfl), (by kernel_rfl), (by kernel_rfl), trivial⟩) ?_
  rintro ⟨j, B2⟩ ⟨hj, hs2, hB2, hBl2⟩
  simp only at hj hs2 hB2 hBl2
  set_option smartUnfolding false in conv => whnf
  refine br_intro (fun h' => ?_) (fun h' => ?_) <;> set_option smartUnfolding false in conv => whnf
  rotate_left
  · replace h' : cs.length ≤ j := by have := dF h'; rw [Cn.pvL_len] at this; simp only at this; omega
    rw [List.drop_of_length_le h', consR_nil, Bool.true_and] at hs2
    rw [List.take_of_length_le h', ← hB'] at hB2
    have hAl2 : A.length ≤ 1000000 := by rw [hAe]; simp; omega
    exact ⟨(i + 1, A, B2), ⟨by simp only; omega, hs2, hA', hB2, hAl2, by simp only; omega⟩, weak_ren [0, 1] 3 (by kernel_rfl) (blkR_ls (by kernel_rfl) (blkR_ls (by kernel_rfl) trivial)) ⟨(by kernel_rfl), sLs (by kernel_rfl), sLs (by kernel_rfl), sUp h (by omega), trivial⟩, by show D.length - (i + 1) < D.length - i; omega⟩
  replace h' : j < cs.length := by have := dT h'; rw [Cn.pvL_len] at this; simp only at this; omega
  refine Cn.get_elim h' fun cn cas hcm hcg hcg2 hcd => ?_
  rw [hcd, consR_cons] at hs2
  simp only at hs2
  have hcn := hNc _ hcm
  have hca := hDa _ hcm
  have hcl := hDl2 _ hcm
  simp only at hcn hca hcl
  refine ⟨Cn.ag cn cas, ⟨(by first | omega | (simp only; omega)), by simpa using hcg⟩, ?_⟩
  set_option smartUnfolding false in conv => whnf
  refine acall_det (ps := [.str cn]) (upper_r cn hcn) ?_
  set_option smartUnfolding false in conv => whnf
  refine br_intro (fun g => ?_) (fun g => ?_) <;> set_option smartUnfolding false in conv => whnf
  · have g : upName cn = false := by simpa using g
    exact rdB (by rw [← hs2, g]; simp)
  have g6 : upName cn = true := by simpa using g
  refine ⟨Cn.ag cn cas, ⟨(by first | omega | (simp only; omega)), by simpa using hcg⟩, ?_⟩
  set_option smartUnfolding false in conv => whnf
  refine br_intro (fun g => ?_) (fun g => ?_) <;> set_option smartUnfolding false in conv => whnf
  · have g := dT g
    rw [V.pvL_len] at g
    exact rdB (by rw [← hs2, decide_eq_false (p := cas.length ≤ 6) (by omega)]; simp)
  have g7 : cas.length ≤ 6 := by have := dF g; rw [V.pvL_len] at this; omega
  rw [g6, decide_eq_true g7] at hs2
  simp only [Bool.true_and] at hs2
  have hB3 : B2 ++ [PV.str cn] = Bs ++ strsP ((cs.take (j + 1)).map (·.name)) := by
    rw [take_snoc hcg2, List.map_append, strsP_app, hB2]; simp [strsP_cons, strsP_nil]
  refine ⟨Cn.ag cn cas, ⟨(by first | omega | (simp only; omega)), by simpa using hcg⟩, ?_⟩
  set_option smartUnfolding false in conv => whnf
  refine ⟨Nat.le_refl 1, ?_⟩
  set_option smartUnfolding false in conv => whnf
  apply vloop_cut (α := List PV) (fun B => B = B2 ++ [PV.str cn]) (fun B => [(0, .pv (.lst 3 (Dt.pvL D))), (3, lsV 0 A), (4, lsV 1 B), (5, .pv (.int .i64 i)), (6, .bp 2 0), (7, .pv (.int .i64 j)), (93, .pv (.lst 3 (V.pvL cas))), (94, .pv (.int .i64 (V.pvL cas).length)), (95, .pv (.int .i64 0))]) (fun B => [lsB 9 1 A, lsB 9 1 B, .box 42 [.pv (.str nm), .pv (.int .i64 vs), .pv (.lst 2 (Cn.pvL cs))]])
  · intro inn
    cases B2 with
    | nil =>
      set_option smartUnfolding false in conv => whnf
      refine ⟨⟨⟨by decide, by decide⟩, by decide⟩, ?_⟩
      set_option smartUnfolding false in conv => whnf
      refine ⟨Cn.ag cn cas, ⟨(by first | omega | (simp only; omega)), by simpa using hcg⟩, ?_⟩
      set_option smartUnfolding false in conv => whnf
      exact vloop_shift (inn _ rfl) (weak_ren [0, 4, 2] 5 (by kernel_rfl) (blkR_ls (by kernel_rfl) (blk (by kernel_rfl) (blk (by kernel_rfl) trivial))) ⟨(by kernel_rfl), sLs (by kernel_rfl), (by kernel_rfl), (by kernel_rfl), (by kernel_rfl), (by kernel_rfl), (by kernel_rfl), (by kernel_rfl), (by kernel_rfl), trivial⟩)
    | cons p B2 =>
      set_option smartUnfolding false in conv => whnf
      simp only [List.length_cons] at hBl2
      refine ⟨⟨⟨by simp [pvs_len], by simp only [Nat.succ_eq_add_one]; omega⟩, by rw [show ((S.E 0).te 9).bytes = 16 from rfl]; simp only [Nat.succ_eq_add_one]; omega⟩, ?_⟩
      set_option smartUnfolding false in conv => whnf
      refine ⟨Cn.ag cn cas, ⟨(by first | omega | (simp only; omega)), by simpa using hcg⟩, ?_⟩
      set_option smartUnfolding false in conv => whnf
      exact vloop_shift (inn _ rfl) (weak_ren [0, 4, 2] 5 (by kernel_rfl) (blkR_ls (by kernel_rfl) (blkR_snoc (by kernel_rfl) (blk (by kernel_rfl) trivial))) ⟨(by kernel_rfl), sLs (by kernel_rfl), by simp only [lsV_snoc]; kernel_rfl, (by kernel_rfl), (by kernel_rfl), (by kernel_rfl), (by kernel_rfl), (by kernel_rfl), (by kernel_rfl), trivial⟩)
  rintro B hBe
  rw [← hBe] at hB3
  refine vloop_intro (σ := Nat) (fun l => l ≤ cas.length ∧ (argsR D i vs (cas.drop l) && consR D i vs (cs.drop (j + 1)) && decsR D (i + 1) (D.drop (i + 1)) && (ndup (namesOf D) && ndup (cnamesOf D))) = R) (fun l => [(0, .pv (.lst 3 (Dt.pvL D))), (3, lsV 0 A), (4, lsV 1 B), (5, .pv (.int .i64 i)), (6, .bp 2 0), (7, .pv (.int .i64 j)), (93, .pv (.lst 3 (V.pvL cas))), (94, .pv (.int .i64 (V.pvL cas).length)), (95, .pv (.int .i64 l))])
    (fun l => [lsB 9 1 A, lsB 9 1 B, .box 42 [.pv (.str nm), .pv (.int .i64 vs), .pv (.lst 2 (Cn.pvL cs))]]) (fun l => cas.length - l) 0 ⟨by simp, by simpa using hs2⟩ (weak_ren [0, 1, 2] 3 (by kernel_rfl) (blkR_ls (by kernel_rfl) (blkR_ls (by kernel_rfl) (blk (by kernel_rfl) trivial))) ⟨(by kernel_rfl), sLs (by kernel_rfl), sLs (by kernel_rfl), (by kernel_rfl), (by kernel_rfl), (by kernel_rfl), (by kernel_rfl), (by kernel_rfl), (by kernel_rfl), trivial⟩) ?_
  rintro l ⟨hl, hs3⟩
  set_option smartUnfolding false in conv => whnf
  refine br_intro (fun h2 => ?_) (fun h2 => ?_) <;> set_option smartUnfolding false in conv => whnf
  rotate_left
  · replace h2 : cas.length ≤ l := by have := dF h2; rw [V.pvL_len] at this; omega
    rw [List.drop_of_length_le h2, argsR_nil, Bool.true_and] at hs3
    exact ⟨(j + 1, B), ⟨by simp only; omega, hs3, hB3, by simp only [hBe]; simp; omega⟩, weak_ren [0, 1, 2] 3 (by kernel_rfl) (blkR_ls (by kernel_rfl) (blkR_ls (by kernel_rfl) (blk (by kernel_rfl) trivial))) ⟨(by kernel_rfl), sLs (by kernel_rfl), sLs (by kernel_rfl), (by kernel_rfl), (by kernel_rfl), sUp h' (by omega), trivial⟩, by show cs.length - (j + 1) < cs.length - j; omega⟩
  replace h2 : l < cas.length := by have := dT h2; rw [V.pvL_len] at this; omega
  refine V.get_elim h2 fun k' n' ts' hv hge _ hde => ?_
  rw [hde, argsR_cons] at hs3
  have hsf := isSelf_det (.mk k' n' ts') i vs
  have hok := rValid_det (D.take i) vs (.mk k' n' ts') (by have := hca _ hv; omega)
  rw [V.pv_mk] at hsf hok
  rw [← Dt.pvL_take] at hok
  have har : argR D i vs (.mk k' n' ts') = (isSelf i vs (.mk k' n' ts') || V.okW (D.take i) vs (.mk k' n' ts')) := by unfold argR; rfl
  refine ⟨V.ag k' n' ts', ⟨by simp, by simpa using hge⟩, ?_⟩
  set_option smartUnfolding false in conv => whnf
  refine acall_det (ps := [V.ag k' n' ts', .int .i64 i, .int .i64 vs]) hsf ?_
  set_option smartUnfolding false in conv => whnf
  refine br_intro (fun g => ?_) (fun g => ?_) <;> set_option smartUnfolding false in conv => whnf
  · rw [har, g] at hs3
    simp only [Bool.true_or, Bool.true_and] at hs3
    exact ⟨l + 1, ⟨by omega, hs3⟩, weak_ren [0, 1, 2] 4 (by kernel_rfl) (blkR_ls (by kernel_rfl) (blkR_ls (by kernel_rfl) (blk (by kernel_rfl) trivial))) ⟨(by kernel_rfl), sLs (by kernel_rfl), sLs (by kernel_rfl), (by kernel_rfl), (by kernel_rfl), (by kernel_rfl), (by kernel_rfl), (by kernel_rfl), sUp h2 (by omega), trivial⟩, by show cas.length - (l + 1) < cas.length - l; omega⟩
  refine ⟨⟨by omega, by rw [Dt.pvL_len]; omega⟩, ?_⟩
  set_option smartUnfolding false in conv => whnf
  refine acall_det (ps := [.lst 3 ((Dt.pvL D).take i), V.ag k' n' ts', .int .i64 vs]) hok ?_
  set_option smartUnfolding false in conv => whnf
  refine br_intro (fun g2' => ?_) (fun g2' => ?_) <;> set_option smartUnfolding false in conv => whnf
  · have g2' : V.okW (D.take i) vs (.mk k' n' ts') = false := by simpa using g2'
    exact rdB (by rw [← hs3, har, g, g2']; rfl)
  · have g2' : V.okW (D.take i) vs (.mk k' n' ts') = true := by simpa using g2'
    rw [har, g, g2'] at hs3
    simp only [Bool.false_or, Bool.true_and] at hs3
    exact ⟨l + 1, ⟨by omega, hs3⟩, weak_ren [0, 1, 2] 4 (by kernel_rfl) (blkR_ls (by kernel_rfl) (blkR_ls (by kernel_rfl) (blk (by kernel_rfl) trivial))) ⟨(by kernel_rfl), sLs (by kernel_rfl), sLs (by kernel_rfl), (by kernel_rfl), (by kernel_rfl), (by kernel_rfl), (by kernel_rfl), (by kernel_rfl), sUp h2 (by omega), trivial⟩, by show cas.length - (l + 1) < cas.length - l; omega⟩
end Go.AM

set_option linter.all false
set_option maxRecDepth 20000
set_option maxHeartbeats 20000000
namespace Go.AM
open Go.Proofs

theorem ndup_pre {l k : List ByteArray} {a : ByteArray} (hm : a ∈ l) (h : ∃ r, k = l ++ a :: r) : ndup k = false := by
  obtain ⟨r, rfl⟩ := h
  refine ndup_not fun hn => ?_
  rw [List.nodup_append] at hn
  exact hn.2.2 a hm a (by simp) rfl
theorem nodup_snoc {l : List ByteArray} {a : ByteArray} (h : l.Nodup) (hm : ¬ a ∈ l) : (l ++ [a]).Nodup := by
  rw [List.nodup_append]
  refine ⟨h, by simp, fun x hx y hy => ?_⟩
  simp only [List.mem_singleton] at hy
  subst hy
  rintro rfl
  exact hm hx
theorem boolsP_get {l : List V} {i : Nat} {v : V} (q : V → Bool) (h : l[i]? = some v) : (boolsP (l.map q))[i]? = some (.bool (q v)) := by simp [boolsP, h]
theorem take_pre {α : Type} {l : List α} {i : Nat} {a : α} (hd : l.drop i = a :: l.drop (i + 1)) : l = l.take i ++ a :: l.drop (i + 1) := by
  rw [← hd, List.take_append_drop]

theorem names_split {D : List Dt} {i : Nat} {x : Dt} (hd : D.drop i = x :: D.drop (i + 1)) : namesOf D = namesOf (D.take i) ++ x.name :: namesOf (D.drop (i + 1)) := by
  have : namesOf D = namesOf (D.take i ++ D.drop i) := by rw [List.take_append_drop]
  rw [this, hd]; simp [namesOf]
theorem cnames_split {D : List Dt} {i j : Nat} {x : Dt} {c : Cn} (hd : D.drop i = x :: D.drop (i + 1)) (hc : x.cons.drop j = c :: x.cons.drop (j + 1)) :
    cnamesOf D = (cnamesOf (D.take i) ++ (x.cons.take j).map (·.name)) ++ c.name :: ((x.cons.drop (j + 1)).map (·.name) ++ cnamesOf (D.drop (i + 1))) := by
  have : cnamesOf D = cnamesOf (D.take i ++ D.drop i) := by rw [List.take_append_drop]
  rw [this, hd]
  have e : x.cons.map (·.name) = (x.cons.take j).map (·.name) ++ c.name :: (x.cons.drop (j + 1)).map (·.name) := by
    have : x.cons.map (·.name) = (x.cons.take j ++ x.cons.drop j).map (·.name) := by rw [List.take_append_drop]
    rw [this, hc]; simp
  simp only [cnamesOf, List.flatMap_append, List.flatMap_cons]
  rw [e]; simp
theorem validData_t {D : List Dt} (hD : DOK D) (hN : DN D) : Det Tryz.prog 40 [.lst 3 (Dt.pvL D)] (.bool (dvalid D)) := by
  generalize hR : dvalid D = R
  unfold dvalid at hR
  have hDl := hD.len
  refine det_of_vc' (E := S.E 0) rfl fol Tryz.func40 rfl rfl (slots := [2]) rfl rfl fun hw => ?_
  set_option smartUnfolding false in conv => whnf
  refine br_intro (fun h0 => ?_) (fun h0 => ?_) <;> set_option smartUnfolding false in conv => whnf
  · have h0 := dT h0
    rw [Dt.pvL_len] at h0
    exact rdB (by rw [← hR, decide_eq_false (by omega)]; rfl)
  have h0 := dF h0
  rw [Dt.pvL_len] at h0
  rw [decide_eq_true (by omega), Bool.true_and] at hR
  refine vloop_intro (σ := Nat × List ByteArray × List ByteArray) (fun x => x.1 ≤ D.length ∧ (decsR D x.1 (D.drop x.1) && (ndup (namesOf D) && ndup (cnamesOf D))) = R ∧ ((∀ a, a ∈ x.2.1 ↔ a ∈ namesOf (D.take x.1)) ∧ (namesOf (D.take x.1)).Nodup) ∧ ((∀ a, a ∈ x.2.2 ↔ a ∈ cnamesOf (D.take x.1)) ∧ (cnamesOf (D.take x.1)).Nodup)) (fun x => [(0, .pv (.lst 3 (Dt.pvL D))), (3, .bp 0 0), (4, .bp 1 0), (17, .pv (.lst 3 (Dt.pvL D))), (18, .pv (.int .i64 (Dt.pvL D).length)), (19, .pv (.int .i64 x.1))])
    (fun x => [.smap x.2.1, .smap x.2.2]) (fun x => D.length - x.1) (0, [], []) ⟨by simp, hR, ⟨by simp [namesOf], by simp [namesOf]⟩, ⟨by simp [cnamesOf], by simp [cnamesOf]⟩⟩ (weak_ren [0, 1] 2 (by kernel_rfl) (blk (by kernel_rfl) (blk (by kernel_rfl) trivial)) ⟨(by kernel_rfl), (by kernel_rfl), (by kernel_rfl), (by kernel_rfl), (by kernel_rfl), (by kernel_rfl), trivial⟩) ?_
  rintro ⟨i, k1, k2⟩ ⟨hi, hs, ⟨hk1, hn1⟩, ⟨hk2, hn2⟩⟩
  simp only at hi hs hk1 hn1 hk2 hn2
  set_option smartUnfolding false in conv => whnf
  refine br_intro (fun h => ?_) (fun h => ?_) <;> set_option smartUnfolding false in conv => whnf
  rotate_left
  · replace h : D.length ≤ i := by have := dF h; rw [Dt.pvL_len] at this; simp only at this; omega
    rw [List.drop_of_length_le h, decsR_nil, Bool.true_and] at hs
    rw [List.take_of_length_le h] at hn1 hn2
    exact rdB (by rw [← hs, ndup_iff.2 hn1, ndup_iff.2 hn2]; rfl)
  replace h : i < D.length := by have := dT h; rw [Dt.pvL_len] at this; simp only at this; omega
  refine Dt.get_elim h fun nm vs cs hmem hg hg2 hd => ?_
  have hpre := take_pre hd
  rw [hd, decsR_cons] at hs
  simp only at hs
  have hNn := hN.name _ hmem
  have hNc := hN.cname _ hmem
  have hDa := hD.arg _ hmem
  have hDl2 := hD.args _ hmem
  simp only at hNn hNc hDa hDl2
  refine ⟨Dt.ag nm vs cs, ⟨(by first | omega | (simp only; omega)), by simpa using hg⟩, ?_⟩
  set_option smartUnfolding false in conv => whnf
  refine acall_det (ps := [.str nm]) (upper_t nm hNn) ?_
  set_option smartUnfolding false in conv => whnf
  refine br_intro (fun g => ?_) (fun g => ?_) <;> set_option smartUnfolding false in conv => whnf
  · have g : upName nm = false := by simpa using g
    exact rdB (by rw [← hs, g]; simp)
  have g5 : upName nm = true := by simpa using g
  refine br_intro (fun g => ?_) (fun g => ?_) <;> set_option smartUnfolding false in conv => whnf
  · refine rdB ?_
    have g := (hk1 nm).1 (memS_iff.1 g)
    have : ndup (namesOf D) = false := ndup_pre g ⟨_, names_split hd⟩
    rw [← hs, this]; simp
  have gm : ¬ nm ∈ namesOf (D.take i) := fun hm => by rw [memS_iff.2 ((hk1 nm).2 hm)] at g; cases g
  refine br_intro (fun g => ?_) (fun g => ?_) <;> set_option smartUnfolding false in conv => whnf
  · have g := dT g
    exact rdB (by rw [← hs, decide_eq_false (p := 0 ≤ vs) (by omega)]; simp)
  have g1 : 0 ≤ vs := by have := dF g; omega
  refine br_intro (fun g => ?_) (fun g => ?_) <;> set_option smartUnfolding false in conv => whnf
  · have g := dT g
    exact rdB (by rw [← hs, decide_eq_false (p := vs ≤ 6) (by omega)]; simp)
  have g2 : vs ≤ 6 := by have := dF g; omega
  refine br_intro (fun g => ?_) (fun g => ?_) <;> set_option smartUnfolding false in conv => whnf
  · have g := dT g
    rw [Cn.pvL_len] at g
    exact rdB (by rw [← hs, decide_eq_false (p := 1 ≤ cs.length) (by omega)]; simp)
  have g3 : 1 ≤ cs.length := by have := dF g; rw [Cn.pvL_len] at this; omega
  refine br_intro (fun g => ?_) (fun g => ?_) <;> set_option smartUnfolding false in conv => whnf
  · have g := dT g
    rw [Cn.pvL_len] at g
    exact rdB (by rw [← hs, decide_eq_false (p := cs.length ≤ 8) (by omega)]; simp)
  have g4 : cs.length ≤ 8 := by have := dF g; rw [Cn.pvL_len] at this; omega
  rw [decide_eq_true g1, decide_eq_true g2, decide_eq_true g3, decide_eq_true g4, g5] at hs
  simp only [Bool.true_and] at hs
  have hN1 : namesOf (D.take (i + 1)) = namesOf (D.take i) ++ [nm] := by rw [take_snoc hg2]; simp [namesOf]
  have hN2 : cnamesOf (D.take (i + 1)) = cnamesOf (D.take i) ++ cs.map (·.name) := by rw [take_snoc hg2]; simp [cnamesOf]
  have hnn : (namesOf (D.take (i + 1))).Nodup := by rw [hN1]; exact nodup_snoc hn1 gm
  have hkk : ∀ a, a ∈ nm :: k1 ↔ a ∈ namesOf (D.take (i + 1)) := fun a => by rw [hN1]; simp [hk1, or_comm]
  refine vloop_intro (σ := Nat × List ByteArray) (fun x => x.1 ≤ cs.length ∧ (consR D i vs (cs.drop x.1) && decsR D (i + 1) (D.drop (i + 1)) && (ndup (namesOf D) && ndup (cnamesOf D))) = R ∧ (∀ a, a ∈ x.2 ↔ a ∈ cnamesOf (D.take i) ++ (cs.take x.1).map (·.name)) ∧ (cnamesOf (D.take i) ++ (cs.take x.1).map (·.name)).Nodup) (fun x => [(0, .pv (.lst 3 (Dt.pvL D))), (3, .bp 0 0), (4, .bp 1 0), (17, .pv (.lst 3 (Dt.pvL D))), (18, .pv (.int .i64 (Dt.pvL D).length)), (19, .pv (.int .i64 i)), (5, .pv (.int .i64 i)), (6, .bp 2 0), (60, .pv (.lst 2 (Cn.pvL cs))), (61, .pv (.int .i64 (Cn.pvL cs).length)), (62, .pv (.int .i64 x.1))])
    (fun x => [.smap (nm :: k1), .smap x.2, .box 42 [.pv (.str nm), .pv (.int .i64 vs), .pv (.lst 2 (Cn.pvL cs))]]) (fun x => cs.length - x.1) (0, k2) ⟨by simp, by simpa using hs, by simpa using hk2, by simpa using hn2⟩ (weak_ren [0, 1, 2] 3 (by kernel_rfl) (blk (by kernel_rfl) (blk (by kernel_rfl) (blk (by kernel_rfl) trivial))) ⟨(by kernel_rfl), (by kernel_rfl), (by kernel_rfl), (by kernel_rfl), (by kernel_rfl), (by kernel_rfl), (by kernel_rfl), (by kernel_rfl), (by kernel_rfl), (by kernel_rfl), (by kernel_rfl), trivial⟩) ?_
  rintro ⟨j, k3⟩ ⟨hj, hs2, hk3, hn3⟩
  simp only at hj hs2 hk3 hn3
  set_option smartUnfolding false in conv => whnf
  refine br_intro (fun h' => ?_) (fun h' => ?_) <;> set_option smartUnfolding false in conv => whnf
  rotate_left
  · replace h' : cs.length ≤ j := by have := dF h'; rw [Cn.pvL_len] at this; simp only at this; omega
    rw [List.drop_of_length_le h', consR_nil, Bool.true_and] at hs2
    rw [List.take_of_length_le h', ← hN2] at hn3
    have hk3' : ∀ a, a ∈ k3 ↔ a ∈ cnamesOf (D.take (i + 1)) := fun a => by rw [hN2]; have := hk3 a; rwa [List.take_of_length_le h'] at this
    exact ⟨(i + 1, nm :: k1, k3), ⟨by simp only; omega, hs2, ⟨hkk, hnn⟩, ⟨hk3', hn3⟩⟩, weak_ren [0, 1] 3 (by kernel_rfl) (blk (by kernel_rfl) (blk (by kernel_rfl) trivial)) ⟨(by kernel_rfl), (by kernel_rfl), (by kernel_rfl), (by kernel_rfl), (by kernel_rfl), sUp h (by omega), trivial⟩, by show D.length - (i + 1) < D.length - i; omega⟩
  replace h' : j < cs.length := by have := dT h'; rw [Cn.pvL_len] at this; simp only at this; omega
  refine Cn.get_elim h' fun cn cas hcm hcg hcg2 hcd => ?_
  have hspl := cnames_split (j := j) (c := ⟨cn, cas⟩) hd hcd
  simp only at hspl
  rw [hcd, consR_cons] at hs2
  simp only at hs2
  have hcn := hNc _ hcm
  have hca := hDa _ hcm
  have hcl := hDl2 _ hcm
  simp only at hcn hca hcl
  refine ⟨Cn.ag cn cas, ⟨(by first | omega | (simp only; omega)), by simpa using hcg⟩, ?_⟩
  set_option smartUnfolding false in conv => whnf
  refine acall_det (ps := [.str cn]) (upper_t cn hcn) ?_
  set_option smartUnfolding false in conv => whnf
  refine br_intro (fun g => ?_) (fun g => ?_) <;> set_option smartUnfolding false in conv => whnf
  · have g : upName cn = false := by simpa using g
    exact rdB (by rw [← hs2, g]; simp)
  have g6 : upName cn = true := by simpa using g
  refine br_intro (fun g => ?_) (fun g => ?_) <;> set_option smartUnfolding false in conv => whnf
  · refine rdB ?_
    have g := (hk3 cn).1 (memS_iff.1 g)
    have : ndup (cnamesOf D) = false := ndup_pre g ⟨_, hspl⟩
    rw [← hs2, this]; simp
  have gmc : ¬ cn ∈ cnamesOf (D.take i) ++ (cs.take j).map (·.name) := fun hm => by rw [memS_iff.2 ((hk3 cn).2 hm)] at g; cases g
  refine br_intro (fun g => ?_) (fun g => ?_) <;> set_option smartUnfolding false in conv => whnf
  · have g := dT g
    rw [V.pvL_len] at g
    exact rdB (by rw [← hs2, decide_eq_false (p := cas.length ≤ 6) (by omega)]; simp)
  have g7 : cas.length ≤ 6 := by have := dF g; rw [V.pvL_len] at this; omega
  rw [g6, decide_eq_true g7] at hs2
  simp only [Bool.true_and] at hs2
  have hC1 : cnamesOf (D.take i) ++ (cs.take (j + 1)).map (·.name) = (cnamesOf (D.take i) ++ (cs.take j).map (·.name)) ++ [cn] := by rw [take_snoc hcg2]; simp
  have hcc : (cnamesOf (D.take i) ++ (cs.take (j + 1)).map (·.name)).Nodup := by rw [hC1]; exact nodup_snoc hn3 gmc
  have hkc : ∀ a, a ∈ cn :: k3 ↔ a ∈ cnamesOf (D.take i) ++ (cs.take (j + 1)).map (·.name) := fun a => by
    rw [hC1, List.mem_cons, List.mem_append, List.mem_singleton, hk3 a, or_comm]
  have hrec := trec_det hD i j
  have erec : recS D i j = cas.map (isSelf i vs) := by
    unfold recS conAt
    rw [if_pos (by omega), Int.toNat_natCast, hg2]
    simp only
    rw [Int.toNat_natCast, hcg2]
  rw [erec] at hrec
  refine acall_det (ps := [.lst 3 (Dt.pvL D), .int .i64 i, .int .i64 j]) hrec ?_
  set_option smartUnfolding false in conv => whnf
  refine vloop_intro (σ := Nat) (fun l => l ≤ cas.length ∧ (argsR D i vs (cas.drop l) && consR D i vs (cs.drop (j + 1)) && decsR D (i + 1) (D.drop (i + 1)) && (ndup (namesOf D) && ndup (cnamesOf D))) = R) (fun l => [(0, .pv (.lst 3 (Dt.pvL D))), (3, .bp 0 0), (4, .bp 1 0), (17, .pv (.lst 3 (Dt.pvL D))), (18, .pv (.int .i64 (Dt.pvL D).length)), (19, .pv (.int .i64 i)), (5, .pv (.int .i64 i)), (6, .bp 2 0), (60, .pv (.lst 2 (Cn.pvL cs))), (61, .pv (.int .i64 (Cn.pvL cs).length)), (62, .pv (.int .i64 j)), (9, .pv (.lst 1 (boolsP (cas.map (isSelf i vs))))), (91, .pv (.lst 3 (V.pvL cas))), (92, .pv (.int .i64 (V.pvL cas).length)), (93, .pv (.int .i64 l))])
    (fun l => [.smap (nm :: k1), .smap (cn :: k3), .box 42 [.pv (.str nm), .pv (.int .i64 vs), .pv (.lst 2 (Cn.pvL cs))]]) (fun l => cas.length - l) 0 ⟨by simp, by simpa using hs2⟩ (weak_ren [0, 1, 2] 4 (by kernel_rfl) (blk (by kernel_rfl) (blk (by kernel_rfl) (blk (by kernel_rfl) trivial))) ⟨(by kernel_rfl), (by kernel_rfl), (by kernel_rfl), (by kernel_rfl), (by kernel_rfl), (by kernel_rfl), (by kernel_rfl), (by kernel_rfl), (by kernel_rfl), (by kernel_rfl), (by kernel_rfl), (by kernel_rfl), (by kernel_rfl), (by kernel_rfl), (by kernel_rfl), trivial⟩) ?_
  rintro l ⟨hl, hs3⟩
  set_option smartUnfolding false in conv => whnf
  refine br_intro (fun h2 => ?_) (fun h2 => ?_) <;> set_option smartUnfolding false in conv => whnf
  rotate_left
  · replace h2 : cas.length ≤ l := by have := dF h2; rw [V.pvL_len] at this; omega
    rw [List.drop_of_length_le h2, argsR_nil, Bool.true_and] at hs3
    exact ⟨(j + 1, cn :: k3), ⟨by simp only; omega, hs3, hkc, hcc⟩, weak_ren [0, 1, 2] 3 (by kernel_rfl) (blk (by kernel_rfl) (blk (by kernel_rfl) (blk (by kernel_rfl) trivial))) ⟨(by kernel_rfl), (by kernel_rfl), (by kernel_rfl), (by kernel_rfl), (by kernel_rfl), (by kernel_rfl), (by kernel_rfl), (by kernel_rfl), (by kernel_rfl), (by kernel_rfl), sUp h' (by omega), trivial⟩, by show cs.length - (j + 1) < cs.length - j; omega⟩
  replace h2 : l < cas.length := by have := dT h2; rw [V.pvL_len] at this; omega
  refine V.get_elim h2 fun k' n' ts' hv hge hge2 hde => ?_
  rw [hde, argsR_cons] at hs3
  have har := arg_eq hg2 g2 (.mk k' n' ts')
  simp only at har
  have ew : (IntKind.wrap .i64 ((i : Int) + 1)).toNat = i + 1 := by rw [wrapI (by omega) (by omega)]; omega
  have hok0 := tValid_det (D.take (i + 1)) vs (.mk k' n' ts')
  have hmt := ment_det i (.mk k' n' ts')
  rw [V.pv_mk] at hok0 hmt
  have hok : Det Tryz.prog 25 [.lst 3 ((Dt.pvL D).take (IntKind.wrap .i64 ((i : Int) + 1)).toNat), V.ag k' n' ts', .int .i64 vs] (.bool (V.okW (D.take (i + 1)) vs (.mk k' n' ts'))) := by
    rw [ew, Dt.pvL_take]; exact hok0
  have hbl := boolsP_get (isSelf i vs) hge2
  refine ⟨V.ag k' n' ts', ⟨by simp, by simpa using hge⟩, ?_⟩
  set_option smartUnfolding false in conv => whnf
  refine ⟨⟨by rw [wrapI (by omega) (by omega)]; omega, by rw [wrapI (by omega) (by omega), Dt.pvL_len]; omega⟩, ?_⟩
  set_option smartUnfolding false in conv => whnf
  refine acall_det (ps := [.lst 3 ((Dt.pvL D).take (IntKind.wrap .i64 ((i : Int) + 1)).toNat), V.ag k' n' ts', .int .i64 vs]) hok ?_
  set_option smartUnfolding false in conv => whnf
  refine br_intro (fun e1 => ?_) (fun e1 => ?_) <;> set_option smartUnfolding false in conv => whnf
  · have e1 : V.okW (D.take (i + 1)) vs (.mk k' n' ts') = false := by simpa using e1
    exact rdB (by rw [← hs3, ← har, e1]; rfl)
  have e1 : V.okW (D.take (i + 1)) vs (.mk k' n' ts') = true := by simpa using e1
  refine ⟨.bool (isSelf i vs (.mk k' n' ts')), ⟨by simp, by simpa using hbl⟩, ?_⟩
  set_option smartUnfolding false in conv => whnf
  refine br_intro (fun e2 => ?_) (fun e2 => ?_) <;> set_option smartUnfolding false in conv => whnf
  · have e2 : isSelf i vs (.mk k' n' ts') = false := by simpa using e2
    refine acall_det (ps := [V.ag k' n' ts', .int .i64 i]) hmt ?_
    set_option smartUnfolding false in conv => whnf
    refine br_intro (fun e3 => ?_) (fun e3 => ?_) <;> set_option smartUnfolding false in conv => whnf
    · exact rdB (by rw [← hs3, ← har, e1, e2, e3]; rfl)
    · rw [← har, e1, e2, e3] at hs3
      simp only [Bool.not_false, Bool.false_or, Bool.true_and] at hs3
      exact ⟨l + 1, ⟨by omega, hs3⟩, weak_ren [0, 1, 2] 4 (by kernel_rfl) (blk (by kernel_rfl) (blk (by kernel_rfl) (blk (by kernel_rfl) trivial))) ⟨(by kernel_rfl), (by kernel_rfl), (by kernel_rfl), (by kernel_rfl), (by kernel_rfl), (by kernel_rfl), (by kernel_rfl), (by kernel_rfl), (by kernel_rfl), (by kernel_rfl), (by kernel_rfl), (by kernel_rfl), (by kernel_rfl), (by kernel_rfl), sUp h2 (by omega), trivial⟩, by show cas.length - (l + 1) < cas.length - l; omega⟩
  · have e2 : isSelf i vs (.mk k' n' ts') = true := by simpa using e2
    rw [← har, e1, e2] at hs3
    simp only [Bool.true_or, Bool.true_and] at hs3
    exact ⟨l + 1, ⟨by omega, hs3⟩, weak_ren [0, 1, 2] 4 (by kernel_rfl) (blk (by kernel_rfl) (blk (by kernel_rfl) (blk (by kernel_rfl) trivial))) ⟨(by kernel_rfl), (by kernel_rfl), (by kernel_rfl), (by kernel_rfl), (by kernel_rfl), (by kernel_rfl), (by kernel_rfl), (by kernel_rfl), (by kernel_rfl), (by kernel_rfl), (by kernel_rfl), (by kernel_rfl), (by kernel_rfl), (by kernel_rfl), sUp h2 (by omega), trivial⟩, by show cas.length - (l + 1) < cas.length - l; omega⟩
end Go.AM

set_option linter.all false
set_option maxRecDepth 20000
set_option maxHeartbeats 2000000
namespace Go.AM
open Go.Proofs

/-! ### core.Valid, of data types alone -/
def coreP (D : List Dt) : PV := .agg [.lst 3 (Dt.pvL D), .nils, .nils, .nils]
def progC (D : List Dt) : List PV := [.lst 3 (Dt.pvL D), .nils, .nils, .nils, .lst 1 [], .lst 1 [], .lst 1 [], .nils]

theorem allT_nil (g : Nat) (caps : List PV) : Det Tryz.prog 41 [.nils, .fn g caps] (.bool true) := by
  have h := (hasT_det [] 73 [.cp [.fn g caps]] (fun _ => false) (by simp)).le (ps := [.nils, .fn 73 [.cp [.fn g caps]]]) (.cons (by rw [V.pvL_nil]; exact .nils 3) (.cons (.refl _) .nil))
  refine det_of_vc' (E := S.E 0) rfl fol Tryz.func41 rfl rfl (slots := [4]) rfl rfl fun hw => ?_
  set_option smartUnfolding false in conv => whnf
  refine acall_intro (adet_read (S := [0]) h (.cons (.pv _) (.cons (.fn (.cons (.bp (.head _) rfl (.cons (.pv _) .nil)) .nil)) .nil)) rfl) ?_
  set_option smartUnfolding false in conv => whnf
  exact rdB rfl

theorem codes_det (D : List Dt) : Det Tryz.prog 43 [.cp (progC D)] (.bool true) := by
  unfold progC
  refine det_of_vc' (E := S.E 0) rfl fol Tryz.func43 rfl rfl (slots := [2]) rfl rfl fun hw => ?_
  set_option smartUnfolding false in conv => whnf
  refine vloop_intro (σ := Unit) (fun _ => True) (fun _ => [(13, .pv (.int .i64 0)), (14, .pv (.int .i64 0))]) (fun _ => []) (fun _ => 0) () trivial (weak_bare rfl ⟨(by kernel_rfl), (by kernel_rfl), trivial⟩) ?_
  rintro ⟨⟩ _
  set_option smartUnfolding false in conv => whnf
  exact rdB rfl

theorem forest_det (D : List Dt) : Det Tryz.prog 44 [.cp (progC D)] (.bool true) := by
  unfold progC
  refine det_of_vc' (E := S.E 0) rfl fol Tryz.func44 rfl rfl (slots := [2]) rfl rfl fun hw => ?_
  set_option smartUnfolding false in conv => whnf
  refine vloop_intro (σ := Unit) (fun _ => True) (fun _ => [(0, .pv (.cp (progC D))), (14, .pv (.int .i64 0)), (15, .pv (.int .i64 0))]) (fun _ => []) (fun _ => 0) () trivial (weak_bare rfl ⟨(by kernel_rfl), (by kernel_rfl), (by kernel_rfl), trivial⟩) ?_
  rintro ⟨⟩ _
  set_option smartUnfolding false in conv => whnf
  refine vloop_intro (σ := Unit) (fun _ => True) (fun _ => [(0, .pv (.cp (progC D))), (36, .pv (.int .i64 0)), (37, .pv (.int .i64 0))]) (fun _ => []) (fun _ => 0) () trivial (weak_bare rfl ⟨(by kernel_rfl), (by kernel_rfl), (by kernel_rfl), trivial⟩) ?_
  rintro ⟨⟩ _
  set_option smartUnfolding false in conv => whnf
  refine vloop_intro (σ := Unit) (fun _ => True) (fun _ => [(0, .pv (.cp (progC D))), (65, .pv (.int .i64 0)), (66, .pv (.int .i64 0))]) (fun _ => []) (fun _ => 0) () trivial (weak_bare rfl ⟨(by kernel_rfl), (by kernel_rfl), (by kernel_rfl), trivial⟩) ?_
  rintro ⟨⟩ _
  set_option smartUnfolding false in conv => whnf
  exact rdB rfl

theorem bound_det (D : List Dt) : Det Tryz.prog 45 [.cp (progC D)] (.bool true) := by
  unfold progC
  refine det_of_vc' (E := S.E 0) rfl fol Tryz.func45 rfl rfl (slots := [2]) rfl rfl fun hw => ?_
  set_option smartUnfolding false in conv => whnf
  refine ⟨⟨by decide, by decide, by decide, by decide⟩, ?_⟩
  set_option smartUnfolding false in conv => whnf
  refine vloop_intro (σ := Unit) (fun _ => True) (fun _ => [(0, .pv (.cp (progC D))), (4, .bp 0 0), (23, .pv (.int .i64 0)), (24, .pv (.int .i64 0))]) (fun _ => [.box 3 [.pv (.int .i64 0)]]) (fun _ => 0) () trivial (weak_ren [2] 4 (by kernel_rfl) (blk (by kernel_rfl) trivial) ⟨(by kernel_rfl), (by kernel_rfl), (by kernel_rfl), (by kernel_rfl), trivial⟩) ?_
  rintro ⟨⟩ _
  set_option smartUnfolding false in conv => whnf
  refine vloop_intro (σ := Unit) (fun _ => True) (fun _ => [(0, .pv (.cp (progC D))), (4, .bp 0 0), (46, .pv (.int .i64 0)), (47, .pv (.int .i64 0))]) (fun _ => [.box 3 [.pv (.int .i64 0)]]) (fun _ => 0) () trivial (weak_ren [0] 1 (by kernel_rfl) (blk (by kernel_rfl) trivial) ⟨(by kernel_rfl), (by kernel_rfl), (by kernel_rfl), (by kernel_rfl), trivial⟩) ?_
  rintro ⟨⟩ _
  set_option smartUnfolding false in conv => whnf
  exact rdB rfl

def progH (D : List Dt) : Heap := [.box 84 [.pv (.lst 3 (Dt.pvL D)), .pv .nils, .pv .nils, .pv .nils, .row 1 0, .row 2 0, .row 3 0, .pv .nils], .row 3 1 [], .row 3 1 [], .row 3 1 []]
def progH' (D : List Dt) : Heap := [.box 84 [.pv (.lst 3 (Dt.pvL D)), .pv .nils, .pv .nils, .pv .nils, .row 1 0, .row 2 0, .row 3 0, .row 4 0], .row 3 1 [], .row 3 1 [], .row 3 1 [], .row 81 1 []]
theorem scopes_hdet (D : List Dt) : HDet Tryz.prog 46 [.bp 0 0] (progH D) (.pv (.tuple [])) (progH' D) := by
  refine hdet_of_vc' (E := S.E 4) fol Tryz.func46 rfl rfl (slots := []) rfl rfl ?_ ?_ ?_ fun hw => ?_
  · exact Nat.le_refl 4
  · exact ⟨rfl, trivial⟩
  · intro i
    match i with
    | 0 => exact ⟨trivial, trivial, trivial, trivial, rfl, rfl, rfl, trivial, trivial⟩
    | 1 => exact trivial
    | 2 => exact trivial
    | 3 => exact trivial
    | i + 4 => unfold progH; simp only [hget, hget_nil]; exact trivial
  unfold progH
  set_option smartUnfolding false in conv => whnf
  refine ⟨⟨by decide, by decide, by decide, by decide⟩, ?_⟩
  set_option smartUnfolding false in conv => whnf
  refine vloop_intro (σ := Unit) (fun _ => True) (fun _ => [(0, .bp 0 0), (23, .pv (.int .i64 0)), (24, .pv (.int .i64 0))]) (fun _ => progH' D) (fun _ => 0) () trivial (weak_ren [0, 1, 2, 3, 4] 5 (by kernel_rfl) (blk (by kernel_rfl) (blk (by kernel_rfl) (blk (by kernel_rfl) (blk (by kernel_rfl) (blk (by kernel_rfl) trivial))))) ⟨(by kernel_rfl), (by kernel_rfl), (by kernel_rfl), trivial⟩) ?_
  rintro ⟨⟩ _
  set_option smartUnfolding false in conv => whnf
  refine vloop_intro (σ := Unit) (fun _ => True) (fun _ => [(0, .bp 0 0), (47, .pv (.int .i64 0)), (48, .pv (.int .i64 0))]) (fun _ => progH' D) (fun _ => 0) () trivial (weak_ren [0, 1, 2, 3, 4] 5 (by kernel_rfl) (blk (by kernel_rfl) (blk (by kernel_rfl) (blk (by kernel_rfl) (blk (by kernel_rfl) (blk (by kernel_rfl) trivial))))) ⟨(by kernel_rfl), (by kernel_rfl), (by kernel_rfl), trivial⟩) ?_
  rintro ⟨⟩ _
  set_option smartUnfolding false in conv => whnf
  exact weak_ren [0, 1, 2, 3, 4] 5 (by kernel_rfl) (blk (by kernel_rfl) (blk (by kernel_rfl) (blk (by kernel_rfl) (blk (by kernel_rfl) (blk (by kernel_rfl) trivial))))) ⟨(by kernel_rfl), trivial⟩

theorem coreValid_det {D : List Dt} (hD : DOK D) (hN : DN D) : Det Tryz.prog 24 [coreP D] (.bool (dvalid D)) := by
  unfold coreP
  generalize hR : dvalid D = R
  have hv := validData_t hD hN
  rw [hR] at hv
  refine det_of_vc' (E := S.E 0) rfl fol Tryz.func24 rfl rfl (slots := [2]) rfl rfl fun hw => ?_
  set_option smartUnfolding false in conv => whnf
  refine acall_det (ps := [.lst 3 (Dt.pvL D)]) hv ?_
  set_option smartUnfolding false in conv => whnf
  refine br_intro (fun g => ?_) (fun g => ?_) <;> set_option smartUnfolding false in conv => whnf
  · exact rdB (by simpa using g.symm)
  have g : R = true := by simpa using g
  subst g
  refine acall_intro (adet_read (S := [0]) (allT_nil 42 [.cp [.lst 3 (Dt.pvL D), .nils, .nils, .nils]]) (.cons (.pv _) (.cons (.fn (.cons (.bp (.head _) rfl (.cons (.pv _) (.cons (.pv _) (.cons (.pv _) (.cons (.pv _) .nil))))) .nil)) .nil)) rfl) ?_
  set_option smartUnfolding false in conv => whnf
  refine ⟨⟨by decide, by decide, by decide, by decide⟩, ?_⟩
  set_option smartUnfolding false in conv => whnf
  refine ⟨⟨by decide, by decide, by decide, by decide⟩, ?_⟩
  set_option smartUnfolding false in conv => whnf
  refine ⟨⟨by decide, by decide, by decide, by decide⟩, ?_⟩
  set_option smartUnfolding false in conv => whnf
  refine acall_intro (adet_read (S := [4, 1, 2, 3]) (codes_det D) (.cons (.bp (ps := progC D) (.head _) rfl (.cons (.pv _) (.cons (.pv _) (.cons (.pv _) (.cons (.pv _) (.cons (.row (.tail _ (.head _)) rfl (Nat.le_refl 0) .nil) (.cons (.row (.tail _ (.tail _ (.head _))) rfl (Nat.le_refl 0) .nil) (.cons (.row (.tail _ (.tail _ (.tail _ (.head _)))) rfl (Nat.le_refl 0) .nil) (.cons (.pv _) .nil))))))))) .nil) rfl) ?_
  set_option smartUnfolding false in conv => whnf
  refine acall_intro (adet_read (S := [4, 1, 2, 3]) (forest_det D) (.cons (.bp (ps := progC D) (.head _) rfl (.cons (.pv _) (.cons (.pv _) (.cons (.pv _) (.cons (.pv _) (.cons (.row (.tail _ (.head _)) rfl (Nat.le_refl 0) .nil) (.cons (.row (.tail _ (.tail _ (.head _))) rfl (Nat.le_refl 0) .nil) (.cons (.row (.tail _ (.tail _ (.tail _ (.head _)))) rfl (Nat.le_refl 0) .nil) (.cons (.pv _) .nil))))))))) .nil) rfl) ?_
  set_option smartUnfolding false in conv => whnf
  refine acall_intro (adet_read (S := [4, 1, 2, 3]) (bound_det D) (.cons (.bp (ps := progC D) (.head _) rfl (.cons (.pv _) (.cons (.pv _) (.cons (.pv _) (.cons (.pv _) (.cons (.row (.tail _ (.head _)) rfl (Nat.le_refl 0) .nil) (.cons (.row (.tail _ (.tail _ (.head _))) rfl (Nat.le_refl 0) .nil) (.cons (.row (.tail _ (.tail _ (.tail _ (.head _)))) rfl (Nat.le_refl 0) .nil) (.cons (.pv _) .nil))))))))) .nil) rfl) ?_
  set_option smartUnfolding false in conv => whnf
  refine acall_hdet (scopes_hdet D) [4, 1, 2, 3] 5 rfl rfl ⟨rfl, rfl, rfl, rfl, trivial⟩ ?_
  set_option smartUnfolding false in conv => whnf
  refine vloop_intro (σ := Unit) (fun _ => True) (fun _ => [(1, .bp 0 0), (66, .pv (.int .i64 0)), (67, .pv (.int .i64 0))]) (fun _ => [.box 67 [.pv (.lst 3 (Dt.pvL D)), .pv .nils, .pv .nils, .pv .nils]]) (fun _ => 0) () trivial (weak_ren [0] 6 (by kernel_rfl) (blk (by kernel_rfl) trivial) ⟨(by kernel_rfl), (by kernel_rfl), (by kernel_rfl), trivial⟩) ?_
  rintro ⟨⟩ _
  set_option smartUnfolding false in conv => whnf
  refine vloop_intro (σ := Unit) (fun _ => True) (fun _ => [(77, .pv (.int .i64 0)), (78, .pv (.int .i64 0))]) (fun _ => []) (fun _ => 0) () trivial (weak_bare rfl ⟨(by kernel_rfl), (by kernel_rfl), trivial⟩) ?_
  rintro ⟨⟩ _
  set_option smartUnfolding false in conv => whnf
  exact rdB rfl

/-- value.known. -/
noncomputable def known (D : List Dt) (t : V) : Bool := dvalid D && V.okW D 0 t
end Go.AM

set_option linter.all false
set_option maxRecDepth 20000
set_option maxHeartbeats 4000000
namespace Go.AM
open Go.Proofs

/-! ### Valid data: what it says of a declaration -/
theorem decsR_get {D : List Dt} : ∀ {l : List Dt} {i j : Nat} {x : Dt}, decsR D i l = true → l[j]? = some x → 0 ≤ x.vars ∧ x.vars ≤ 6 ∧ x.cons.length ≤ 8 ∧ consR D (i + j) x.vars x.cons = true
  | [], i, j, x, _, h => by simp at h
  | y :: l, i, 0, x, h, hj => by
    rw [decsR_cons] at h
    simp only [Bool.and_eq_true, decide_eq_true_eq] at h
    simp at hj; subst hj
    exact ⟨h.1.1.1.1.1.1, h.1.1.1.1.1.2, h.1.1.1.2, h.1.2⟩
  | y :: l, i, j + 1, x, h, hj => by
    rw [decsR_cons] at h
    simp only [Bool.and_eq_true] at h
    have := decsR_get (j := j) h.2 (by simpa using hj)
    rw [show i + (j + 1) = i + 1 + j by omega]
    exact this
theorem consR_get {D : List Dt} {d : Nat} {vars : Int} : ∀ {l : List Cn} {c : Cn}, consR D d vars l = true → c ∈ l → argsR D d vars c.args = true
  | [], c, _, h => by simp at h
  | y :: l, c, h, hc => by
    rw [consR_cons] at h
    simp only [Bool.and_eq_true] at h
    rcases List.mem_cons.1 hc with rfl | hc
    · exact h.1.2
    · exact consR_get h.2 hc
theorem argsR_get {D : List Dt} {d : Nat} {vars : Int} : ∀ {l : List V} {a : V}, argsR D d vars l = true → a ∈ l → argR D d vars a = true
  | [], a, _, h => by simp at h
  | y :: l, a, h, hc => by
    rw [argsR_cons] at h
    simp only [Bool.and_eq_true] at h
    rcases List.mem_cons.1 hc with rfl | hc
    · exact h.1
    · exact argsR_get h.2 hc
theorem shape_mono {D : List Dt} {d : Nat} {vars k n : Int} {r : Bool × Int × Int} (h : V.shape (D.take d) vars k n = some r) : V.shape D vars k n = some r := by
  unfold V.shape at h ⊢
  split
  · rename_i h1; rwa [if_pos h1] at h
  rename_i h1; rw [if_neg h1] at h
  split
  · rename_i h2; rwa [if_pos h2] at h
  rename_i h2; rw [if_neg h2] at h
  split
  · rename_i h3
    rw [if_pos h3, List.getElem?_take] at h
    split at h
    · rename_i x hx
      split at hx
      · rw [hx]; exact h
      · cases hx
    · cases h
  rename_i h3; rwa [if_neg h3] at h
mutual
theorem okT_mono {D : List Dt} {d : Nat} {vars : Int} : ∀ t : V, V.okT (D.take d) vars t = true → V.okT D vars t = true
  | .mk k n ts, h => by
    rw [V.okT_mk] at h ⊢
    cases hs : V.shape (D.take d) vars k n with
    | none => rw [hs] at h; cases h
    | some r =>
      rw [hs] at h
      rw [shape_mono hs]
      obtain ⟨b, lo, hi⟩ := r
      simp only [Bool.and_eq_true] at h ⊢
      exact ⟨h.1, okTL_mono ts h.2⟩
theorem okTL_mono {D : List Dt} {d : Nat} {vars : Int} : ∀ l : List V, V.okTL (D.take d) vars l = true → V.okTL D vars l = true
  | [], _ => V.okTL_nil _ _
  | t :: l, h => by
    rw [V.okTL_cons] at h ⊢
    simp only [Bool.and_eq_true] at h ⊢
    exact ⟨okT_mono t h.1, okTL_mono l h.2⟩
end
theorem okTL_mem {D : List Dt} {vars : Int} : ∀ {l : List V} {t : V}, V.okTL D vars l = true → t ∈ l → V.okT D vars t = true
  | [], t, _, h => by simp at h
  | y :: l, t, h, hm => by
    rw [V.okTL_cons] at h
    simp only [Bool.and_eq_true] at h
    rcases List.mem_cons.1 hm with rfl | hm
    · exact h.1
    · exact okTL_mem h.2 hm
theorem V.subL_len (us : List V) : ∀ l : List V, (V.subL us l).length = l.length
  | [] => by rw [V.subL_nil]
  | t :: l => by rw [V.subL_cons, List.length_cons, List.length_cons, V.subL_len us l]
mutual
theorem sub_ok {D : List Dt} {us : List V} {vars w : Int} (hu : V.okTL D w us = true) (hl : (us.length : Int) = vars) : ∀ t : V, V.okT D vars t = true → V.okT D w (V.sub us t) = true
  | .mk k n ts, h => by
    by_cases h4 : k = 4
    · subst h4
      rw [V.okT_mk] at h
      have hs : V.shape D vars 4 n = some (decide (0 ≤ n) && decide (n < vars), 0, 0) := by unfold V.shape; rw [if_neg (by omega), if_pos rfl]
      rw [hs] at h
      simp only [Bool.and_eq_true, decide_eq_true_eq] at h
      rw [V.sub_mk, if_pos ⟨rfl, h.1.1.1.1, by omega⟩]
      have hm : us[n.toNat]?.getD (.mk 0 0 []) ∈ us := by
        rw [List.getElem?_eq_getElem (by omega)]; simp
      exact okTL_mem hu hm
    · rw [V.sub_mk, if_neg (fun e => h4 e.1), V.okT_mk, V.subL_len]
      rw [V.okT_mk] at h
      have hs : V.shape D vars k n = V.shape D w k n := by unfold V.shape; rw [if_neg (c := k = 4) h4, if_neg (c := k = 4) h4]
      rw [hs] at h
      cases hr : V.shape D w k n with
      | none => rw [hr] at h; cases h
      | some r =>
        rw [hr] at h
        obtain ⟨b, lo, hi⟩ := r
        simp only [Bool.and_eq_true] at h ⊢
        exact ⟨h.1, subL_ok hu hl ts h.2⟩
theorem subL_ok {D : List Dt} {us : List V} {vars w : Int} (hu : V.okTL D w us = true) (hl : (us.length : Int) = vars) : ∀ l : List V, V.okTL D vars l = true → V.okTL D w (V.subL us l) = true
  | [], _ => by rw [V.subL_nil, V.okTL_nil]
  | t :: l, h => by
    rw [V.okTL_cons] at h
    simp only [Bool.and_eq_true] at h
    rw [V.subL_cons, V.okTL_cons, sub_ok hu hl t h.1, subL_ok hu hl l h.2]; rfl
end
theorem flds_mem {ts : List V} : ∀ {l fs : List V}, flds ts l = some fs → ∀ f ∈ fs, f.cnt ≤ 200 ∧ ∃ a ∈ l, f = V.sub ts a
  | [], fs, h, f, hf => by simp [flds_nil] at h; subst h; simp at hf
  | a :: l, fs, h, f, hf => by
    rw [flds_cons] at h
    split at h
    · cases h
    · rename_i hn
      cases hr : flds ts l with
      | none => rw [hr] at h; cases h
      | some r =>
        rw [hr] at h
        cases h
        rcases List.mem_cons.1 hf with rfl | hf
        · exact ⟨by omega, a, by simp, rfl⟩
        · obtain ⟨h1, b, hb, h2⟩ := flds_mem hr f hf
          exact ⟨h1, b, by simp [hb], h2⟩
/-- A good ground type. -/
structure Good (D : List Dt) (t : V) : Prop where
  ok : V.okT D 0 t = true
  cnt : t.cnt ≤ 200
theorem Good.kid {D : List Dt} {k n : Int} {ts : List V} {u : V} (h : Good D (.mk k n ts)) (hu : u ∈ ts) : Good D u := by
  have h1 := h.ok
  have h2 := h.cnt
  rw [V.okT_mk] at h1
  rw [V.cnt_mk] at h2
  have := V.cnt_mem hu
  refine ⟨?_, by omega⟩
  split at h1
  · simp only [Bool.and_eq_true] at h1
    exact okTL_mem h1.2 hu
  · cases h1
theorem Good.fields {D : List Dt} (hv : dvalid D = true) {t : V} (h : Good D t) {c : Int} {fs : List V} (hf : fieldsS D t c = some fs) : ∀ f ∈ fs, Good D f := by
  obtain ⟨k, n, ts⟩ := t
  have hok := h.ok
  unfold fieldsS conOf at hf
  simp only at hf
  by_cases hk : k = 5 ∧ 0 ≤ n ∧ 0 ≤ c
  · rw [if_pos hk] at hf
    cases hx : D[n.toNat]? with
    | none => rw [hx] at hf; simp at hf
    | some x =>
      rw [hx] at hf
      simp only at hf
      by_cases hl : (ts.length : Int) = x.vars
      · rw [if_pos hl] at hf
        cases hc : x.cons[c.toNat]? with
        | none => rw [hc] at hf; simp at hf
        | some cc =>
          rw [hc] at hf
          unfold dvalid at hv
          simp only [Bool.and_eq_true] at hv
          have hd := decsR_get hv.2.1 hx
          rw [Nat.zero_add] at hd
          have hca := consR_get hd.2.2.2 (List.mem_of_getElem? hc)
          simp only [V.kids] at hf
          intro f hfm
          obtain ⟨h1, a, ha, rfl⟩ := flds_mem hf f hfm
          refine ⟨?_, h1⟩
          have har := argsR_get hca ha
          rw [← arg_eq hx hd.2.1] at har
          simp only [Bool.and_eq_true] at har
          have hw := har.1
          unfold V.okW at hw
          simp only [Bool.and_eq_true] at hw
          refine sub_ok (vars := x.vars) ?_ hl a (okT_mono a hw.2)
          rw [V.okT_mk] at hok
          split at hok
          · simp only [Bool.and_eq_true] at hok; exact hok.2
          · cases hok
      · rw [if_neg hl] at hf; simp at hf
  · rw [if_neg hk] at hf; simp at hf

theorem Good.decl {D : List Dt} {n : Int} {ts : List V} (h : Good D (.mk 5 n ts)) : 0 ≤ n ∧ n < D.length := by
  have h1 := h.ok
  rw [V.okT_mk] at h1
  unfold V.shape at h1
  rw [if_neg (by omega), if_neg (by omega), if_pos rfl] at h1
  cases hx : D[n.toNat]? with
  | none => rw [hx] at h1; cases h1
  | some x =>
    rw [hx] at h1
    simp only [Bool.and_eq_true, decide_eq_true_eq] at h1
    have := (List.getElem?_eq_some_iff.1 hx).1
    omega
theorem Good.one {D : List Dt} {k n : Int} {ts : List V} (h : Good D (.mk k n ts)) (hk : k = 7 ∨ k = 8) : ∃ u, ts = [u] := by
  have h1 := h.ok
  rw [V.okT_mk] at h1
  unfold V.shape at h1
  rw [if_neg (by omega), if_neg (by omega), if_neg (by omega), if_neg (by omega), if_pos hk] at h1
  simp only [Bool.and_eq_true, decide_eq_true_eq] at h1
  match ts, h1 with
  | [u], _ => exact ⟨u, rfl⟩
  | [], h1 => simp at h1
  | _ :: _ :: _, h1 => simp at h1; omega
theorem conOf_big {D : List Dt} (hv : dvalid D = true) {tn : Int} {ts : List V} {n : Int} (h : n < 0 ∨ 8 ≤ n) : fieldsS D (.mk 5 tn ts) n = Option.none := by
  cases hf : fieldsS D (.mk 5 tn ts) n with
  | none => rfl
  | some fs =>
    exfalso
    unfold fieldsS conOf at hf
    simp only at hf
    by_cases hk : True ∧ 0 ≤ tn ∧ 0 ≤ n
    · rw [if_pos hk] at hf
      cases hx : D[tn.toNat]? with
      | none => rw [hx] at hf; simp at hf
      | some x =>
        rw [hx] at hf
        unfold dvalid at hv
        simp only [Bool.and_eq_true] at hv
        have hd := decsR_get hv.2.1 hx
        have hc : x.cons[n.toNat]? = Option.none := List.getElem?_eq_none (by omega)
        simp only [hc] at hf
        by_cases hl : (ts.length : Int) = x.vars
        · rw [if_pos hl] at hf; simp at hf
        · rw [if_neg hl] at hf; simp at hf
    · rw [if_neg hk] at hf; simp at hf
theorem known_good {D : List Dt} {t : V} (h : known D t = true) : dvalid D = true ∧ Good D t := by
  unfold known V.okW at h
  simp only [Bool.and_eq_true, decide_eq_true_eq] at h
  exact ⟨h.1, h.2.2, h.2.1⟩
theorem boolsP_got {l : List Bool} {i : Nat} {b : Bool} (h : l[i]? = some b) : (boolsP l)[i]? = some (.bool b) := by simp [boolsP, h]
theorem boolsP_len (l : List Bool) : (boolsP l).length = l.length := by simp [boolsP]
theorem drop_bool {l : List Bool} {i : Nat} (h : i < l.length) : ∃ b, l[i]? = some b ∧ (boolsP l)[i]? = some (.bool b) ∧ l.drop i = b :: l.drop (i + 1) :=
  ⟨l[i], by simp [h], boolsP_got (by simp [h]), List.drop_eq_getElem_cons h⟩
end Go.AM

set_option linter.all false
set_option maxRecDepth 20000
set_option maxHeartbeats 4000000
namespace Go.AM
open Go.Proofs

theorem flds_map {ts : List V} : ∀ {l fs : List V}, flds ts l = some fs → fs = l.map (V.sub ts)
  | [], fs, h => by simp [flds_nil] at h; subst h; rfl
  | a :: l, fs, h => by
    rw [flds_cons] at h
    split at h
    · cases h
    · cases hr : flds ts l with
      | none => rw [hr] at h; cases h
      | some r =>
        rw [hr] at h
        cases h
        rw [flds_map hr]; rfl
theorem subL_self (ts : List V) : ∀ (l : List V) (i : Nat), selfArgs l i = true → i + l.length = ts.length → V.subL ts l = ts.drop i
  | [], i, _, h => by rw [V.subL_nil, List.drop_of_length_le (by simp at h; omega)]
  | .mk k n us :: l, i, hs, h => by
    rw [selfArgs_cons] at hs
    simp only [Bool.and_eq_true, decide_eq_true_eq, List.length_cons] at hs h
    obtain ⟨⟨⟨rfl, rfl⟩, _⟩, hs⟩ := hs
    have hi : i < ts.length := by omega
    rw [V.subL_cons, V.sub_mk, if_pos ⟨rfl, by omega, by omega⟩, subL_self ts l (i + 1) hs (by omega), List.drop_eq_getElem_cons hi]
    congr 1
    simp [hi]
theorem sub_self {d : Int} {ts : List V} {a : V} (h : isSelf d ts.length a = true) : V.sub ts a = .mk 5 d ts := by
  obtain ⟨k, n, us⟩ := a
  rw [isSelf_mk] at h
  simp only [Bool.and_eq_true, decide_eq_true_eq] at h
  obtain ⟨⟨⟨rfl, rfl⟩, hl⟩, hs⟩ := h
  rw [V.sub_mk, if_neg (by omega), subL_self ts us 0 hs (by omega)]; rfl
end Go.AM
