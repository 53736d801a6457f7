import Derived.Test.YtfkkfgeepiopaaaGreatSubC
set_option linter.all false
set_option maxRecDepth 4000
set_option maxHeartbeats 2000000
namespace Go.AM
open Go.Proofs

/-! ### The fields of a constructor -/
/-- The data types are small. -/
structure DOK (D : List Dt) : Prop where
  len : D.length ≤ 1000
  cons : ∀ d ∈ D, d.cons.length ≤ 1000
  args : ∀ d ∈ D, ∀ c ∈ d.cons, c.args.length ≤ 1000
  arg : ∀ d ∈ D, ∀ c ∈ d.cons, ∀ a ∈ c.args, a.cnt ≤ 1000
def flds (ts : List V) : List V → Option (List V)
  | [] => some []
  | a :: l => if 200 < (V.sub ts a).cnt then Option.none else (match flds ts l with | some r => some (V.sub ts a :: r) | Option.none => Option.none)
theorem flds_nil (ts : List V) : flds ts [] = some [] := rfl
theorem flds_cons (ts : List V) (a : V) (l : List V) : flds ts (a :: l) = if 200 < (V.sub ts a).cnt then Option.none else (match flds ts l with | some r => some (V.sub ts a :: r) | Option.none => Option.none) := rfl
/-- The constructor c of a type's declaration. -/
def conOf (D : List Dt) : V → Int → Option Cn
  | .mk k n ts, c => if k = 5 ∧ 0 ≤ n ∧ 0 ≤ c then (match D[n.toNat]? with | some d => if (ts.length : Int) = d.vars then d.cons[c.toNat]? else Option.none | Option.none => Option.none) else Option.none
def V.kids : V → List V | .mk _ _ ks => ks
def fieldsS (D : List Dt) (t : V) (c : Int) : Option (List V) := match conOf D t c with
  | some c => flds t.kids c.args
  | Option.none => Option.none
/-- A list or nothing, and whether there is one. -/
def optP (ps : List PV) : Option (List V) → PV
  | some l => .tuple [.lst 3 (ps ++ V.pvL l), .bool true]
  | Option.none => .tuple [.lst 3 [], .bool false]
theorem optP_some (ps : List PV) (l : List V) : optP ps (some l) = .tuple [.lst 3 (ps ++ V.pvL l), .bool true] := rfl
theorem optP_none (ps : List PV) : optP ps Option.none = .tuple [.lst 3 [], .bool false] := rfl
theorem optP_cons (ps : List PV) (v : V) (o : Option (List V)) : optP ps (match o with | some r => some (v :: r) | Option.none => Option.none) = optP (ps ++ [v.pv]) o := by
  cases o <;> simp [optP, V.pvL_cons]
theorem rd_no {H : Heap} : Rd (fun _ => True) H (.pv (.tuple [.nils, .bool false])) (.tuple [.lst 3 [], .bool false]) := .le (.tuple (.cons (.nils 3) (.cons (.refl _) .nil)))
mutual
theorem V.sub_cnt {us : List V} {M : Nat} (hM : 1 ≤ M) (hu : ∀ u ∈ us, u.cnt ≤ M) : ∀ t : V, (V.sub us t).cnt ≤ t.cnt * M
  | .mk k n ts => by
    rw [V.sub_mk]
    split
    · rename_i h
      have : us[n.toNat]?.getD (.mk 0 0 []) ∈ us := by
        rw [List.getElem?_eq_getElem (by omega)]; simp
      have := hu _ this
      have h1 := V.cnt_pos (.mk k n ts)
      calc _ ≤ M := this
        _ = 1 * M := by simp
        _ ≤ _ := Nat.mul_le_mul_right _ h1
    · rw [V.cnt_mk, V.cnt_mk, Nat.add_mul]
      have := V.subL_cnt hM hu ts
      omega
theorem V.subL_cnt {us : List V} {M : Nat} (hM : 1 ≤ M) (hu : ∀ u ∈ us, u.cnt ≤ M) : ∀ l : List V, V.cntL (V.subL us l) ≤ V.cntL l * M
  | [] => by rw [V.subL_nil]; simp [V.cntL_nil]
  | t :: l => by
    rw [V.subL_cons, V.cntL_cons, V.cntL_cons, Nat.add_mul]
    have := V.sub_cnt hM hu t
    have := V.subL_cnt hM hu l
    omega
end


theorem tfields_det {D : List Dt} (hD : DOK D) (t : V) (ht : t.cnt ≤ 1000) (c : Int) : Det Tryz.prog 30 [.lst 3 (Dt.pvL D), t.pv, .int .i64 c] (optP [] (fieldsS D t c)) := by
  obtain ⟨k, n, ts⟩ := t
  rw [V.cnt_mk] at ht
  have hts : ∀ u ∈ ts, u.cnt ≤ 1000 := fun u hu => by have := V.cnt_mem hu; omega
  have hsub := tsubst_det ts (fun u hu => by have := hts u hu; omega)
  rw [V.pv_mk]
  generalize hR : optP [] (fieldsS D (.mk k n ts) c) = R
  have no : conOf D (.mk k n ts) c = Option.none → .tuple [.lst 3 [], .bool false] = R := fun h => by rw [← hR, fieldsS, h]; rfl
  refine det_of_vc' (E := S.E 0) rfl fol Tryz.func30 rfl rfl (slots := [6, 7]) rfl rfl fun hw => ?_
  set_option smartUnfolding false in conv => whnf
  refine br_intro (fun h1 => ?_) (fun h1 => ?_) <;> set_option smartUnfolding false in conv => whnf
  · have h1 : ¬ k = 5 := by simpa using h1
    rw [← no (by simp [conOf, h1])]; exact rd_no
  have h1 : k = 5 := by simpa using h1
  refine br_intro (fun h2 => ?_) (fun h2 => ?_) <;> set_option smartUnfolding false in conv => whnf
  · have h2 := dT h2
    rw [← no (by rw [conOf, if_neg (by omega)])]; exact rd_no
  have h2 := dF h2
  refine br_intro (fun h3 => ?_) (fun h3 => ?_) <;> set_option smartUnfolding false in conv => whnf
  · have h3 := dT h3
    rw [Dt.pvL_len] at h3
    rw [← no (by rw [conOf, List.getElem?_eq_none (by omega)]; split <;> rfl)]; exact rd_no
  have h3 := dF h3
  rw [Dt.pvL_len] at h3
  obtain ⟨nm, vs, cs, hd, hg, hg2, _⟩ := Dt.get_pvL (l := D) (i := n.toNat) (by omega)
  refine ⟨Dt.ag nm vs cs, ⟨by omega, hg⟩, ?_⟩
  set_option smartUnfolding false in conv => whnf
  refine br_intro (fun h4 => ?_) (fun h4 => ?_) <;> set_option smartUnfolding false in conv => whnf
  · rw [V.pvL_len] at h4
    have h4 : ¬ (ts.length : Int) = vs := by simpa using h4
    rw [← no (by simp [conOf, hg2, h4])]; exact rd_no
  rw [V.pvL_len] at h4
  have h4 : (ts.length : Int) = vs := by simpa using h4
  refine br_intro (fun h5 => ?_) (fun h5 => ?_) <;> set_option smartUnfolding false in conv => whnf
  · have h5 := dT h5
    rw [← no (by rw [conOf, if_neg (by omega)])]; exact rd_no
  have h5 := dF h5
  refine br_intro (fun h6 => ?_) (fun h6 => ?_) <;> set_option smartUnfolding false in conv => whnf
  · have h6 := dT h6
    rw [Cn.pvL_len] at h6
    rw [← no (by simp only [conOf, hg2]; rw [List.getElem?_eq_none (by omega)]; simp)]; exact rd_no
  have h6 := dF h6
  rw [Cn.pvL_len] at h6
  obtain ⟨cn, cas, hc, hcg, hcg2, _⟩ := Cn.get_pvL (l := cs) (i := c.toNat) (by omega)
  have hcl := hD.args _ hd _ hc
  have hca := hD.arg _ hd _ hc
  simp only at hcl hca
  have ec : conOf D (.mk k n ts) c = some ⟨cn, cas⟩ := by simp only [conOf, hg2, h4, hcg2]; rw [if_pos (by omega)]; simp
  rw [fieldsS, ec] at hR
  simp only [V.kids] at hR
  refine ⟨Cn.ag cn cas, ⟨by omega, hcg⟩, ?_⟩
  set_option smartUnfolding false in conv => whnf
  have hl : cas.length ≤ 9223372036854775807 := by omega
  refine vloop_intro (σ := Nat × List PV) (fun x => x.1 ≤ cas.length ∧ optP x.2 (flds ts (cas.drop x.1)) = R ∧ x.2.length = x.1) (fun x => [(4, .bp 0 0), (9, lsV 1 x.2), (55, .pv (.lst 3 (V.pvL cas))), (56, .pv (.int .i64 (V.pvL cas).length)), (57, .pv (.int .i64 x.1))])
    (fun x => [.box 28 [.pv (.int .i64 k), .pv (.int .i64 n), .pv (.lst 3 (V.pvL ts))], lsB 28 3 x.2])
    (fun x => cas.length - x.1) (0, []) ⟨by simp, by simpa using hR, rfl⟩ (weak_ren [0, 1] 2 (by kernel_rfl) (blk (by kernel_rfl) (blkD trivial)) ⟨(by kernel_rfl), (by kernel_rfl), (by kernel_rfl), (by kernel_rfl), (by kernel_rfl), trivial⟩) ?_
  rintro ⟨i, ps⟩ ⟨hi, hs, hpl⟩
  simp only at hi hs hpl
  set_option smartUnfolding false in conv => whnf
  refine br_intro (fun h => ?_) (fun h => ?_) <;> set_option smartUnfolding false in conv => whnf
  · replace h : i < cas.length := by have := dT h; rw [V.pvL_len] at this; simpa using this
    obtain ⟨⟨k', n', ts'⟩, hv, hg, _, hd⟩ := V.get_pvL h
    have hcnt : (V.sub ts (.mk k' n' ts')).cnt ≤ 1000000 := Nat.le_trans (V.sub_cnt (M := 1000) (by omega) hts _) (by have := hca _ hv; omega)
    have hsb := hsub (.mk k' n' ts') (by have := hca _ hv; omega)
    rw [hd, flds_cons] at hs
    have hsz := tsize_det (V.sub ts (.mk k' n' ts')) 201 (by omega) (by omega)
    cases he : V.sub ts (.mk k' n' ts') with
    | mk k2 n2 ts2 =>
      rw [he] at hs hsb hsz
      rw [V.pv_mk] at hsz hg
      rw [V.pv_mk, V.pv_mk] at hsb
      refine ⟨V.ag k' n' ts', ⟨by simp, by simpa using hg⟩, ?_⟩
      set_option smartUnfolding false in conv => whnf
      refine acall_det (ps := [V.ag k' n' ts', .lst 3 (V.pvL ts)]) hsb ?_
      set_option smartUnfolding false in conv => whnf
      refine acall_det (ps := [V.ag k2 n2 ts2, .int .i64 201]) hsz ?_
      set_option smartUnfolding false in conv => whnf
      refine br_intro (fun g => ?_) (fun g => ?_) <;> set_option smartUnfolding false in conv => whnf
      · have g := dT g
        rw [if_pos (by omega), optP_none] at hs
        rw [← hs]
        exact rd_no
      · have g := dF g
        rw [if_neg (by omega), optP_cons, V.pv_mk] at hs
        refine ⟨Nat.le_refl 1, ?_⟩
        set_option smartUnfolding false in conv => whnf
        cases ps with
        | nil =>
          set_option smartUnfolding false in conv => whnf
          refine ⟨⟨⟨by decide, by decide⟩, by decide⟩, ?_⟩
          set_option smartUnfolding false in conv => whnf
          exact ⟨(i + 1, [] ++ [V.ag k2 n2 ts2]), ⟨h, hs, by simp at hpl ⊢; omega⟩, weak_ren [0, 5] 6 (by kernel_rfl) (blk (by kernel_rfl) (blk (by kernel_rfl) trivial)) ⟨(by kernel_rfl), (by kernel_rfl), (by kernel_rfl), (by kernel_rfl), sUp h hl, trivial⟩, subUp h⟩
        | cons p ps =>
          set_option smartUnfolding false in conv => whnf
          simp only [List.length_cons] at hpl
          refine ⟨⟨⟨by simp [pvs_len], by simp only [Nat.succ_eq_add_one]; omega⟩, by rw [show ((S.E 0).te 28).bytes = 40 from rfl]; simp only [Nat.succ_eq_add_one]; omega⟩, ?_⟩
          set_option smartUnfolding false in conv => whnf
          exact ⟨(i + 1, (p :: ps) ++ [V.ag k2 n2 ts2]), ⟨h, hs, by simp; omega⟩, weak_ren [0, 5] 6 (by kernel_rfl) (blk (by kernel_rfl) (blkR_snoc (by kernel_rfl) trivial)) ⟨(by kernel_rfl), by simp only [lsV_snoc]; kernel_rfl, (by kernel_rfl), (by kernel_rfl), sUp h hl, trivial⟩, subUp h⟩
  · replace h : ¬ i < cas.length := by have := dF h; rw [V.pvL_len] at this; simpa using this
    rw [List.drop_of_length_le (by omega), flds_nil, optP_some, V.pvL_nil, List.append_nil] at hs
    rw [← hs]
    cases ps with
    | nil =>
      set_option smartUnfolding false in conv => whnf
      exact .le (.tuple (.cons (.nils 3) (.cons (.refl _) .nil)))
    | cons p ps =>
      set_option smartUnfolding false in conv => whnf
      exact .tup (.cons (rd_lsE (k := 1) rfl rfl trivial rfl) (.cons (.pv _) .nil))
end Go.AM
