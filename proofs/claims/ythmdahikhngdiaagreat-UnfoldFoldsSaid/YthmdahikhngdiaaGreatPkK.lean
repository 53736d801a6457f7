import Derived.Test.YthmdahikhngdiaaGreatPkJ
set_option linter.all false
set_option maxRecDepth 20000
set_option maxHeartbeats 4000000
namespace Go.AM
open Go.Proofs

/-! ### keep.Indices -/
def idxs (l : List Ix) : Bool := decide ((l.length : Int) ≤ 8) && l.all (fun v => (v.val 40).1)
theorem keepIs_det (l : List Ix) : Det Tryz.prog 14 [.lst 2 (Ix.pvL l), .int .i64 8] (.bool (idxs l)) := by
  have hk := fun v : Ix => keepI_det v
  generalize hR : idxs l = R
  unfold idxs at hR
  refine det_of_vc' (E := S.E 0) rfl fol Tryz.func14 rfl rfl (slots := [4]) rfl rfl fun hw => ?_
  have hl : l.length ≤ 9223372036854775807 := by have := hw.1.1; rwa [Ix.pvL_len] at this
  set_option smartUnfolding false in conv => whnf
  refine vloop_intro (σ := Nat) (fun i => i ≤ l.length ∧ (l.drop i).all (fun v => (v.val 40).1) = l.all (fun v => (v.val 40).1)) (fun i => [(0, .pv (.lst 2 (Ix.pvL l))), (1, .pv (.int .i64 8)), (5, .pv (.int .i64 i))]) (fun _ => []) (fun i => l.length - i) 0 ⟨Nat.zero_le _, by simp⟩ (weak_bare rfl ⟨(by kernel_rfl), (by kernel_rfl), (by kernel_rfl), trivial⟩) ?_
  rintro i ⟨hi, hs⟩
  set_option smartUnfolding false in conv => whnf
  refine br_intro (fun h => ?_) (fun h => ?_) <;> set_option smartUnfolding false in conv => whnf
  · replace h : i < l.length := by have := dT h; rw [Ix.pvL_len] at this; simpa using this
    refine br_intro (fun g => ?_) (fun g => ?_) <;> set_option smartUnfolding false in conv => whnf
    · refine Ix.get_elim h fun n1 es1 hv hg hg0 hd => ?_
      rw [hd, List.all_cons] at hs
      have hk := hk (.mk n1 es1)
      rw [Ix.pv_mk] at hk
      refine ⟨Ix.ag n1 es1, ⟨by simp, by simpa using hg⟩, ?_⟩
      set_option smartUnfolding false in conv => whnf
      refine acall_det (ps := [Ix.ag n1 es1]) hk ?_
      set_option smartUnfolding false in conv => whnf
      refine br_intro (fun q => ?_) (fun q => ?_) <;> set_option smartUnfolding false in conv => whnf
      · have q : ((Ix.mk n1 es1).val 40).1 = false := by simpa using q
        exact rdB (by rw [← hR, ← hs, q]; simp)
      · have q : ((Ix.mk n1 es1).val 40).1 = true := by simpa using q
        exact ⟨i + 1, ⟨h, by rw [← hs, q]; simp⟩, weak_bare rfl ⟨(by kernel_rfl), (by kernel_rfl), sUp h hl, trivial⟩, subUp h⟩
    · have g := dF g
      exact rdB (by rw [← hR]; rw [Ix.pvL_len, decide_eq_false (by omega)]; simp)
  · replace h : ¬ i < l.length := by have := dF h; rw [Ix.pvL_len] at this; simpa using this
    rw [List.drop_of_length_le (by omega), List.all_nil] at hs
    exact rdB (by rw [← hR, ← hs, Ix.pvL_len]; simp)
attribute [irreducible] idxs

/-! ### The constructor of a type -/
def conE (D : List Dt) (tk tn c : Int) : Int := if tk = 5 then (match conAt D tn c with | some _ => 0 | Option.none => 8) else 6
theorem con_det {D : List Dt} (tk tn : Int) (ts : List V) (hg : Good D (.mk tk tn ts)) (c : Int) : Det Tryz.prog 32 [.lst 3 (Dt.pvL D), V.ag tk tn ts, .int .i64 c] (.int .i64 (conE D tk tn c)) := by
  generalize hR : conE D tk tn c = R
  unfold conE at hR
  refine det_of_vc' (E := S.E 0) rfl fol Tryz.func32 rfl rfl (slots := [6]) rfl rfl fun hw => ?_
  set_option smartUnfolding false in conv => whnf
  refine br_intro (fun h1 => ?_) (fun h1 => ?_) <;> set_option smartUnfolding false in conv => whnf
  · have h1 : ¬ tk = 5 := by simpa using h1
    rw [if_neg h1] at hR
    exact rdI hR
  have h1 : tk = 5 := by simpa using h1
  subst h1
  rw [if_pos rfl] at hR
  have hd := hg.decl
  unfold conAt at hR
  refine br_intro (fun h2 => ?_) (fun h2 => ?_) <;> set_option smartUnfolding false in conv => whnf
  · have h2 := dT h2
    rw [if_neg (c := 0 ≤ tn ∧ 0 ≤ c) (by omega)] at hR
    exact rdI hR
  have h2 := dF h2
  rw [if_pos (c := 0 ≤ tn ∧ 0 ≤ c) (by omega)] at hR
  refine Dt.get_elim (l := D) (i := tn.toNat) (by omega) fun nm vs cs hmem hdg hdg2 _ => ?_
  rw [hdg2] at hR
  simp only at hR
  refine ⟨Dt.ag nm vs cs, ⟨by omega, hdg⟩, ?_⟩
  set_option smartUnfolding false in conv => whnf
  refine br_intro (fun h3 => ?_) (fun h3 => ?_) <;> set_option smartUnfolding false in conv => whnf
  · have h3 := dT h3
    rw [Cn.pvL_len] at h3
    rw [List.getElem?_eq_none (l := cs) (by omega)] at hR
    exact rdI hR
  · have h3 := dF h3
    rw [Cn.pvL_len] at h3
    rw [List.getElem?_eq_getElem (l := cs) (by omega)] at hR
    exact rdI hR
attribute [irreducible] conE

/-! ### Fold: what both answer -/
noncomputable def foldS (D : List Dt) : V → Int → List Ix → Int × Ix
  | .mk tk tn ts, c, row =>
    if known D (.mk tk tn ts) = true then
      if tk = 5 then
        match conAt D tn c with
        | some (_, y) => if (row.length : Int) = y.args.length then
            match fieldsS D (.mk tk tn ts) c with
            | some fs => match sumD D row fs with
              | some s => if 1 + s ≤ 6 then (0, foldI c row (recS D tn c)) else (13, .mk 0 [])
              | Option.none => (1, .mk 0 [])
            | Option.none => (1, .mk 0 [])
          else (5, .mk 0 [])
        | Option.none => (8, .mk 0 [])
      else (6, .mk 0 [])
    else (1, .mk 0 [])
theorem foldS_mk (D : List Dt) (tk tn : Int) (ts : List V) (c : Int) (row : List Ix) : foldS D (.mk tk tn ts) c row =
    (if known D (.mk tk tn ts) = true then
      if tk = 5 then
        match conAt D tn c with
        | some (_, y) => if (row.length : Int) = y.args.length then
            match fieldsS D (.mk tk tn ts) c with
            | some fs => match sumD D row fs with
              | some s => if 1 + s ≤ 6 then (0, foldI c row (recS D tn c)) else (13, .mk 0 [])
              | Option.none => (1, .mk 0 [])
            | Option.none => (1, .mk 0 [])
          else (5, .mk 0 [])
        | Option.none => (8, .mk 0 [])
      else (6, .mk 0 [])
    else (1, .mk 0 []) : Int × Ix) := rfl
attribute [irreducible] foldS
def foldP (x : Int × Ix) : PV := .tuple [x.2.pv, .int .i64 x.1]
theorem rd_ferr {S : Nat → Prop} {H : Heap} {e : Int} {x : Int × Ix} (h : (e, Ix.mk 0 []) = x) : Rd S H (.pv (.tuple [.agg [.int .i64 0, .nils], .int .i64 e])) (foldP x) := by
  subst h
  unfold foldP
  rw [Ix.pv_mk, Ix.ag, Ix.pvL_nil]
  exact .le (.tuple (.cons (.agg (.cons (.refl _) (.cons (.nils 2) .nil))) (.cons (.refl _) .nil)))
theorem pickI_pos {q : Bool} : ∀ (fs : List Ix) (bs : List Bool) (l : List Ix) (i : Nat), (∀ j, fs[j]? = l[i + j]?) → fs.length = bs.length → (pos q bs i).filterMap (fun k => l[k]?) = pickI q fs bs
  | [], [], l, i, _, _ => by rw [pos_nil, pickI_nil]; rfl
  | [], b :: bs, l, i, _, h => by simp at h
  | f :: fs, [], l, i, _, h => by simp at h
  | f :: fs, b :: bs, l, i, hg, h => by
    have h0 := hg 0
    rw [Nat.add_zero] at h0
    have ih := pickI_pos (q := q) fs bs l (i + 1) (fun j => by have := hg (j + 1); rw [show i + 1 + j = i + (j + 1) by omega]; simpa using this) (by simpa using h)
    rw [pos_cons, pickI_cons]
    split
    · rw [List.filterMap_cons, ← h0, List.getElem?_cons_zero]
      simp only
      rw [ih]
    · exact ih
/-- The first element, being made. -/
def fstA (k : Nat) (c : Int) : List PV → AV
  | [] => .pv (.agg [.int .i64 c, .nils])
  | _ :: xs => .mix [.pv (.int .i64 c), .row k (Nat.succ xs.length)]
theorem ren_fst (ρ : Nat → Nat) (k : Nat) (c : Int) (ps : List PV) : renA ρ (fstA k c ps) = fstA (ρ k) c ps := by cases ps <;> rfl
theorem blkR_fst {ρ : Nat → Nat} {H : Heap} {k j j' t sz : Nat} {c : Int} {ps qs : List PV} {xs : List AV} {l : Heap} (h : hget H (ρ k) = .row t sz xs) (hj : ρ j = j') (e : xs = fstA j' c ps :: pvs qs) (hl : BlkR ρ H (k + 1) l) : BlkR ρ H k (.row t sz (fstA j c ps :: pvs qs) :: l) := by
  refine ⟨?_, hl⟩
  show renB ρ (.row t sz (fstA j c ps :: pvs qs)) = _
  rw [h, e]
  simp only [renB, renL, renL_pvs, ren_fst, hj]
theorem blkR_box {ρ : Nat → Nat} {H : Heap} {k j j' t n n' : Nat} {a : PV} {l : Heap} (h : hget H (ρ k) = .box t [.pv a, .row j' n']) (hj : ρ j = j') (e : n = n') (hl : BlkR ρ H (k + 1) l) : BlkR ρ H k (.box t [.pv a, .row j n] :: l) := by
  refine ⟨?_, hl⟩
  show renB ρ (.box t [.pv a, .row j n]) = _
  rw [h]
  subst e hj
  rfl
theorem app_fst {a : AV} {qs rs : List PV} : appL (Nat.succ qs.length) (a :: pvs qs) rs.length (pvs rs) = a :: pvs (qs ++ rs) := by
  simp only [appL, pvs_map, List.take_succ_cons, List.map_append, List.cons_append]
  rw [List.take_of_length_le (by simp), List.take_of_length_le (by simp)]
theorem rd_fstA {S : Nat → Prop} {H : Heap} {j t : Nat} {c : Int} {ps : List PV} (hs : ps ≠ [] → S j) (hj : hget H j = lsB t 2 ps) : Rd S H (fstA j c ps) (.agg [.int .i64 c, .lst 2 ps]) := by
  cases ps with
  | nil => exact .le (.agg (.cons (.refl _) (.cons (.nils 2) .nil)))
  | cons p ps => exact .mix (.cons (.pv _) (.cons (rd_ls (k := j) rfl (hs (by simp)) hj) .nil))
theorem rd_kids {S : Nat → Prop} {H : Heap} {k j t t' n : Nat} {c : Int} {ps qs : List PV} (hs : S k) (hs' : ps ≠ [] → S j) (hk : hget H k = .row t 2 (fstA j c ps :: pvs qs)) (hj : hget H j = lsB t' 2 ps) (hn : n = Nat.succ qs.length) : Rd S H (.row k n) (.lst 2 (.agg [.int .i64 c, .lst 2 ps] :: qs)) := by
  have := Rd.row (S := S) (n := n) (ps := .agg [.int .i64 c, .lst 2 ps] :: qs) hs hk (by simp only [List.length_cons, pvs_len]; omega) (.cons (rd_fstA hs' hj) (RdL_pvs _))
  rwa [List.take_of_length_le (by simp only [List.length_cons]; omega)] at this
theorem rd_frow {S : Nat → Prop} {H : Heap} {k n : Nat} {ps : List PV} (hs : S k) (hk : hget H k = .frozen 2 ps) (hn : n = ps.length) : Rd S H (.row k n) (.lst 2 ps) := by
  have := Rd.frow (S := S) (n := n) hs hk (by omega)
  rwa [List.take_of_length_le (by omega)] at this
theorem pv_fold (c : Int) (row : List Ix) (bs : List Bool) : (foldI c row bs).pv = .agg [.int .i64 0, .lst 2 (.agg [.int .i64 c, .lst 2 (Ix.pvL (pickI false row bs))] :: Ix.pvL (kidsL (pickI true row bs)))] := by
  unfold foldI
  rw [Ix.pv_mk, Ix.ag, Ix.pvL_cons, Ix.pv_mk]
theorem Ix.pvL_app (l m : List Ix) : Ix.pvL (l ++ m) = Ix.pvL l ++ Ix.pvL m := by simp [Ix.pvL_eq]
theorem kids_cnt : ∀ {l : List Ix}, Ix.cntL (kidsL l) + l.length ≤ Ix.cntL l
  | [] => by rw [kidsL_nil]; simp [Ix.cntL_nil]
  | .mk n ks :: l => by
    have := kids_cnt (l := l)
    rw [kidsL_cons, Ix.cntL_cons, Ix.cnt_mk, List.length_cons]
    have e : ∀ a b : List Ix, Ix.cntL (a ++ b) = Ix.cntL a + Ix.cntL b := fun a b => by
      induction a with
      | nil => rw [List.nil_append, Ix.cntL_nil]; omega
      | cons x a ih => rw [List.cons_append, Ix.cntL_cons, Ix.cntL_cons, ih]; omega
    rw [e]; omega
theorem pick_cnt {q : Bool} : ∀ {l : List Ix} {bs : List Bool}, Ix.cntL (pickI q l bs) ≤ Ix.cntL l
  | [], bs => by rw [pickI_nil]; exact Nat.le_refl _
  | i :: l, [] => by unfold pickI; rw [Ix.cntL_nil]; omega
  | i :: l, b :: bs => by
    have := pick_cnt (q := q) (l := l) (bs := bs)
    rw [pickI_cons, Ix.cntL_cons]
    split
    · rw [Ix.cntL_cons]; omega
    · omega
theorem idxs_cnt {l : List Ix} (h : idxs l = true) : l.length ≤ 8 ∧ Ix.cntL l ≤ 400 := by
  unfold idxs at h
  simp only [Bool.and_eq_true, decide_eq_true_eq, List.all_eq_true] at h
  refine ⟨by omega, ?_⟩
  have : ∀ m : List Ix, (∀ v ∈ m, v.cnt ≤ 40) → Ix.cntL m ≤ 40 * m.length := fun m => by
    induction m with
    | nil => intro _; rw [Ix.cntL_nil]; omega
    | cons x m ih =>
      intro hm
      have h1 := ih fun v hv => hm v (by simp [hv])
      have h2 := hm x (by simp)
      rw [Ix.cntL_cons, List.length_cons]; omega
  have := this l fun v hv => keepI_cnt (h.2 v hv)
  omega
theorem foldI_cnt {c : Int} {row : List Ix} {bs : List Bool} : (foldI c row bs).cnt ≤ 2 + 2 * Ix.cntL row := by
  unfold foldI
  rw [Ix.cnt_mk, Ix.cntL_cons, Ix.cnt_mk]
  have h1 := pick_cnt (q := false) (l := row) (bs := bs)
  have h2 := pick_cnt (q := true) (l := row) (bs := bs)
  have h3 := kids_cnt (l := pickI true row bs)
  omega
end Go.AM

set_option linter.all false
set_option maxRecDepth 20000
set_option maxHeartbeats 8000000
namespace Go.AM
open Go.Proofs

theorem degS_get {D : List Dt} (hv : dvalid D = true) {f : V} (hg : Good D f) (i : Ix) : degS D f i = (Ix.deg D i f).getD (-1) := degS_yes (good_known hv hg)
theorem sumD_step {D : List Dt} {i : Ix} {l : List Ix} {f : V} {fs : List V} {d : Int} (h : Ix.deg D i f = some d) : sumD D (i :: l) (f :: fs) = match sumD D l fs with | some s => some (d + s) | Option.none => Option.none := by
  rw [sumD_cons, h]
  cases sumD D l fs <;> rfl
theorem sumD_no {D : List Dt} {i : Ix} {l : List Ix} {f : V} {fs : List V} (h : Ix.deg D i f = Option.none) : sumD D (i :: l) (f :: fs) = Option.none := by
  rw [sumD_cons, h]
theorem conAt_some {D : List Dt} {tn c : Int} {vs : Int} {y : Cn} (h : conAt D tn c = some (vs, y)) : 0 ≤ tn ∧ 0 ≤ c ∧ ∃ nm cs, D[tn.toNat]? = some ⟨nm, vs, cs⟩ ∧ cs[c.toNat]? = some y := by
  unfold conAt at h
  split at h
  · rename_i hc
    refine ⟨hc.1, hc.2, ?_⟩
    split at h
    · rename_i x hx
      split at h
      · rename_i z hz
        cases h
        exact ⟨x.name, x.cons, hx, hz⟩
      · cases h
    · cases h
  · cases h
theorem ufold_det {D : List Dt} (hD : DOK D) (hN : DN D) (t : V) (c : Int) (row : List Ix) (hr8 : row.length ≤ 8) (hrc : Ix.cntL row ≤ 400) : Det Tryz.prog 15 [.lst 3 (Dt.pvL D), t.pv, .int .i64 c, .lst 2 (Ix.pvL row)] (foldP (foldS D t c row)) := by
  have hKn := uknown_det hD hN t
  generalize hS : foldS D t c row = r
  obtain ⟨tk, tn, ts⟩ := t
  rw [V.pv_mk] at hKn ⊢
  rw [foldS_mk] at hS
  cases hk : known D (.mk tk tn ts) with
  | false =>
    rw [hk] at hKn
    rw [hk, if_neg (by simp)] at hS
    refine det_of_vct (E := S.E 0) rfl fol Tryz.func15 rfl rfl (cell := (8, 28, 9)) rfl rfl fun hw => ?_
    set_option smartUnfolding false in conv => whnf
    refine acall_det (ps := [.lst 3 (Dt.pvL D), V.ag tk tn ts]) hKn ?_
    set_option smartUnfolding false in conv => whnf
    exact rd_ferr hS
  | true =>
  rw [hk] at hKn
  rw [hk, if_pos rfl] at hS
  obtain ⟨hv, hg⟩ := known_good hk
  have hC := con_det tk tn ts hg c
  unfold conE at hC
  by_cases h5 : tk = 5
  case neg =>
    rw [if_neg h5] at hC hS
    refine det_of_vct (E := S.E 0) rfl fol Tryz.func15 rfl rfl (cell := (8, 28, 9)) rfl rfl fun hw => ?_
    set_option smartUnfolding false in conv => whnf
    refine acall_det (ps := [.lst 3 (Dt.pvL D), V.ag tk tn ts]) hKn ?_
    set_option smartUnfolding false in conv => whnf
    refine acall_det (ps := [.lst 3 (Dt.pvL D), V.ag tk tn ts, .int .i64 c]) hC ?_
    set_option smartUnfolding false in conv => whnf
    exact rd_ferr hS
  subst h5
  rw [if_pos rfl] at hC hS
  cases hca : conAt D tn c with
  | none =>
    rw [hca] at hC hS
    simp only at hS
    replace hC : Det Tryz.prog 32 [.lst 3 (Dt.pvL D), V.ag 5 tn ts, .int .i64 c] (.int .i64 8) := hC
    refine det_of_vct (E := S.E 0) rfl fol Tryz.func15 rfl rfl (cell := (8, 28, 9)) rfl rfl fun hw => ?_
    set_option smartUnfolding false in conv => whnf
    refine acall_det (ps := [.lst 3 (Dt.pvL D), V.ag 5 tn ts]) hKn ?_
    set_option smartUnfolding false in conv => whnf
    refine acall_det (ps := [.lst 3 (Dt.pvL D), V.ag 5 tn ts, .int .i64 c]) hC ?_
    set_option smartUnfolding false in conv => whnf
    exact rd_ferr hS
  | some vy =>
  obtain ⟨vs, y⟩ := vy
  rw [hca] at hC hS
  simp only at hS
  replace hC : Det Tryz.prog 32 [.lst 3 (Dt.pvL D), V.ag 5 tn ts, .int .i64 c] (.int .i64 0) := hC
  obtain ⟨htn, hcc, nm, cs, hdg, hcg⟩ := conAt_some hca
  have htl : tn.toNat < D.length := (List.getElem?_eq_some_iff.1 hdg).1
  have hcl : c.toNat < cs.length := (List.getElem?_eq_some_iff.1 hcg).1
  have hF := tfields_det hD (.mk 5 tn ts) (by have := hg.cnt; omega) c
  have hPay := fun fs hf => ipayload_det hD hN tn ts (by have := hg.cnt; omega) hk c (fs := fs) hf
  rw [V.pv_mk] at hF hPay
  have hdegs := fun f (h : Good D f) i => iDegree_det hD hN f i
  have hcl1 := fun v (h : v ∈ row) => uclone_det v (by have := Ix.cnt_mem h; omega)
  have hcls := fun n ks (h : Ix.mk n ks ∈ row) => uclones_det ks (by have := Ix.cnt_mem h; rw [Ix.cnt_mk] at this; omega)
  have hlen1 := Ix.len_cntL row
  refine det_of_vct (E := S.E 0) rfl fol Tryz.func15 rfl rfl (cell := (8, 28, 9)) rfl rfl fun hw => ?_
  set_option smartUnfolding false in conv => whnf
  refine acall_det (ps := [.lst 3 (Dt.pvL D), V.ag 5 tn ts]) hKn ?_
  set_option smartUnfolding false in conv => whnf
  refine acall_det (ps := [.lst 3 (Dt.pvL D), V.ag 5 tn ts, .int .i64 c]) hC ?_
  set_option smartUnfolding false in conv => whnf
  refine Dt.get_elim (l := D) (i := tn.toNat) htl fun nm' vs' cs' hmem hdg1 hdg2 _ => ?_
  rw [hdg] at hdg2
  cases hdg2
  refine ⟨Dt.ag nm vs cs, ⟨by omega, hdg1⟩, ?_⟩
  set_option smartUnfolding false in conv => whnf
  refine Cn.get_elim (l := cs) (i := c.toNat) hcl fun cn cas hcm hcg1 hcg2 _ => ?_
  rw [hcg] at hcg2
  cases hcg2
  have hal := hD.args _ hmem _ hcm
  simp only at hS hal
  refine ⟨Cn.ag cn cas, ⟨by omega, hcg1⟩, ?_⟩
  set_option smartUnfolding false in conv => whnf
  refine br_intro (fun h6 => ?_) (fun h6 => ?_) <;> set_option smartUnfolding false in conv => whnf
  · rw [V.pvL_len, Ix.pvL_len] at h6
    have h6 : ¬ (row.length : Int) = cas.length := by simpa using h6
    rw [if_neg h6] at hS
    exact rd_ferr hS
  rw [V.pvL_len, Ix.pvL_len] at h6
  have h6 : (row.length : Int) = cas.length := by simpa using h6
  rw [if_pos h6] at hS
  cases hf : fieldsS D (.mk 5 tn ts) c with
  | none =>
    rw [hf, optP_none] at hF
    rw [hf] at hS
    refine acall_det (ps := [.lst 3 (Dt.pvL D), V.ag 5 tn ts, .int .i64 c]) hF ?_
    set_option smartUnfolding false in conv => whnf
    exact rd_ferr hS
  | some fs =>
  rw [hf, optP_some, List.nil_append] at hF
  rw [hf] at hS
  simp only at hS
  have hfg := hg.fields hv hf
  have hPay := hPay fs hf
  have hrl : (recS D tn c).length = row.length := by unfold recS; rw [hca]; simp only [List.length_map]; omega
  have hfl : fs.length = row.length := by
    obtain ⟨_, _, _, _, h1, h2⟩ := rec_len hf
    omega
  refine acall_det (ps := [.lst 3 (Dt.pvL D), V.ag 5 tn ts, .int .i64 c]) hF ?_
  set_option smartUnfolding false in conv => whnf
  have hl : row.length ≤ 9223372036854775807 := by omega
  refine vloop_intro (σ := Nat × Int) (fun x => x.1 ≤ row.length ∧ (match sumD D (row.drop x.1) (fs.drop x.1) with | some s => some (x.2 - 1 + s) | Option.none => Option.none) = sumD D row fs ∧ 1 ≤ x.2 ∧ x.2 ≤ 1 + 6 * x.1)
    (fun x => [(0, .pv (.lst 3 (Dt.pvL D))), (2, .pv (.int .i64 c)), (3, .pv (.lst 2 (Ix.pvL row))), (5, .bp 0 0), (8, .bp 1 0), (12, .pv (.lst 3 (V.pvL fs))), (14, .pv (.int .i64 x.2)), (66, .pv (.lst 2 (Ix.pvL row))), (67, .pv (.int .i64 (Ix.pvL row).length)), (68, .pv (.int .i64 x.1))])
    (fun _ => [.box 25 [.pv (.int .i64 5), .pv (.int .i64 tn), .pv (.lst 3 (V.pvL ts))], .box 28 [.pv (.int .i64 0), .pv .nils]]) (fun x => row.length - x.1) (0, 1) ⟨by simp, by cases h : sumD D row fs <;> simp [h], by simp, by simp⟩ (weak_ren [0, 1] 2 (by kernel_rfl) (blk (by kernel_rfl) (blk (by kernel_rfl) trivial)) ⟨(by kernel_rfl), (by kernel_rfl), (by kernel_rfl), (by kernel_rfl), (by kernel_rfl), (by kernel_rfl), (by kernel_rfl), (by kernel_rfl), (by kernel_rfl), (by kernel_rfl), trivial⟩) ?_
  rintro ⟨i, a⟩ ⟨hi, hs, ha1, ha2⟩
  simp only at hi hs ha1 ha2
  set_option smartUnfolding false in conv => whnf
  refine br_intro (fun h => ?_) (fun h => ?_) <;> set_option smartUnfolding false in conv => whnf
  · replace h : i < row.length := by have := dT h; rw [Ix.pvL_len] at this; simpa using this
    refine Ix.get_elim h fun n1 es1 hvm hg1 hg0 hd => ?_
    refine V.get_elim (l := fs) (i := i) (by omega) fun k2 n2 ks2 hv2 hg2 hg02 hd2 => ?_
    have hgf := hfg _ hv2
    have hdd := hdegs _ hgf (.mk n1 es1)
    rw [degS_get hv hgf, V.pv_mk, Ix.pv_mk] at hdd
    rw [hd, hd2] at hs
    refine ⟨Ix.ag n1 es1, ⟨by simp, by simpa using hg1⟩, ?_⟩
    set_option smartUnfolding false in conv => whnf
    refine ⟨V.ag k2 n2 ks2, ⟨by simp, by simpa using hg2⟩, ?_⟩
    set_option smartUnfolding false in conv => whnf
    cases hdg : Ix.deg D (.mk n1 es1) (.mk k2 n2 ks2) with
    | none =>
      rw [sumD_no hdg] at hs
      simp only at hs
      rw [← hs] at hS
      rw [hdg] at hdd
      replace hdd : Det Tryz.prog 34 [.lst 3 (Dt.pvL D), V.ag k2 n2 ks2, Ix.ag n1 es1] (.int .i64 (-1)) := hdd
      refine acall_det (ps := [.lst 3 (Dt.pvL D), V.ag k2 n2 ks2, Ix.ag n1 es1]) hdd ?_
      set_option smartUnfolding false in conv => whnf
      exact rd_ferr hS
    | some d =>
      have hr := Ix.deg_rng D _ _ d hdg
      rw [sumD_step hdg] at hs
      rw [hdg] at hdd
      replace hdd : Det Tryz.prog 34 [.lst 3 (Dt.pvL D), V.ag k2 n2 ks2, Ix.ag n1 es1] (.int .i64 d) := hdd
      refine acall_det (ps := [.lst 3 (Dt.pvL D), V.ag k2 n2 ks2, Ix.ag n1 es1]) hdd ?_
      set_option smartUnfolding false in conv => whnf
      refine br_intro (fun g => ?_) (fun g => ?_) <;> set_option smartUnfolding false in conv => whnf
      · have g := dT g; omega
      · have ew : IntKind.wrap .i64 (a + d) = a + d := wrapI (by omega) (by omega)
        refine ⟨(i + 1, a + d), ⟨h, ?_, by simp only; omega, by simp only; omega⟩, weak_ren [0, 1] 3 (by kernel_rfl) (blk (by kernel_rfl) (blk (by kernel_rfl) trivial)) ⟨(by kernel_rfl), (by kernel_rfl), (by kernel_rfl), (by kernel_rfl), (by kernel_rfl), (by kernel_rfl), sI ew, (by kernel_rfl), (by kernel_rfl), sUp h hl, trivial⟩, subUp h⟩
        rw [← hs]
        simp only
        cases sumD D (row.drop (i + 1)) (fs.drop (i + 1)) with
        | none => rfl
        | some s => simp only [Option.some.injEq]; omega
  · replace h : ¬ i < row.length := by have := dF h; rw [Ix.pvL_len] at this; simpa using this
    rw [List.drop_of_length_le (by omega), sumD_nil] at hs
    simp only at hs
    rw [← hs] at hS
    simp only at hS
    refine br_intro (fun g => ?_) (fun g => ?_) <;> set_option smartUnfolding false in conv => whnf
    · have g := dT g
      rw [if_neg (by omega)] at hS
      exact rd_ferr hS
    have g := dF g
    rw [if_pos (by omega)] at hS
    clear hs hC hKn hF
    have hlt1 := fun k hk => (pos_lt false (recS D tn c) 0 k hk).2
    have hlt2 := fun k hk => (pos_lt true (recS D tn c) 0 k hk).2
    have hnl1 := pos_len false (recS D tn c) 0
    have hnl2 := pos_len true (recS D tn c) 0
    have hp1 := pickI_pos (q := false) row (recS D tn c) row 0 (fun j => by rw [Nat.zero_add]) (by omega)
    have hp2 := pickI_pos (q := true) row (recS D tn c) row 0 (fun j => by rw [Nat.zero_add]) (by omega)
    have hR : foldP r = .tuple [(foldI c row (recS D tn c)).pv, .int .i64 0] := by rw [← hS]; rfl
    have hT2 : (Ix.pvL (kidsL (pickI true row (recS D tn c)))).length ≤ 1000 := by
      rw [Ix.pvL_len]
      have h1 := kids_cnt (l := pickI true row (recS D tn c))
      have h2 := pick_cnt (q := true) (l := row) (bs := recS D tn c)
      have h3 := Ix.len_cntL (kidsL (pickI true row (recS D tn c)))
      omega
    rw [pv_fold, ← hp1, ← hp2] at hR
    rw [← hp2] at hT2
    generalize pos false (recS D tn c) 0 = ns at hPay hlt1 hnl1 hR
    generalize pos true (recS D tn c) 0 = ms at hPay hlt2 hnl2 hR hT2
    generalize hT1 : Ix.pvL (ns.filterMap fun k => row[k]?) = T1 at hR
    generalize hT3 : Ix.pvL (kidsL (ms.filterMap fun k => row[k]?)) = T2 at hR hT2
    generalize foldP r = r' at hR
    subst hR
    refine acall_det (ps := [.lst 3 (Dt.pvL D), V.ag 5 tn ts, .int .i64 c]) hPay ?_
    set_option smartUnfolding false in conv => whnf
    have hl1 : ns.length ≤ 9223372036854775807 := by omega
    have hl2 : ms.length ≤ 9223372036854775807 := by omega
    refine vloop_intro (σ := Nat × List PV) (fun x => x.1 ≤ ns.length ∧ x.2 ++ Ix.pvL ((ns.drop x.1).filterMap fun k => row[k]?) = T1 ∧ x.2.length ≤ x.1) (fun x => [(3, .pv (.lst 2 (Ix.pvL row))), (8, .bp 0 0), (19, .pv (.lst 1 (natsP ms))), (21, .bp 1 0), (100, .pv (.lst 1 (natsP ns))), (101, .pv (.int .i64 (natsP ns).length)), (102, .pv (.int .i64 x.1))])
      (fun x => [.box 28 [.pv (.int .i64 0), .pv .nils], .box 28 [.pv (.int .i64 c), lsV 2 x.2], lsB 28 2 x.2]) (fun x => ns.length - x.1) (0, []) ⟨by simp, by simpa using hT1, Nat.le_refl _⟩ (weak_ren [1, 2, 3] 4 (by kernel_rfl) (blk (by kernel_rfl) (blk (by kernel_rfl) (blkD trivial))) ⟨(by kernel_rfl), (by kernel_rfl), (by kernel_rfl), (by kernel_rfl), (by kernel_rfl), (by kernel_rfl), (by kernel_rfl), trivial⟩) ?_
    rintro ⟨i, ps⟩ ⟨hi, hs, hpl⟩
    simp only at hi hs hpl
    set_option smartUnfolding false in conv => whnf
    refine br_intro (fun h => ?_) (fun h => ?_) <;> set_option smartUnfolding false in conv => whnf
    · replace h : i < ns.length := by have := dT h; rw [natsP_len'] at this; simpa using this
      obtain ⟨m, hm, hm1, hm2⟩ := natsP_get h
      have hmf : m < row.length := by have := hlt1 m hm; omega
      refine Ix.get_elim hmf fun n1 es1 hvm hg1 hg0 hd => ?_
      have hcl := hcl1 _ hvm
      rw [Ix.pv_mk] at hcl
      rw [hm2, List.filterMap_cons, hg0] at hs
      simp only at hs
      rw [Ix.pvL_cons, Ix.pv_mk] at hs
      refine ⟨.int .i64 m, ⟨by simp, by simpa using hm1⟩, ?_⟩
      set_option smartUnfolding false in conv => whnf
      refine ⟨Ix.ag n1 es1, ⟨by simp, by simpa using hg1⟩, ?_⟩
      set_option smartUnfolding false in conv => whnf
      refine acall_det (ps := [Ix.ag n1 es1]) hcl ?_
      set_option smartUnfolding false in conv => whnf
      refine ⟨Nat.le_refl 1, ?_⟩
      set_option smartUnfolding false in conv => whnf
      cases ps with
      | nil =>
        set_option smartUnfolding false in conv => whnf
        refine ⟨⟨⟨by decide, by decide⟩, by decide⟩, ?_⟩
        set_option smartUnfolding false in conv => whnf
        exact ⟨(i + 1, [] ++ [Ix.ag n1 es1]), ⟨h, by rw [← hs]; simp, by simp⟩, weak_ren [0, 1, 4] 5 (by kernel_rfl) (blk (by kernel_rfl) (blk (by kernel_rfl) (blk (by kernel_rfl) trivial))) ⟨(by kernel_rfl), (by kernel_rfl), (by kernel_rfl), (by kernel_rfl), (by kernel_rfl), (by kernel_rfl), sUp h hl1, trivial⟩, subUp h⟩
      | cons p ps =>
        set_option smartUnfolding false in conv => whnf
        simp only [List.length_cons] at hpl
        refine ⟨⟨⟨by simp [pvs_len], by simp only [Nat.succ_eq_add_one]; omega⟩, by rw [show ((S.E 0).te 28).bytes = 32 from rfl]; simp only [Nat.succ_eq_add_one]; omega⟩, ?_⟩
        set_option smartUnfolding false in conv => whnf
        exact ⟨(i + 1, (p :: ps) ++ [Ix.ag n1 es1]), ⟨h, by rw [← hs]; simp, by simp; omega⟩, weak_ren [0, 1, 4] 5 (by kernel_rfl) (blk (by kernel_rfl) (blk (by simp only [lsV_snoc]; kernel_rfl) (blkR_snoc (by kernel_rfl) trivial))) ⟨(by kernel_rfl), (by kernel_rfl), (by kernel_rfl), (by kernel_rfl), (by kernel_rfl), (by kernel_rfl), sUp h hl1, trivial⟩, subUp h⟩
    · replace h : ¬ i < ns.length := by have := dF h; rw [natsP_len'] at this; simpa using this
      rw [List.drop_of_length_le (by omega), List.filterMap_nil, Ix.pvL_nil, List.append_nil] at hs
      apply vloop_cut (α := Unit) (fun _ => True) (fun _ => [(3, .pv (.lst 2 (Ix.pvL row))), (8, .bp 0 0), (24, .bp 1 0), (120, .pv (.lst 1 (natsP ms))), (121, .pv (.int .i64 (natsP ms).length)), (122, .pv (.int .i64 0))])
        (fun _ => [.box 28 [.pv (.int .i64 0), .pv .nils], .box 28 [.pv (.int .i64 0), .row 2 1], .row 28 2 [fstA 3 c ps], lsB 28 2 ps])
      · intro mid
        cases ps with
        | nil =>
          set_option smartUnfolding false in conv => whnf
          exact vloop_shift (mid () trivial) (weak_ren [0, 4, 3, 2] 5 (by kernel_rfl) (blk (by kernel_rfl) (blk (by kernel_rfl) (blk (by kernel_rfl) (blkD trivial)))) ⟨(by kernel_rfl), (by kernel_rfl), (by kernel_rfl), (by kernel_rfl), (by kernel_rfl), (by kernel_rfl), trivial⟩)
        | cons p ps =>
          set_option smartUnfolding false in conv => whnf
          exact vloop_shift (mid () trivial) (weak_ren [0, 4, 3, 2] 5 (by kernel_rfl) (blk (by kernel_rfl) (blk (by kernel_rfl) (blk (by kernel_rfl) (blkR_ls (by kernel_rfl) trivial)))) ⟨(by kernel_rfl), (by kernel_rfl), (by kernel_rfl), (by kernel_rfl), (by kernel_rfl), (by kernel_rfl), trivial⟩)
      intro _ _
      subst hs
      refine vloop_intro (σ := Nat × List PV) (fun x => x.1 ≤ ms.length ∧ x.2 ++ Ix.pvL (kidsL ((ms.drop x.1).filterMap fun k => row[k]?)) = T2) (fun x => [(3, .pv (.lst 2 (Ix.pvL row))), (8, .bp 0 0), (24, .bp 1 0), (120, .pv (.lst 1 (natsP ms))), (121, .pv (.int .i64 (natsP ms).length)), (122, .pv (.int .i64 x.1))])
        (fun x => [.box 28 [.pv (.int .i64 0), .pv .nils], .box 28 [.pv (.int .i64 0), .row 2 (Nat.succ x.2.length)], .row 28 2 (fstA 3 c ps :: pvs x.2), lsB 28 2 ps]) (fun x => ms.length - x.1) (0, []) ⟨by simp, by simpa using hT3⟩
        (weak_ren [0, 1, 2, 3] 4 (by kernel_rfl) (blk (by kernel_rfl) (blk (by kernel_rfl) (blkR_fst (qs := []) (Eq.refl _) (Eq.refl _) (Eq.refl _) (blkR_ls (by kernel_rfl) trivial)))) ⟨(by kernel_rfl), (by kernel_rfl), (by kernel_rfl), (by kernel_rfl), (by kernel_rfl), (by kernel_rfl), trivial⟩) ?_
      rintro ⟨i, qs⟩ ⟨hi, hs⟩
      simp only at hi hs
      set_option smartUnfolding false in conv => whnf
      refine br_intro (fun h => ?_) (fun h => ?_) <;> set_option smartUnfolding false in conv => whnf
      · replace h : i < ms.length := by have := dT h; rw [natsP_len'] at this; simpa using this
        obtain ⟨m, hm, hm1, hm2⟩ := natsP_get h
        have hmf : m < row.length := by have := hlt2 m hm; omega
        refine Ix.get_elim hmf fun n1 es1 hvm hg1 hg0 hd => ?_
        have hcl := hcls _ _ hvm
        rw [hm2, List.filterMap_cons, hg0] at hs
        simp only at hs
        rw [kidsL_cons, Ix.pvL_app] at hs
        have hlen : qs.length + (Ix.pvL es1).length ≤ 1000 := by
          have := congrArg List.length hs
          simp only [List.length_append] at this
          omega
        refine ⟨.int .i64 m, ⟨by simp, by simpa using hm1⟩, ?_⟩
        set_option smartUnfolding false in conv => whnf
        refine ⟨Ix.ag n1 es1, ⟨by simp, by simpa using hg1⟩, ?_⟩
        set_option smartUnfolding false in conv => whnf
        refine acall_det (ps := [.lst 2 (Ix.pvL es1)]) hcl ?_
        set_option smartUnfolding false in conv => whnf
        refine ⟨⟨⟨by simp [pvs_len], by simp only [Nat.succ_eq_add_one]; omega⟩, by rw [show ((S.E 0).te 28).bytes = 32 from rfl]; simp only [Nat.succ_eq_add_one]; omega⟩, ?_⟩
        set_option smartUnfolding false in conv => whnf
        exact ⟨(i + 1, qs ++ Ix.pvL es1), ⟨h, by rw [← hs]; simp⟩, weak_ren [0, 1, 4, 3] 5 (by kernel_rfl) (blk (by kernel_rfl) (blkR_box (Eq.refl _) (Eq.refl _) (by simp only [List.length_append, Nat.succ_eq_add_one]; omega) (blkR_fst (Eq.refl _) (Eq.refl _) app_fst (blkR_ls (by kernel_rfl) trivial)))) ⟨(by kernel_rfl), (by kernel_rfl), (by kernel_rfl), (by kernel_rfl), (by kernel_rfl), sUp h hl2, trivial⟩, subUp h⟩
      · replace h : ¬ i < ms.length := by have := dF h; rw [natsP_len'] at this; simpa using this
        rw [List.drop_of_length_le (by omega), List.filterMap_nil, kidsL_nil, Ix.pvL_nil, List.append_nil] at hs
        subst hs
        exact .tup (.cons (.mix (.cons (.pv _) (.cons (rd_kids (j := 3) trivial (fun _ => trivial) rfl rfl rfl) .nil))) (.cons (.pv _) .nil))
end Go.AM

set_option linter.all false
set_option maxRecDepth 20000
set_option maxHeartbeats 8000000
namespace Go.AM
open Go.Proofs

theorem rpay_det {D : List Dt} (hD : DOK D) (hN : DN D) (tn : Int) (ts : List V) (ht : (V.mk 5 tn ts).cnt ≤ 1000) (hk : known D (.mk 5 tn ts) = true) (c : Int) {fs : List V} (hf : fieldsS D (.mk 5 tn ts) c = some fs) :
    Det Tryz.prog 38 [.lst 3 (Dt.pvL D), (V.mk 5 tn ts).pv, .int .i64 c] (.tuple [.lst 1 (natsP (pos false (recS D tn c) 0)), .lst 1 (natsP (pos true (recS D tn c) 0)), .bool true]) := by
  have h1 := fine_det hD hN (.mk 5 tn ts) (by omega)
  have h2 := payload_r hD tn ts ht c hf
  rw [hk] at h1
  rw [V.pv_mk] at h1 h2 ⊢
  generalize natsP (pos false (recS D tn c) 0) = P at h2
  generalize natsP (pos true (recS D tn c) 0) = Q at h2
  refine det_of_vc' (E := S.E 0) rfl fol Tryz.func38 rfl rfl (slots := [6, 7, 8]) rfl rfl fun hw => ?_
  set_option smartUnfolding false in conv => whnf
  refine acall_det (ps := [.lst 3 (Dt.pvL D), V.ag 5 tn ts]) h1 ?_
  set_option smartUnfolding false in conv => whnf
  refine acall_det (ps := [.lst 3 (Dt.pvL D), V.ag 5 tn ts, .int .i64 c]) h2 ?_
  set_option smartUnfolding false in conv => whnf
  exact rdP (.refl _)
theorem rd_fok {S : Nat → Prop} {H : Heap} {i : Ix} {p : PV} {x : Int × Ix} (h : (0, i) = x) (hp : i.pv = p) : Rd S H (.pv (.tuple [p, .int .i64 0])) (foldP x) := by
  subst h hp
  exact .pv _
theorem rfold_det {D : List Dt} (hD : DOK D) (hN : DN D) (t : V) (ht : t.cnt ≤ 1000000) (c : Int) (row : List Ix) (hr8 : row.length ≤ 8) (hrc : Ix.cntL row ≤ 400) : Det Tryz.prog 16 [.lst 3 (Dt.pvL D), t.pv, .int .i64 c, .lst 2 (Ix.pvL row)] (foldP (foldS D t c row)) := by
  have hKn := fine_det hD hN t ht
  generalize hS : foldS D t c row = r
  obtain ⟨tk, tn, ts⟩ := t
  rw [V.pv_mk] at hKn ⊢
  rw [foldS_mk] at hS
  cases hk : known D (.mk tk tn ts) with
  | false =>
    rw [hk] at hKn
    rw [hk, if_neg (by simp)] at hS
    refine det_of_vct (E := S.E 0) rfl fol Tryz.func16 rfl rfl (cell := (8, 28, 9)) rfl rfl fun hw => ?_
    set_option smartUnfolding false in conv => whnf
    refine acall_det (ps := [.lst 3 (Dt.pvL D), V.ag tk tn ts]) hKn ?_
    set_option smartUnfolding false in conv => whnf
    exact rd_ferr hS
  | true =>
  rw [hk] at hKn
  rw [hk, if_pos rfl] at hS
  obtain ⟨hv, hg⟩ := known_good hk
  have hVal0 := fun i => rIValid_det hD hN (.mk tk tn ts) ht i
  rw [V.pv_mk] at hVal0
  have hF := rfields_det hD (.mk tk tn ts) (by have := hg.cnt; omega) c
  rw [V.pv_mk] at hF
  have hdegs := fun f (h : Good D f) i => rIValid_det hD hN f (by have := h.cnt; omega) i
  have hcp0 := fun i (h : i.cnt ≤ 1000000) => copy17_det i h
  have hlen1 := Ix.len_cntL row
  refine det_of_vct (E := S.E 0) rfl fol Tryz.func16 rfl rfl (cell := (8, 28, 9)) rfl rfl fun hw => ?_
  set_option smartUnfolding false in conv => whnf
  refine acall_det (ps := [.lst 3 (Dt.pvL D), V.ag tk tn ts]) hKn ?_
  set_option smartUnfolding false in conv => whnf
  refine br_intro (fun h5 => ?_) (fun h5 => ?_) <;> set_option smartUnfolding false in conv => whnf
  · have h5 : ¬ tk = 5 := by simpa using h5
    rw [if_neg h5] at hS
    exact rd_ferr hS
  have h5 : tk = 5 := by simpa using h5
  subst h5
  rw [if_pos rfl] at hS
  have hPay := fun fs hf => rpay_det hD hN tn ts (by have := hg.cnt; omega) hk c (fs := fs) hf
  rw [V.pv_mk] at hPay
  have hdecl := hg.decl
  refine br_intro (fun h2 => ?_) (fun h2 => ?_) <;> set_option smartUnfolding false in conv => whnf
  · have h2 := dT h2
    have hca : conAt D tn c = Option.none := by unfold conAt; rw [if_neg (by omega)]
    rw [hca] at hS
    exact rd_ferr hS
  have h2 := dF h2
  refine Dt.get_elim (l := D) (i := tn.toNat) (by omega) fun nm vs cs hmem hdg1 hdg2 _ => ?_
  refine ⟨Dt.ag nm vs cs, ⟨by omega, hdg1⟩, ?_⟩
  set_option smartUnfolding false in conv => whnf
  refine br_intro (fun h3 => ?_) (fun h3 => ?_) <;> set_option smartUnfolding false in conv => whnf
  · have h3 := dT h3
    rw [Cn.pvL_len] at h3
    have hca : conAt D tn c = Option.none := by unfold conAt; rw [if_pos (by omega), hdg2]; simp only; rw [List.getElem?_eq_none (l := cs) (by omega)]
    rw [hca] at hS
    exact rd_ferr hS
  have h3 := dF h3
  rw [Cn.pvL_len] at h3
  refine Cn.get_elim (l := cs) (i := c.toNat) (by omega) fun cn cas hcm hcg1 hcg2 _ => ?_
  have hca : conAt D tn c = some (vs, ⟨cn, cas⟩) := by unfold conAt; rw [if_pos (by omega), hdg2]; simp only; rw [hcg2]
  rw [hca] at hS
  have hal := hD.args _ hmem _ hcm
  simp only at hS hal
  refine ⟨Dt.ag nm vs cs, ⟨by omega, hdg1⟩, ?_⟩
  set_option smartUnfolding false in conv => whnf
  refine ⟨Cn.ag cn cas, ⟨by omega, hcg1⟩, ?_⟩
  set_option smartUnfolding false in conv => whnf
  refine br_intro (fun h6 => ?_) (fun h6 => ?_) <;> set_option smartUnfolding false in conv => whnf
  · rw [V.pvL_len, Ix.pvL_len] at h6
    have h6 : ¬ (row.length : Int) = cas.length := by simpa using h6
    rw [if_neg h6] at hS
    exact rd_ferr hS
  rw [V.pvL_len, Ix.pvL_len] at h6
  have h6 : (row.length : Int) = cas.length := by simpa using h6
  rw [if_pos h6] at hS
  cases hf : fieldsS D (.mk 5 tn ts) c with
  | none =>
    rw [hf, optP_none] at hF
    rw [hf] at hS
    refine acall_det (ps := [.lst 3 (Dt.pvL D), V.ag 5 tn ts, .int .i64 c]) hF ?_
    set_option smartUnfolding false in conv => whnf
    exact rd_ferr hS
  | some fs =>
  rw [hf, optP_some, List.nil_append] at hF
  rw [hf] at hS
  simp only at hS
  have hfg := hg.fields hv hf
  have hPay := hPay fs hf
  have hrl : (recS D tn c).length = row.length := by unfold recS; rw [hca]; simp only [List.length_map]; omega
  have hfl : fs.length = row.length := by
    obtain ⟨_, _, _, _, h1, h2⟩ := rec_len hf
    omega
  refine acall_det (ps := [.lst 3 (Dt.pvL D), V.ag 5 tn ts, .int .i64 c]) hF ?_
  set_option smartUnfolding false in conv => whnf
  have hl : row.length ≤ 9223372036854775807 := by omega
  refine vloop_intro (σ := Nat) (fun i => i ≤ row.length ∧ (sumD D (row.drop i) (fs.drop i)).isSome = (sumD D row fs).isSome)
    (fun i => [(0, .pv (.lst 3 (Dt.pvL D))), (2, .pv (.int .i64 c)), (3, .pv (.lst 2 (Ix.pvL row))), (5, .bp 0 0), (8, .bp 1 0), (10, .pv (.lst 3 (V.pvL fs))), (71, .pv (.int .i64 (Ix.pvL row).length)), (72, .pv (.int .i64 i))])
    (fun _ => [.box 25 [.pv (.int .i64 5), .pv (.int .i64 tn), .pv (.lst 3 (V.pvL ts))], .box 28 [.pv (.int .i64 0), .pv .nils]]) (fun i => row.length - i) 0 ⟨by simp, by simp⟩ (weak_ren [0, 1] 2 (by kernel_rfl) (blk (by kernel_rfl) (blk (by kernel_rfl) trivial)) ⟨(by kernel_rfl), (by kernel_rfl), (by kernel_rfl), (by kernel_rfl), (by kernel_rfl), (by kernel_rfl), (by kernel_rfl), (by kernel_rfl), trivial⟩) ?_
  rintro i ⟨hi, hs⟩
  set_option smartUnfolding false in conv => whnf
  refine br_intro (fun h => ?_) (fun h => ?_) <;> set_option smartUnfolding false in conv => whnf
  · replace h : i < row.length := by have := dT h; rw [Ix.pvL_len] at this; simpa using this
    refine Ix.get_elim h fun n1 es1 hvm hg1 hg0 hd => ?_
    refine V.get_elim (l := fs) (i := i) (by omega) fun k2 n2 ks2 hv2 hg2 hg02 hd2 => ?_
    have hgf := hfg _ hv2
    have hdd := hdegs _ hgf (.mk n1 es1)
    rw [degS_get hv hgf, V.pv_mk, Ix.pv_mk] at hdd
    rw [hd, hd2] at hs
    refine ⟨V.ag k2 n2 ks2, ⟨by simp, by simpa using hg2⟩, ?_⟩
    set_option smartUnfolding false in conv => whnf
    refine ⟨Ix.ag n1 es1, ⟨by simp, by simpa using hg1⟩, ?_⟩
    set_option smartUnfolding false in conv => whnf
    cases hdg : Ix.deg D (.mk n1 es1) (.mk k2 n2 ks2) with
    | none =>
      rw [sumD_no hdg] at hs
      have hs : sumD D row fs = Option.none := by cases h : sumD D row fs with | none => rfl | some x => rw [h] at hs; simp at hs
      rw [hs] at hS
      rw [hdg] at hdd
      replace hdd : Det Tryz.prog 29 [.lst 3 (Dt.pvL D), V.ag k2 n2 ks2, Ix.ag n1 es1] (.bool false) := hdd
      refine acall_det (ps := [.lst 3 (Dt.pvL D), V.ag k2 n2 ks2, Ix.ag n1 es1]) hdd ?_
      set_option smartUnfolding false in conv => whnf
      exact rd_ferr hS
    | some d =>
      have hr := Ix.deg_rng D _ _ d hdg
      rw [sumD_step hdg] at hs
      rw [hdg] at hdd
      have hdd : Det Tryz.prog 29 [.lst 3 (Dt.pvL D), V.ag k2 n2 ks2, Ix.ag n1 es1] (.bool true) := by
        rw [Option.getD_some, decide_eq_true hr.1] at hdd; exact hdd
      refine acall_det (ps := [.lst 3 (Dt.pvL D), V.ag k2 n2 ks2, Ix.ag n1 es1]) hdd ?_
      set_option smartUnfolding false in conv => whnf
      refine ⟨i + 1, ⟨h, ?_⟩, weak_ren [0, 1] 2 (by kernel_rfl) (blk (by kernel_rfl) (blk (by kernel_rfl) trivial)) ⟨(by kernel_rfl), (by kernel_rfl), (by kernel_rfl), (by kernel_rfl), (by kernel_rfl), (by kernel_rfl), (by kernel_rfl), sUp h hl, trivial⟩, subUp h⟩
      rw [← hs]
      cases sumD D (row.drop (i + 1)) (fs.drop (i + 1)) <;> rfl
  · replace h : ¬ i < row.length := by have := dF h; rw [Ix.pvL_len] at this; simpa using this
    rw [List.drop_of_length_le (by omega), sumD_nil] at hs
    obtain ⟨s, hs⟩ : ∃ s, sumD D row fs = some s := by cases h : sumD D row fs with | none => rw [h] at hs; simp at hs | some x => exact ⟨x, rfl⟩
    rw [hs] at hS
    simp only at hS
    have hs0 := sumD_rng hs
    have hVal := hVal0 (foldI c row (recS D tn c))
    have hdv : decide (0 ≤ degS D (.mk 5 tn ts) (foldI c row (recS D tn c))) = decide (1 + s ≤ 6) := by
      rw [degS_yes hk, deg_fold hf (by omega) hs]
      by_cases h : 1 + s ≤ 6
      · rw [if_pos h, Option.getD_some, decide_eq_true h, decide_eq_true (by omega)]
      · rw [if_neg h, Option.getD_none, decide_eq_false h]; rfl
    rw [hdv] at hVal
    have hCp := hcp0 (foldI c row (recS D tn c)) (by have := foldI_cnt (c := c) (row := row) (bs := recS D tn c); omega)
    have hpv := pv_fold c row (recS D tn c)
    clear hs hKn hF hVal0 hdv hcp0 hdegs
    have hlt1 := fun k hk => (pos_lt false (recS D tn c) 0 k hk).2
    have hlt2 := fun k hk => (pos_lt true (recS D tn c) 0 k hk).2
    have hnl1 := pos_len false (recS D tn c) 0
    have hnl2 := pos_len true (recS D tn c) 0
    have hp1 := pickI_pos (q := false) row (recS D tn c) row 0 (fun j => by rw [Nat.zero_add]) (by omega)
    have hp2 := pickI_pos (q := true) row (recS D tn c) row 0 (fun j => by rw [Nat.zero_add]) (by omega)
    have hT2 : (Ix.pvL (kidsL (pickI true row (recS D tn c)))).length ≤ 1000 := by
      rw [Ix.pvL_len]
      have h1 := kids_cnt (l := pickI true row (recS D tn c))
      have h2 := pick_cnt (q := true) (l := row) (bs := recS D tn c)
      have h3 := Ix.len_cntL (kidsL (pickI true row (recS D tn c)))
      omega
    rw [← hp1, ← hp2] at hpv
    rw [← hp2] at hT2
    generalize foldI c row (recS D tn c) = fi at hVal hCp hpv hS
    rw [hpv] at hVal hCp
    generalize pos false (recS D tn c) 0 = ns at hPay hlt1 hnl1 hVal hCp hpv
    generalize pos true (recS D tn c) 0 = ms at hPay hlt2 hnl2 hT2 hVal hCp hpv
    generalize hT1 : Ix.pvL (ns.filterMap fun k => row[k]?) = T1 at hVal hCp hpv
    generalize hT3 : Ix.pvL (kidsL (ms.filterMap fun k => row[k]?)) = T2 at hT2 hVal hCp hpv
    refine acall_det (ps := [.lst 3 (Dt.pvL D), V.ag 5 tn ts, .int .i64 c]) hPay ?_
    set_option smartUnfolding false in conv => whnf
    have hl1 : ns.length ≤ 9223372036854775807 := by omega
    have hl2 : ms.length ≤ 9223372036854775807 := by omega
    refine vloop_intro (σ := Nat × List PV) (fun x => x.1 ≤ ns.length ∧ x.2 ++ Ix.pvL ((ns.drop x.1).filterMap fun k => row[k]?) = T1 ∧ x.2.length ≤ x.1) (fun x => [(0, .pv (.lst 3 (Dt.pvL D))), (3, .pv (.lst 2 (Ix.pvL row))), (5, .bp 0 0), (8, .bp 1 0), (14, .pv (.lst 1 (natsP ms))), (16, .bp 2 0), (98, .pv (.lst 1 (natsP ns))), (99, .pv (.int .i64 (natsP ns).length)), (100, .pv (.int .i64 x.1))])
      (fun x => [.box 25 [.pv (.int .i64 5), .pv (.int .i64 tn), .pv (.lst 3 (V.pvL ts))], .box 28 [.pv (.int .i64 0), .pv .nils], .box 28 [.pv (.int .i64 c), lsV 3 x.2], lsB 28 2 x.2]) (fun x => ns.length - x.1) (0, []) ⟨by simp, by simpa using hT1, Nat.le_refl _⟩ (weak_ren [0, 1, 2, 3] 4 (by kernel_rfl) (blk (by kernel_rfl) (blk (by kernel_rfl) (blk (by kernel_rfl) (blkD trivial)))) ⟨(by kernel_rfl), (by kernel_rfl), (by kernel_rfl), (by kernel_rfl), (by kernel_rfl), (by kernel_rfl), (by kernel_rfl), (by kernel_rfl), (by kernel_rfl), trivial⟩) ?_
    rintro ⟨i, ps⟩ ⟨hi, hs, hpl⟩
    simp only at hi hs hpl
    set_option smartUnfolding false in conv => whnf
    refine br_intro (fun h => ?_) (fun h => ?_) <;> set_option smartUnfolding false in conv => whnf
    · replace h : i < ns.length := by have := dT h; rw [natsP_len'] at this; simpa using this
      obtain ⟨m, hm, hm1, hm2⟩ := natsP_get h
      have hmf : m < row.length := by have := hlt1 m hm; omega
      refine Ix.get_elim hmf fun n1 es1 hvm hg1 hg0 hd => ?_
      rw [hm2, List.filterMap_cons, hg0] at hs
      simp only at hs
      rw [Ix.pvL_cons, Ix.pv_mk] at hs
      refine ⟨.int .i64 m, ⟨by simp, by simpa using hm1⟩, ?_⟩
      set_option smartUnfolding false in conv => whnf
      refine ⟨Ix.ag n1 es1, ⟨by simp, by simpa using hg1⟩, ?_⟩
      set_option smartUnfolding false in conv => whnf
      refine ⟨Nat.le_refl 1, ?_⟩
      set_option smartUnfolding false in conv => whnf
      cases ps with
      | nil =>
        set_option smartUnfolding false in conv => whnf
        refine ⟨⟨⟨by decide, by decide⟩, by decide⟩, ?_⟩
        set_option smartUnfolding false in conv => whnf
        exact ⟨(i + 1, [] ++ [Ix.ag n1 es1]), ⟨h, by rw [← hs]; simp, by simp⟩, weak_ren [0, 1, 2, 5] 6 (by kernel_rfl) (blk (by kernel_rfl) (blk (by kernel_rfl) (blk (by kernel_rfl) (blk (by kernel_rfl) trivial)))) ⟨(by kernel_rfl), (by kernel_rfl), (by kernel_rfl), (by kernel_rfl), (by kernel_rfl), (by kernel_rfl), (by kernel_rfl), (by kernel_rfl), sUp h hl1, trivial⟩, subUp h⟩
      | cons p ps =>
        set_option smartUnfolding false in conv => whnf
        simp only [List.length_cons] at hpl
        refine ⟨⟨⟨by simp [pvs_len], by simp only [Nat.succ_eq_add_one]; omega⟩, by rw [show ((S.E 0).te 28).bytes = 32 from rfl]; simp only [Nat.succ_eq_add_one]; omega⟩, ?_⟩
        set_option smartUnfolding false in conv => whnf
        exact ⟨(i + 1, (p :: ps) ++ [Ix.ag n1 es1]), ⟨h, by rw [← hs]; simp, by simp; omega⟩, weak_ren [0, 1, 2, 5] 6 (by kernel_rfl) (blk (by kernel_rfl) (blk (by kernel_rfl) (blk (by simp only [lsV_snoc]; kernel_rfl) (blkR_snoc (by kernel_rfl) trivial)))) ⟨(by kernel_rfl), (by kernel_rfl), (by kernel_rfl), (by kernel_rfl), (by kernel_rfl), (by kernel_rfl), (by kernel_rfl), (by kernel_rfl), sUp h hl1, trivial⟩, subUp h⟩
    · replace h : ¬ i < ns.length := by have := dF h; rw [natsP_len'] at this; simpa using this
      rw [List.drop_of_length_le (by omega), List.filterMap_nil, Ix.pvL_nil, List.append_nil] at hs
      apply vloop_cut (α := Unit) (fun _ => True) (fun _ => [(0, .pv (.lst 3 (Dt.pvL D))), (3, .pv (.lst 2 (Ix.pvL row))), (5, .bp 0 0), (8, .bp 1 0), (19, .bp 2 0), (117, .pv (.lst 1 (natsP ms))), (118, .pv (.int .i64 (natsP ms).length)), (119, .pv (.int .i64 0))])
        (fun _ => [.box 25 [.pv (.int .i64 5), .pv (.int .i64 tn), .pv (.lst 3 (V.pvL ts))], .box 28 [.pv (.int .i64 0), .pv .nils], .box 28 [.pv (.int .i64 0), .row 3 1], .row 28 2 [fstA 4 c ps], lsB 28 2 ps])
      · intro mid
        cases ps with
        | nil =>
          set_option smartUnfolding false in conv => whnf
          exact vloop_shift (mid () trivial) (weak_ren [0, 1, 5, 4, 3] 6 (by kernel_rfl) (blk (by kernel_rfl) (blk (by kernel_rfl) (blk (by kernel_rfl) (blk (by kernel_rfl) (blkD trivial))))) ⟨(by kernel_rfl), (by kernel_rfl), (by kernel_rfl), (by kernel_rfl), (by kernel_rfl), (by kernel_rfl), (by kernel_rfl), (by kernel_rfl), trivial⟩)
        | cons p ps =>
          set_option smartUnfolding false in conv => whnf
          exact vloop_shift (mid () trivial) (weak_ren [0, 1, 5, 4, 3] 6 (by kernel_rfl) (blk (by kernel_rfl) (blk (by kernel_rfl) (blk (by kernel_rfl) (blk (by kernel_rfl) (blkR_ls (by kernel_rfl) trivial))))) ⟨(by kernel_rfl), (by kernel_rfl), (by kernel_rfl), (by kernel_rfl), (by kernel_rfl), (by kernel_rfl), (by kernel_rfl), (by kernel_rfl), trivial⟩)
      intro _ _
      subst hs
      refine vloop_intro (σ := Nat × List PV) (fun x => x.1 ≤ ms.length ∧ x.2 ++ Ix.pvL (kidsL ((ms.drop x.1).filterMap fun k => row[k]?)) = T2) (fun x => [(0, .pv (.lst 3 (Dt.pvL D))), (3, .pv (.lst 2 (Ix.pvL row))), (5, .bp 0 0), (8, .bp 1 0), (19, .bp 2 0), (117, .pv (.lst 1 (natsP ms))), (118, .pv (.int .i64 (natsP ms).length)), (119, .pv (.int .i64 x.1))])
        (fun x => [.box 25 [.pv (.int .i64 5), .pv (.int .i64 tn), .pv (.lst 3 (V.pvL ts))], .box 28 [.pv (.int .i64 0), .pv .nils], .box 28 [.pv (.int .i64 0), .row 3 (Nat.succ x.2.length)], .row 28 2 (fstA 4 c ps :: pvs x.2), lsB 28 2 ps]) (fun x => ms.length - x.1) (0, []) ⟨by simp, by simpa using hT3⟩
        (weak_ren [0, 1, 2, 3, 4] 5 (by kernel_rfl) (blk (by kernel_rfl) (blk (by kernel_rfl) (blk (by kernel_rfl) (blkR_fst (qs := []) (Eq.refl _) (Eq.refl _) (Eq.refl _) (blkR_ls (by kernel_rfl) trivial))))) ⟨(by kernel_rfl), (by kernel_rfl), (by kernel_rfl), (by kernel_rfl), (by kernel_rfl), (by kernel_rfl), (by kernel_rfl), (by kernel_rfl), trivial⟩) ?_
      rintro ⟨i, qs⟩ ⟨hi, hs⟩
      simp only at hi hs
      set_option smartUnfolding false in conv => whnf
      refine br_intro (fun h => ?_) (fun h => ?_) <;> set_option smartUnfolding false in conv => whnf
      · replace h : i < ms.length := by have := dT h; rw [natsP_len'] at this; simpa using this
        obtain ⟨m, hm, hm1, hm2⟩ := natsP_get h
        have hmf : m < row.length := by have := hlt2 m hm; omega
        refine Ix.get_elim hmf fun n1 es1 hvm hg1 hg0 hd => ?_
        rw [hm2, List.filterMap_cons, hg0] at hs
        simp only at hs
        rw [kidsL_cons, Ix.pvL_app] at hs
        have hlen : qs.length + (Ix.pvL es1).length ≤ 1000 := by
          have := congrArg List.length hs
          simp only [List.length_append] at this
          omega
        refine ⟨.int .i64 m, ⟨by simp, by simpa using hm1⟩, ?_⟩
        set_option smartUnfolding false in conv => whnf
        refine ⟨Ix.ag n1 es1, ⟨by simp, by simpa using hg1⟩, ?_⟩
        set_option smartUnfolding false in conv => whnf
        refine ⟨⟨⟨by simp [pvs_len], by simp only [Nat.succ_eq_add_one]; omega⟩, by rw [show ((S.E 0).te 28).bytes = 32 from rfl]; simp only [Nat.succ_eq_add_one]; omega⟩, ?_⟩
        set_option smartUnfolding false in conv => whnf
        exact ⟨(i + 1, qs ++ Ix.pvL es1), ⟨h, by rw [← hs]; simp⟩, weak_ren [0, 1, 2, 5, 4] 6 (by kernel_rfl) (blk (by kernel_rfl) (blk (by kernel_rfl) (blkR_box (Eq.refl _) (Eq.refl _) (by simp only [List.length_append, Nat.succ_eq_add_one]; omega) (blkR_fst (Eq.refl _) (Eq.refl _) app_fst (blkR_ls (by kernel_rfl) trivial))))) ⟨(by kernel_rfl), (by kernel_rfl), (by kernel_rfl), (by kernel_rfl), (by kernel_rfl), (by kernel_rfl), (by kernel_rfl), sUp h hl2, trivial⟩, subUp h⟩
      · replace h : ¬ i < ms.length := by have := dF h; rw [natsP_len'] at this; simpa using this
        rw [List.drop_of_length_le (by omega), List.filterMap_nil, kidsL_nil, Ix.pvL_nil, List.append_nil] at hs
        subst hs
        cases ps with
        | nil =>
          set_option smartUnfolding false in conv => whnf
          refine acall_intro (adet_look [(3, 2, .agg [.int .i64 c, .lst 2 []] :: qs)] hVal (.cons (.pv _) (.cons (.pv _) (.cons (.mix (.cons (.pv _) (.cons (rd_kids (k := 3) (j := 4) (t := 28) (t' := 28) (c := c) (ps := []) (qs := qs) (by simp) (by simp) (by kernel_rfl) (by kernel_rfl) rfl) .nil))) .nil))) (fun q hq => by
            first
              | (simp only [List.mem_cons, List.not_mem_nil, or_false] at hq
                 first
                   | (subst hq
                      exact ⟨28, fstA 4 c [] :: pvs qs, by kernel_rfl, .cons (rd_fstA (j := 4) (t := 28) (by simp) (by kernel_rfl)) (RdL_pvs _)⟩)
                   | (rcases hq with rfl | rfl
                      · exact ⟨28, fstA 4 c [] :: pvs qs, by kernel_rfl, .cons (rd_fstA (j := 4) (t := 28) (by simp) (by kernel_rfl)) (RdL_pvs _)⟩
                      · exact ⟨28, pvs [], by kernel_rfl, RdL_pvs _⟩)))) ?_
          set_option smartUnfolding false in conv => whnf
          refine br_intro (fun g => ?_) (fun g => ?_) <;> set_option smartUnfolding false in conv => whnf
          · have g : ¬ 1 + s ≤ 6 := by simpa using g
            rw [if_neg g] at hS
            exact rd_ferr hS
          · have g : 1 + s ≤ 6 := by simpa using g
            rw [if_pos g] at hS
            refine acall_intro (adet_eat (S := [3]) hCp (.cons (.mix (.cons (.pv _) (.cons (rd_frow (k := 3) (by simp) (by kernel_rfl) rfl) .nil))) .nil)) ?_
            set_option smartUnfolding false in conv => whnf
            exact rd_fok hS hpv
        | cons p ps =>
          set_option smartUnfolding false in conv => whnf
          refine acall_intro (adet_look [(3, 2, .agg [.int .i64 c, .lst 2 (p :: ps)] :: qs), (4, 2, p :: ps)] hVal (.cons (.pv _) (.cons (.pv _) (.cons (.mix (.cons (.pv _) (.cons (rd_kids (k := 3) (j := 4) (t := 28) (t' := 28) (c := c) (ps := (p :: ps)) (qs := qs) (by simp) (by simp) (by kernel_rfl) (by kernel_rfl) rfl) .nil))) .nil))) (fun q hq => by
            first
              | (simp only [List.mem_cons, List.not_mem_nil, or_false] at hq
                 first
                   | (subst hq
                      exact ⟨28, fstA 4 c (p :: ps) :: pvs qs, by kernel_rfl, .cons (rd_fstA (j := 4) (t := 28) (by simp) (by kernel_rfl)) (RdL_pvs _)⟩)
                   | (rcases hq with rfl | rfl
                      · exact ⟨28, fstA 4 c (p :: ps) :: pvs qs, by kernel_rfl, .cons (rd_fstA (j := 4) (t := 28) (by simp) (by kernel_rfl)) (RdL_pvs _)⟩
                      · exact ⟨28, pvs (p :: ps), by kernel_rfl, RdL_pvs _⟩)))) ?_
          set_option smartUnfolding false in conv => whnf
          refine br_intro (fun g => ?_) (fun g => ?_) <;> set_option smartUnfolding false in conv => whnf
          · have g : ¬ 1 + s ≤ 6 := by simpa using g
            rw [if_neg g] at hS
            exact rd_ferr hS
          · have g : 1 + s ≤ 6 := by simpa using g
            rw [if_pos g] at hS
            refine acall_intro (adet_eat (S := [3]) hCp (.cons (.mix (.cons (.pv _) (.cons (rd_frow (k := 3) (by simp) (by kernel_rfl) rfl) .nil))) .nil)) ?_
            set_option smartUnfolding false in conv => whnf
            exact rd_fok hS hpv
end Go.AM

set_option linter.all false
set_option maxRecDepth 20000
set_option maxHeartbeats 4000000
namespace Go.AM
open Go.Proofs

/-! ### The smallest data type -/
def D0 : List Dt := [⟨⟨#[68]⟩, 0, [⟨⟨#[67]⟩, []⟩]⟩]
def leaf0 : V := .mk 5 0 []
theorem upName_one {b : UInt8} (h1 : 65 ≤ b.toNat) (h2 : b.toNat ≤ 90) : upName ⟨#[b]⟩ = true := by
  have e : bt ⟨#[b]⟩ 0 = (b.toNat : Int) := rfl
  have hg : bGr (bt ⟨#[b]⟩ 0) = true := by rw [e]; unfold bGr; rw [decide_eq_true (by omega), decide_eq_true (by omega)]; rfl
  have hu : UpN ⟨#[b]⟩ := by
    refine ⟨by show 1 ≤ 1; omega, by show 1 ≤ 24; omega, hg, fun k hk => ?_⟩
    have hk : k < 1 := hk
    have : k = 0 := by omega
    subst this
    unfold bPt
    rw [hg]; simp
  simp [upName, hu]
theorem D0_ok : DOK D0 ∧ DN D0 := by
  refine ⟨⟨by decide, ?_, ?_, ?_⟩, ⟨?_, ?_⟩⟩
  · intro d hd; simp [D0] at hd; subst hd; decide
  · intro d hd c hc; simp [D0] at hd; subst hd; simp at hc; subst hc; decide
  · intro d hd c hc a ha; simp [D0] at hd; subst hd; simp at hc; subst hc; simp at ha
  · intro d hd; simp [D0] at hd; subst hd; decide
  · intro d hd c hc; simp [D0] at hd; subst hd; simp at hc; subst hc; decide
theorem D0_valid : dvalid D0 = true := by
  unfold dvalid
  have h1 : ndup (namesOf D0) = true := ndup_iff.2 (by simp [namesOf, D0])
  have h2 : ndup (cnamesOf D0) = true := ndup_iff.2 (by simp [cnamesOf, D0])
  rw [h1, h2]
  have h3 : decsR D0 0 D0 = true := by
    unfold D0
    rw [decsR_cons, decsR_nil, consR_cons, consR_nil, argsR_nil]
    simp only
    rw [upName_one (b := 68) (by decide) (by decide), upName_one (b := 67) (by decide) (by decide)]
    rfl
  rw [h3]; rfl
theorem leaf0_cnt : leaf0.cnt = 1 := by unfold leaf0; rw [V.cnt_mk, V.cntL_nil]
theorem leaf0_known : known D0 leaf0 = true := by
  unfold known V.okW
  rw [D0_valid, leaf0_cnt]
  have : V.okT D0 0 leaf0 = true := by
    unfold leaf0
    rw [V.okT_mk]
    have : V.shape D0 0 5 0 = some (true, 0, 0) := by unfold V.shape; rw [if_neg (by omega), if_neg (by omega), if_pos rfl]; rfl
    rw [this]
    simp [V.okTL_nil]
  rw [this]; rfl
theorem D0_pv : Dt.pvL D0 = [.agg [.str ⟨#[68]⟩, .int .i64 0, .lst 2 [.agg [.str ⟨#[67]⟩, .lst 3 []]]]] := by
  unfold D0 Dt.pvL
  simp only [List.map_cons, List.map_nil]
  unfold Dt.pv
  simp only [Dt.ag]
  unfold Cn.pvL
  simp only [List.map_cons, List.map_nil]
  unfold Cn.pv
  simp only [Cn.ag, V.pvL_nil]
theorem leaf0_pv : leaf0.pv = .agg [.int .i64 5, .int .i64 0, .lst 3 []] := by unfold leaf0; rw [V.pv_mk]; simp only [V.ag, V.pvL_nil]

end Go.AM

set_option linter.all false
set_option maxRecDepth 20000
set_option maxHeartbeats 4000000
namespace Go.AM
open Go.Proofs

/-! ### The sanity check of layer 18: unfold.Cons at the element of a constructor without arguments -/
abbrev uI : PV := .agg [.int .i64 0, .lst 2 []]
abbrev uT : PV := .agg [.int .i64 5, .int .i64 0, .lst 3 []]
abbrev uC : PV := .agg [.str ⟨#[67]⟩, .lst 3 []]
abbrev uDe : PV := .agg [.str ⟨#[68]⟩, .int .i64 0, .lst 2 [uC]]
abbrev uD : PV := .lst 3 [uDe]
abbrev uX : PV := .agg [.int .i64 0, .lst 2 [uI]]
abbrev vH (a : AV) : Heap := [.box 67 [a], .box 90 [.fn 63 [.bp 0 0, .bp 1 0]]]
theorem visit1 : HDet Tryz.prog 63 [.pv (.lst 2 [uI]), .pv (.int .i64 0), .pv .nils, .bp 0 0, .bp 1 0] (vH (.pv .nils)) (.pv (.tuple [])) (vH (.pv .nils)) := by
  refine hdet_of_vc' (E := S.E 2) fol Tryz.func63 rfl rfl (slots := []) rfl rfl ?_ ?_ ?_ fun hw => ?_
  · exact Nat.le_refl 2
  · exact ⟨trivial, trivial, trivial, rfl, rfl, trivial⟩
  · exact fun i => by
      rcases i with _ | _ | i
      · exact ⟨trivial, trivial⟩
      · exact ⟨⟨rfl, rfl, trivial⟩, trivial⟩
      · rw [hget_ge (by simp [hlen])]; exact trivial
  set_option smartUnfolding false in conv => whnf
  exact weak_ren [0, 1] 2 (by kernel_rfl) (blk (by kernel_rfl) (blk (by kernel_rfl) trivial)) ⟨(by kernel_rfl), trivial⟩
theorem visit2 : HDet Tryz.prog 63 [.pv (.lst 2 []), .pv (.int .i64 0), .pv .nils, .bp 0 0, .bp 1 0] (vH (.pv .nils)) (.pv (.tuple [])) (vH (.row 2 1) ++ [.row 42 1 [.pv .nils]]) := by
  refine hdet_of_vc' (E := S.E 2) fol Tryz.func63 rfl rfl (slots := []) rfl rfl ?_ ?_ ?_ fun hw => ?_
  · exact Nat.le_refl 2
  · exact ⟨trivial, trivial, trivial, rfl, rfl, trivial⟩
  · exact fun i => by
      rcases i with _ | _ | i
      · exact ⟨trivial, trivial⟩
      · exact ⟨⟨rfl, rfl, trivial⟩, trivial⟩
      · rw [hget_ge (by simp [hlen])]; exact trivial
  set_option smartUnfolding false in conv => whnf
  refine ⟨Nat.le_refl 1, ?_⟩
  set_option smartUnfolding false in conv => whnf
  refine ⟨⟨⟨by decide, by decide⟩, by decide⟩, ?_⟩
  set_option smartUnfolding false in conv => whnf
  exact weak_ren [0, 1, 3] 4 (by kernel_rfl) (blk (by kernel_rfl) (blk (by kernel_rfl) (blk (by kernel_rfl) trivial))) ⟨(by kernel_rfl), trivial⟩
theorem cuts1 : Det Tryz.prog 40 [.lst 2 [uI], .int .i64 0] (.lst 1 []) := by
  refine det_of_vc' (E := S.E 0) rfl fol Tryz.func40 rfl rfl (slots := [4]) rfl rfl fun hw => ?_
  set_option smartUnfolding false in conv => whnf
  refine acall_hdet visit1 [0, 1] 2 rfl rfl ⟨rfl, rfl, trivial⟩ ?_
  set_option smartUnfolding false in conv => whnf
  exact .le (.nils 1)
theorem cuts2 : Det Tryz.prog 40 [.lst 2 [], .int .i64 0] (.lst 1 [.lst 1 []]) := by
  refine det_of_vc' (E := S.E 0) rfl fol Tryz.func40 rfl rfl (slots := [4]) rfl rfl fun hw => ?_
  set_option smartUnfolding false in conv => whnf
  refine acall_hdet visit2 [0, 1] 2 rfl rfl ⟨rfl, rfl, trivial⟩ ?_
  set_option smartUnfolding false in conv => whnf
  exact Rd.row (id := 2) (n := 1) (t := 42) (sz := 1) (xs := [.pv .nils]) (ps := [.lst 1 []]) trivial rfl (Nat.le_refl 1) (.cons (.le (.nils 1)) .nil)
abbrev aH (r : AV) (b : AB) : Heap := [.box 63 [.pv (.lst 1 [])], .box 23 [.pv (.lst 3 [])], .box 63 [.pv (.lst 1 [])], .box 42 [r], b]
theorem add1 : HDet Tryz.prog 39 [.pv (.lst 2 [uI]), .fn 41 [.bp 4 0, .bp 1 0, .bp 2 0], .bp 0 0, .bp 1 0, .bp 2 0, .bp 3 0] (aH (.pv .nils) (.box 22 [.pv uD])) (.pv (.tuple [])) (aH (.pv .nils) (.box 22 [.pv uD])) := by
  refine hdet_of_vc' (E := S.E 5) fol Tryz.func39 rfl rfl (slots := []) rfl rfl ?_ ?_ ?_ fun hw => ?_
  · exact Nat.le_refl 5
  · exact ⟨trivial, ⟨rfl, rfl, rfl, trivial⟩, rfl, rfl, rfl, rfl, trivial⟩
  · exact fun i => by
      rcases i with _ | _ | _ | _ | _ | i
      iterate 5 exact ⟨trivial, trivial⟩
      rw [hget_ge (by simp [hlen])]; exact trivial
  set_option smartUnfolding false in conv => whnf
  refine acall_det (ps := [.lst 2 [uI], .int .i64 0]) cuts1 ?_
  set_option smartUnfolding false in conv => whnf
  refine vloop_intro (σ := Unit) (fun _ => True) (fun _ => [(18, .pv (.lst 1 [])), (19, .pv (.int .i64 0)), (20, .pv (.int .i64 0))]) (fun _ => aH (.pv .nils) (.box 22 [.pv uD])) (fun _ => 0) () trivial (weak_ren [0, 1, 2, 3, 4] 5 (by kernel_rfl) (blk (by kernel_rfl) (blk (by kernel_rfl) (blk (by kernel_rfl) (blk (by kernel_rfl) (blk (by kernel_rfl) trivial))))) ⟨(by kernel_rfl), (by kernel_rfl), (by kernel_rfl), trivial⟩) ?_
  rintro ⟨⟩ _
  set_option smartUnfolding false in conv => whnf
  exact weak_ren [0, 1, 2, 3, 4] 5 (by kernel_rfl) (blk (by kernel_rfl) (blk (by kernel_rfl) (blk (by kernel_rfl) (blk (by kernel_rfl) (blk (by kernel_rfl) trivial))))) ⟨(by kernel_rfl), trivial⟩
abbrev aHs (r : AV) (b c : AB) : Heap := [.box 63 [.pv (.lst 1 [])], .box 23 [.pv (.lst 3 [])], .box 63 [.pv (.lst 1 [])], .box 42 [r], b, c]
abbrev uIb : AB := .box 28 [.pv (.int .i64 0), .pv (.lst 2 [uI])]
abbrev aR : Heap := [.row 26 1 [.row 6 0], .row 28 2 []]
theorem add2 : HDet Tryz.prog 39 [.pv (.lst 2 []), .fn 43 [.bp 4 0], .bp 0 0, .bp 1 0, .bp 2 0, .bp 3 0] (aH (.pv .nils) uIb) (.pv (.tuple [])) (aH (.row 5 1) uIb ++ aR) := by
  refine hdet_of_vc' (E := S.E 5) fol Tryz.func39 rfl rfl (slots := []) rfl rfl ?_ ?_ ?_ fun hw => ?_
  · exact Nat.le_refl 5
  · exact ⟨trivial, ⟨rfl, trivial⟩, rfl, rfl, rfl, rfl, trivial⟩
  · exact fun i => by
      rcases i with _ | _ | _ | _ | _ | i
      iterate 4 exact ⟨trivial, trivial⟩
      · exact ⟨trivial, trivial, trivial⟩
      rw [hget_ge (by simp [hlen])]; exact trivial
  set_option smartUnfolding false in conv => whnf
  refine acall_det (ps := [.lst 2 [], .int .i64 0]) cuts2 ?_
  set_option smartUnfolding false in conv => whnf
  refine vloop_intro (σ := Bool) (fun _ => True) (fun b => [(1, .fn 43 [.bp 4 0]), (2, .bp 0 0), (3, .bp 1 0), (4, .bp 2 0), (5, .bp 3 0), (18, .pv (.lst 1 [.lst 1 []])), (19, .pv (.int .i64 1)), (20, .pv (.int .i64 (cond b 1 0)))]) (fun b => cond b (aH (.row 5 1) uIb ++ aR) (aH (.pv .nils) uIb)) (fun b => cond b 0 1) false trivial (weak_ren [0, 1, 2, 3, 4] 5 (by kernel_rfl) (blk (by kernel_rfl) (blk (by kernel_rfl) (blk (by kernel_rfl) (blk (by kernel_rfl) (blk (by kernel_rfl) trivial))))) ⟨(by kernel_rfl), (by kernel_rfl), (by kernel_rfl), (by kernel_rfl), (by kernel_rfl), (by kernel_rfl), (by kernel_rfl), (by kernel_rfl), trivial⟩) ?_
  rintro b _
  cases b with
  | true =>
    set_option smartUnfolding false in conv => whnf
    exact weak_ren [0, 1, 2, 3, 4, 5, 6] 7 (by kernel_rfl) (blk (by kernel_rfl) (blk (by kernel_rfl) (blk (by kernel_rfl) (blk (by kernel_rfl) (blk (by kernel_rfl) (blk (by kernel_rfl) (blk (by kernel_rfl) trivial))))))) ⟨(by kernel_rfl), trivial⟩
  | false =>
    set_option smartUnfolding false in conv => whnf
    refine ⟨.lst 1 [], ⟨by decide, rfl⟩, ?_⟩
    set_option smartUnfolding false in conv => whnf
    refine ⟨by decide, ?_⟩
    set_option smartUnfolding false in conv => whnf
    refine vloop_intro (σ := Unit) (fun _ => True) (fun _ => [(2, .bp 0 0), (3, .bp 1 0), (4, .bp 2 0), (5, .bp 3 0), (1, .fn 43 [.bp 4 0]), (9, .pv (.lst 1 [])), (10, .row 5 0), (18, .pv (.lst 1 [.lst 1 []])), (19, .pv (.int .i64 1)), (20, .pv (.int .i64 0)), (27, .pv (.lst 1 [])), (28, .pv (.int .i64 0)), (29, .pv (.int .i64 0))]) (fun _ => aHs (.pv .nils) uIb (.row 28 2 [])) (fun _ => 0) () trivial (weak_ren [0, 1, 2, 3, 4, 5] 6 (by kernel_rfl) (blk (by kernel_rfl) (blk (by kernel_rfl) (blk (by kernel_rfl) (blk (by kernel_rfl) (blk (by kernel_rfl) (blk (by kernel_rfl) trivial)))))) ⟨(by kernel_rfl), (by kernel_rfl), (by kernel_rfl), (by kernel_rfl), (by kernel_rfl), (by kernel_rfl), (by kernel_rfl), (by kernel_rfl), (by kernel_rfl), (by kernel_rfl), (by kernel_rfl), (by kernel_rfl), (by kernel_rfl), trivial⟩) ?_
    rintro ⟨⟩ _
    set_option smartUnfolding false in conv => whnf
    refine vloop_intro (σ := Unit) (fun _ => True) (fun _ => [(2, .bp 0 0), (3, .bp 1 0), (4, .bp 2 0), (5, .bp 3 0), (1, .fn 43 [.bp 4 0]), (9, .pv (.lst 1 [])), (10, .row 5 0), (18, .pv (.lst 1 [.lst 1 []])), (19, .pv (.int .i64 1)), (20, .pv (.int .i64 0)), (41, .pv (.lst 1 [])), (42, .pv (.int .i64 0)), (43, .pv (.int .i64 0))]) (fun _ => aHs (.pv .nils) uIb (.row 28 2 [])) (fun _ => 0) () trivial (weak_ren [0, 1, 2, 3, 4, 5] 6 (by kernel_rfl) (blk (by kernel_rfl) (blk (by kernel_rfl) (blk (by kernel_rfl) (blk (by kernel_rfl) (blk (by kernel_rfl) (blk (by kernel_rfl) trivial)))))) ⟨(by kernel_rfl), (by kernel_rfl), (by kernel_rfl), (by kernel_rfl), (by kernel_rfl), (by kernel_rfl), (by kernel_rfl), (by kernel_rfl), (by kernel_rfl), (by kernel_rfl), (by kernel_rfl), (by kernel_rfl), (by kernel_rfl), trivial⟩) ?_
    rintro ⟨⟩ _
    set_option smartUnfolding false in conv => whnf
    refine ⟨Nat.le_refl 1, ?_⟩
    set_option smartUnfolding false in conv => whnf
    refine ⟨⟨⟨by decide, by decide⟩, by decide⟩, ?_⟩
    set_option smartUnfolding false in conv => whnf
    exact ⟨true, trivial, weak_ren [0, 1, 2, 3, 4, 7, 5] 8 (by kernel_rfl) (blk (by kernel_rfl) (blk (by kernel_rfl) (blk (by kernel_rfl) (blk (by kernel_rfl) (blk (by kernel_rfl) (blk (by kernel_rfl) (blk (by kernel_rfl) trivial))))))) ⟨(by kernel_rfl), (by kernel_rfl), (by kernel_rfl), (by kernel_rfl), (by kernel_rfl), (by kernel_rfl), (by kernel_rfl), (by kernel_rfl), trivial⟩, Nat.lt_succ_self 0⟩

/-! ### slices.SortFunc of one element -/
abbrev sH : Heap := [.row 26 1 [.row 1 0], .row 28 2 []]
theorem len64_1 : Det Tryz.prog 102 [.int .u64 1] (.int .i64 1) := by
  refine det_of_vc' (E := S.E 0) rfl fol Tryz.func102 rfl rfl (slots := [2]) rfl rfl fun hw => ?_
  set_option smartUnfolding false in conv => whnf
  refine ⟨by decide, ?_⟩
  set_option smartUnfolding false in conv => whnf
  exact rdI rfl
theorem len_1 : Det Tryz.prog 67 [.int .u64 1] (.int .i64 1) := by
  refine det_of_vc' (E := S.E 0) rfl fol Tryz.func67 rfl rfl (slots := [2]) rfl rfl fun hw => ?_
  set_option smartUnfolding false in conv => whnf
  refine acall_det (ps := [.int .u64 1]) len64_1 ?_
  set_option smartUnfolding false in conv => whnf
  exact rdI rfl
theorem ins_1 : HDet Tryz.prog 93 [.row 0 1, .pv (.int .i64 0), .pv (.int .i64 1), .pv (.fn 45 [])] sH (.pv (.tuple [])) sH := by
  refine hdet_of_vc' (E := S.E 2) fol Tryz.func93 rfl rfl (slots := []) rfl rfl ?_ ?_ ?_ fun hw => ?_
  · exact Nat.le_refl 2
  · repeat (first | exact trivial | (refine ⟨?_, ?_⟩) | rfl | trivial)
  · exact fun i => by
      rcases i with _ | _ | i
      · exact ⟨rfl, trivial⟩
      · exact trivial
      · rw [hget_ge (by simp [hlen])]; exact trivial
  set_option smartUnfolding false in conv => whnf
  refine vloop_intro (σ := Unit) (fun _ => True) (fun _ => [(2, .pv (.int .i64 1)), (8, .pv (.int .i64 1))]) (fun _ => sH) (fun _ => 0) () trivial (weak_ren [0, 1] 2 (by kernel_rfl) (blk (by kernel_rfl) (blk (by kernel_rfl) trivial)) ⟨(by kernel_rfl), (by kernel_rfl), trivial⟩) ?_
  rintro ⟨⟩ _
  set_option smartUnfolding false in conv => whnf
  exact weak_ren [0, 1] 2 (by kernel_rfl) (blk (by kernel_rfl) (blk (by kernel_rfl) trivial)) ⟨(by kernel_rfl), trivial⟩
theorem pdq_1 : HDet Tryz.prog 66 [.row 0 1, .pv (.int .i64 0), .pv (.int .i64 1), .pv (.int .i64 1), .pv (.fn 45 [])] sH (.pv (.tuple [])) sH := by
  refine hdet_of_vc' (E := S.E 2) fol Tryz.func66 rfl rfl (slots := []) rfl rfl ?_ ?_ ?_ fun hw => ?_
  · exact Nat.le_refl 2
  · repeat (first | exact trivial | (refine ⟨?_, ?_⟩) | rfl | trivial)
  · exact fun i => by
      rcases i with _ | _ | i
      · exact ⟨rfl, trivial⟩
      · exact trivial
      · rw [hget_ge (by simp [hlen])]; exact trivial
  set_option smartUnfolding false in conv => whnf
  refine vloop_intro (σ := Unit) (fun _ => True) (fun _ => [(0, .row 0 1), (1, .pv (.int .i64 0)), (2, .pv (.int .i64 1)), (4, .pv (.fn 45 []))]) (fun _ => sH) (fun _ => 0) () trivial (weak_ren [0, 1] 2 (by kernel_rfl) (blk (by kernel_rfl) (blk (by kernel_rfl) trivial)) ⟨(by kernel_rfl), (by kernel_rfl), (by kernel_rfl), (by kernel_rfl), trivial⟩) ?_
  rintro ⟨⟩ _
  set_option smartUnfolding false in conv => whnf
  refine acall_hdet ins_1 [0, 1] 2 rfl rfl ⟨rfl, rfl, trivial⟩ ?_
  set_option smartUnfolding false in conv => whnf
  exact weak_ren [0, 1] 2 (by kernel_rfl) (blk (by kernel_rfl) (blk (by kernel_rfl) trivial)) ⟨(by kernel_rfl), trivial⟩
theorem sort_1 : HDet Tryz.prog 44 [.row 0 1, .pv (.fn 45 [])] sH (.pv (.tuple [])) sH := by
  refine hdet_of_vc' (E := S.E 2) fol Tryz.func44 rfl rfl (slots := []) rfl rfl ?_ ?_ ?_ fun hw => ?_
  · exact Nat.le_refl 2
  · repeat (first | exact trivial | (refine ⟨?_, ?_⟩) | rfl | trivial)
  · exact fun i => by
      rcases i with _ | _ | i
      · exact ⟨rfl, trivial⟩
      · exact trivial
      · rw [hget_ge (by simp [hlen])]; exact trivial
  set_option smartUnfolding false in conv => whnf
  refine acall_det (ps := [.int .u64 1]) len_1 ?_
  set_option smartUnfolding false in conv => whnf
  refine acall_hdet pdq_1 [0, 1] 2 rfl rfl ⟨rfl, rfl, trivial⟩ ?_
  set_option smartUnfolding false in conv => whnf
  exact weak_ren [0, 1] 2 (by kernel_rfl) (blk (by kernel_rfl) (blk (by kernel_rfl) trivial)) ⟨(by kernel_rfl), trivial⟩
end Go.AM

set_option linter.all false
set_option maxRecDepth 20000
set_option maxHeartbeats 4000000
namespace Go.AM
open Go.Proofs

theorem pv_uX : (Ix.mk 0 [.mk 0 []]).pv = uX := by
  rw [Ix.pv_mk]; simp only [Ix.ag, Ix.pvL_cons, Ix.pvL_nil, Ix.pv_mk]
theorem D0_fields : fieldsS D0 leaf0 0 = some [] := rfl
theorem D0_rec : recS D0 0 0 = [] := by rfl
theorem uX_deg : degS D0 leaf0 (.mk 0 [.mk 0 []]) = 1 := by
  rw [degS_yes leaf0_known]
  unfold leaf0
  rw [Ix.deg_mk]
  have hp : payS D0 (.mk 5 0 []) 0 = some [] := by
    have : fieldsS D0 (.mk 5 0 []) 0 = some [] := rfl
    rw [payS_some this, picks_nil]
  have : Ix.degE D0 (.mk 5 0 []) 0 [.mk 0 []] = some 1 := by
    rw [Ix.degE_cons, Ix.degK_mk, hp]
    simp only
    rw [Ix.degL_nil]
    simp only
    rw [if_neg (by omega), Ix.degE_nil]; rfl
  rw [if_neg (by omega), if_neg (by omega), if_pos rfl, if_pos ⟨rfl, by decide⟩, this]; rfl
theorem cons_valid : Det Tryz.prog 27 [uD, uT, uX] (.bool true) := by
  have h := iValid_det D0_ok.1 D0_ok.2 leaf0 (.mk 0 [.mk 0 []])
  rw [uX_deg, D0_pv, leaf0_pv, pv_uX] at h
  exact h
theorem cons_con : Det Tryz.prog 32 [uD, uT, .int .i64 0] (.int .i64 0) := by
  refine det_of_vc' (E := S.E 0) rfl fol Tryz.func32 rfl rfl (slots := [6]) rfl rfl fun hw => ?_
  set_option smartUnfolding false in conv => whnf
  refine ⟨uDe, ⟨by decide, rfl⟩, ?_⟩
  set_option smartUnfolding false in conv => whnf
  exact rdP (.refl _)
theorem cons_fields : Det Tryz.prog 33 [uD, uT, .int .i64 0] (.tuple [.lst 3 [], .bool true]) := by
  have h := tfields_det D0_ok.1 leaf0 (by rw [leaf0_cnt]; omega) 0
  rw [D0_fields, optP_some, V.pvL_nil, List.append_nil, D0_pv, leaf0_pv] at h
  exact h
theorem cons_pay : Det Tryz.prog 35 [uD, uT, .int .i64 0] (.tuple [.lst 1 [], .lst 1 [], .bool true]) := by
  have h := ipayload_det D0_ok.1 D0_ok.2 0 [] (by have := leaf0_cnt; unfold leaf0 at this; omega) leaf0_known 0 (fs := []) D0_fields
  rw [D0_rec, pos_nil, pos_nil, natsP_nil, D0_pv] at h
  have e := leaf0_pv
  unfold leaf0 at e
  rw [e] at h
  exact h
theorem cons_det : Det Tryz.prog 18 [uD, uT, .int .i64 0, uX] (.tuple [.lst 1 [.lst 2 []], .int .i64 0]) := by
  refine det_of_vc' (E := S.E 0) rfl fol Tryz.func18 rfl rfl (slots := [8, 9]) rfl rfl fun hw => ?_
  set_option smartUnfolding false in conv => whnf
  refine acall_det (ps := [uD, uT, uX]) cons_valid ?_
  set_option smartUnfolding false in conv => whnf
  refine acall_det (ps := [uD, uT, .int .i64 0]) cons_con ?_
  set_option smartUnfolding false in conv => whnf
  refine acall_det (ps := [uD, uT, .int .i64 0]) cons_fields ?_
  set_option smartUnfolding false in conv => whnf
  refine acall_det (ps := [uD, uT, .int .i64 0]) cons_pay ?_
  set_option smartUnfolding false in conv => whnf
  refine acall_hdet add1 [5, 3, 4, 6, 0] 7 rfl rfl ⟨rfl, rfl, rfl, rfl, rfl, trivial⟩ ?_
  set_option smartUnfolding false in conv => whnf
  refine ⟨uI, ⟨by decide, rfl⟩, ?_⟩
  set_option smartUnfolding false in conv => whnf
  refine ⟨by decide, ?_⟩
  set_option smartUnfolding false in conv => whnf
  refine acall_hdet add2 [5, 3, 4, 6, 2] 7 rfl rfl ⟨rfl, rfl, rfl, rfl, rfl, trivial⟩ ?_
  set_option smartUnfolding false in conv => whnf
  refine acall_hdet sort_1 [7, 8] 9 rfl rfl ⟨rfl, rfl, trivial⟩ ?_
  set_option smartUnfolding false in conv => whnf
  exact .tup (.cons (Rd.row (id := 7) (n := 1) (t := 26) (sz := 1) (xs := [.row 8 0]) (ps := [.lst 2 []]) trivial rfl (Nat.le_refl 1) (.cons (Rd.row (id := 8) (n := 0) (t := 28) (sz := 2) (xs := []) (ps := []) trivial rfl (Nat.le_refl 0) .nil) .nil)) (.cons (.pv _) .nil))
theorem awake18_det : Det Tryz.prog 13 [] (.bool true) := by
  refine det_of_vc' (E := S.E 0) rfl fol Tryz.func13 rfl rfl (slots := [0]) rfl rfl fun hw => ?_
  set_option smartUnfolding false in conv => whnf
  refine acall_intro (adet_eat (S := [1, 0, 2]) cons_det (.cons (Rd.row (id := 1) (n := 1) (t := 61) (sz := 3) (xs := [.mix [.pv (.str ⟨#[68]⟩), .pv (.int .i64 0), .row 0 1]]) (ps := [uDe]) (.head _) (by kernel_rfl) (Nat.le_refl 1)
    (.cons (.mix (.cons (.pv _) (.cons (.pv _) (.cons (Rd.row (id := 0) (n := 1) (t := 58) (sz := 2) (xs := [.pv (.agg [.str ⟨#[67]⟩, .nils])]) (ps := [uC]) (.tail _ (.head _)) (by kernel_rfl) (Nat.le_refl 1) (.cons (.le (.agg (.cons (.refl _) (.cons (.nils 3) .nil)))) .nil)) .nil)))) .nil))
    (.cons (.le (.agg (.cons (.refl _) (.cons (.refl _) (.cons (.nils 3) .nil))))) (.cons (.pv _) (.cons (.mix (.cons (.pv _) (.cons (Rd.row (id := 2) (n := 1) (t := 28) (sz := 2) (xs := [.pv (.agg [.int .i64 0, .nils])]) (ps := [uI]) (.tail _ (.tail _ (.head _))) (by kernel_rfl) (Nat.le_refl 1) (.cons (.le (.agg (.cons (.refl _) (.cons (.nils 2) .nil)))) .nil)) .nil))) .nil))))) ?_
  set_option smartUnfolding false in conv => whnf
  refine ⟨.lst 2 [], ⟨by decide, rfl⟩, ?_⟩
  set_option smartUnfolding false in conv => whnf
  exact rdB rfl
end Go.AM

set_option linter.all false
set_option maxRecDepth 20000
set_option maxHeartbeats 4000000
namespace Go.AM
open Go.Proofs

/-! ### An index is the same as itself -/
theorem samI_of (n : Int) (ks : List Ix) (h : Det Tryz.prog 12 [.lst 2 (Ix.pvL ks), .lst 2 (Ix.pvL ks)] (.bool true)) : Det Tryz.prog 17 [Ix.ag n ks, Ix.ag n ks] (.bool true) := by
  refine det_of_vc' (E := S.E 0) rfl fol Tryz.func17 rfl rfl (slots := [4]) rfl rfl fun hw => ?_
  set_option smartUnfolding false in conv => whnf
  refine br_intro (fun h2 => ?_) (fun h2 => ?_) <;> set_option smartUnfolding false in conv => whnf
  · refine acall_det (ps := [.lst 2 (Ix.pvL ks), .lst 2 (Ix.pvL ks)]) h ?_
    set_option smartUnfolding false in conv => whnf
    exact rdB rfl
  · simp at h2
theorem samIs_of (ks : List Ix) (ih : ∀ v ∈ ks, Det Tryz.prog 17 [v.pv, v.pv] (.bool true)) : Det Tryz.prog 12 [.lst 2 (Ix.pvL ks), .lst 2 (Ix.pvL ks)] (.bool true) := by
  refine det_of_vc' (E := S.E 0) rfl fol Tryz.func12 rfl rfl (slots := [4]) rfl rfl fun hw => ?_
  have hl : ks.length ≤ 9223372036854775807 := by have := hw.1.1; rwa [Ix.pvL_len] at this
  set_option smartUnfolding false in conv => whnf
  refine br_intro (fun h => ?_) (fun h => ?_) <;> set_option smartUnfolding false in conv => whnf
  · simp at h
  refine vloop_intro (σ := Nat) (fun i => i ≤ ks.length)
    (fun i => [(0, .pv (.lst 2 (Ix.pvL ks))), (1, .pv (.lst 2 (Ix.pvL ks))), (12, .pv (.int .i64 (Ix.pvL ks).length)), (13, .pv (.int .i64 i))])
    (fun _ => []) (fun i => ks.length - i) 0 (Nat.zero_le _) (weak_bare rfl ⟨(by kernel_rfl), (by kernel_rfl), (by kernel_rfl), (by kernel_rfl), trivial⟩) ?_
  rintro i hi
  set_option smartUnfolding false in conv => whnf
  refine br_intro (fun h => ?_) (fun h => ?_) <;> set_option smartUnfolding false in conv => whnf
  · replace h : i < ks.length := by have := dT h; rw [Ix.pvL_len] at this; simpa using this
    obtain ⟨⟨n1, ks1⟩, hv, hg, _, hd⟩ := Ix.get_pvL h
    have hih := ih _ hv
    rw [Ix.pv_mk] at hg hih
    refine ⟨Ix.ag n1 ks1, ⟨by simp, by simpa using hg⟩, ?_⟩
    set_option smartUnfolding false in conv => whnf
    refine ⟨Ix.ag n1 ks1, ⟨by simp, by simpa using hg⟩, ?_⟩
    set_option smartUnfolding false in conv => whnf
    refine acall_det (ps := [Ix.ag n1 ks1, Ix.ag n1 ks1]) hih ?_
    set_option smartUnfolding false in conv => whnf
    exact ⟨i + 1, h, weak_bare rfl ⟨(by kernel_rfl), (by kernel_rfl), (by kernel_rfl), sUp h hl, trivial⟩, subUp h⟩
  · exact rdB rfl
theorem samI_self (v : Ix) : Det Tryz.prog 17 [v.pv, v.pv] (.bool true) := by
  refine Ix.recOn' (p := fun v => Det Tryz.prog 17 [v.pv, v.pv] (.bool true)) (fun n ks ih => ?_) v
  rw [Ix.pv_mk]
  exact samI_of n ks (samIs_of ks ih)
theorem samIs_self (ks : List Ix) : Det Tryz.prog 12 [.lst 2 (Ix.pvL ks), .lst 2 (Ix.pvL ks)] (.bool true) := samIs_of ks fun v _ => samI_self v
end Go.AM

set_option linter.all false
set_option maxRecDepth 20000
set_option maxHeartbeats 4000000
namespace Go.AM
open Go.Proofs

/-! ### keep.Data -/
def keepCs : List Cn → Bool
  | [] => true
  | c :: l => (decide (c.name.size ≤ 40) && decide (c.args.length ≤ 8) && (V.valL c.args 20).1) && keepCs l
def keepDs : List Dt → Bool
  | [] => true
  | d :: l => (decide (d.name.size ≤ 40) && decide (d.cons.length ≤ 10) && keepCs d.cons) && keepDs l
def keepD (D : List Dt) : Bool := decide (D.length ≤ 14) && keepDs D
theorem keepCs_nil : keepCs [] = true := rfl
theorem keepCs_cons (c : Cn) (l : List Cn) : keepCs (c :: l) = ((decide (c.name.size ≤ 40) && decide (c.args.length ≤ 8) && (V.valL c.args 20).1) && keepCs l) := rfl
theorem keepDs_nil : keepDs [] = true := rfl
theorem keepDs_cons (d : Dt) (l : List Dt) : keepDs (d :: l) = ((decide (d.name.size ≤ 40) && decide (d.cons.length ≤ 10) && keepCs d.cons) && keepDs l) := rfl
attribute [irreducible] keepCs keepDs

theorem keepData_det (D : List Dt) : Det Tryz.prog 24 [.lst 3 (Dt.pvL D)] (.bool (keepD D)) := by
  generalize hR : keepD D = R
  unfold keepD at hR
  refine det_of_vc' (E := S.E 0) rfl fol Tryz.func24 rfl rfl (slots := [2]) rfl rfl fun hw => ?_
  set_option smartUnfolding false in conv => whnf
  refine br_intro (fun h0 => ?_) (fun h0 => ?_) <;> set_option smartUnfolding false in conv => whnf
  · have h0 := dT h0
    rw [Dt.pvL_len] at h0
    exact rdB (by rw [← hR, decide_eq_false (by omega)]; rfl)
  have h0 := dF h0
  rw [Dt.pvL_len] at h0
  rw [decide_eq_true (by omega), Bool.true_and] at hR
  refine vloop_intro (σ := Nat) (fun i => i ≤ D.length ∧ keepDs (D.drop i) = R) (fun i => [(13, .pv (.lst 3 (Dt.pvL D))), (14, .pv (.int .i64 (Dt.pvL D).length)), (15, .pv (.int .i64 i))]) (fun _ => []) (fun i => D.length - i) 0 ⟨by simp, by simpa using hR⟩ (weak_bare rfl ⟨(by kernel_rfl), (by kernel_rfl), (by kernel_rfl), trivial⟩) ?_
  rintro i ⟨hi, hs⟩
  set_option smartUnfolding false in conv => whnf
  refine br_intro (fun h => ?_) (fun h => ?_) <;> set_option smartUnfolding false in conv => whnf
  rotate_left
  · replace h : D.length ≤ i := by have := dF h; rw [Dt.pvL_len] at this; omega
    rw [List.drop_of_length_le h, keepDs_nil] at hs
    exact rdB hs
  replace h : i < D.length := by have := dT h; rw [Dt.pvL_len] at this; omega
  refine Dt.get_elim h fun nm vs cs hmem hg hg2 hd => ?_
  rw [hd, keepDs_cons] at hs
  simp only at hs
  refine ⟨Dt.ag nm vs cs, ⟨by omega, by simpa using hg⟩, ?_⟩
  set_option smartUnfolding false in conv => whnf
  refine br_intro (fun g => ?_) (fun g => ?_) <;> set_option smartUnfolding false in conv => whnf
  · have g := dT g
    exact rdB (by rw [← hs, decide_eq_false (by omega)]; rfl)
  have g1 := dF g
  refine br_intro (fun g => ?_) (fun g => ?_) <;> set_option smartUnfolding false in conv => whnf
  · have g := dT g
    rw [Cn.pvL_len] at g
    exact rdB (by rw [← hs, decide_eq_false (p := cs.length ≤ 10) (by omega)]; simp)
  have g2 := dF g
  rw [Cn.pvL_len] at g2
  rw [decide_eq_true (by omega), decide_eq_true (p := cs.length ≤ 10) (by omega), Bool.true_and, Bool.true_and] at hs
  refine vloop_intro (σ := Nat) (fun j => j ≤ cs.length ∧ (keepCs (cs.drop j) && keepDs (D.drop (i + 1))) = R) (fun j => [(13, .pv (.lst 3 (Dt.pvL D))), (14, .pv (.int .i64 (Dt.pvL D).length)), (15, .pv (.int .i64 i)), (30, .pv (.lst 2 (Cn.pvL cs))), (31, .pv (.int .i64 (Cn.pvL cs).length)), (32, .pv (.int .i64 j))]) (fun _ => []) (fun j => cs.length - j) 0 ⟨by simp, by simpa using hs⟩ (weak_bare rfl ⟨(by kernel_rfl), (by kernel_rfl), (by kernel_rfl), (by kernel_rfl), (by kernel_rfl), (by kernel_rfl), trivial⟩) ?_
  rintro j ⟨hj, hs2⟩
  set_option smartUnfolding false in conv => whnf
  refine br_intro (fun h' => ?_) (fun h' => ?_) <;> set_option smartUnfolding false in conv => whnf
  rotate_left
  · replace h' : cs.length ≤ j := by have := dF h'; rw [Cn.pvL_len] at this; omega
    rw [List.drop_of_length_le h', keepCs_nil, Bool.true_and] at hs2
    exact ⟨i + 1, ⟨h, hs2⟩, weak_bare rfl ⟨(by kernel_rfl), (by kernel_rfl), sUp h (by omega), trivial⟩, subUp h⟩
  replace h' : j < cs.length := by have := dT h'; rw [Cn.pvL_len] at this; omega
  refine Cn.get_elim h' fun cn cas hcm hcg hcg2 hcd => ?_
  rw [hcd, keepCs_cons] at hs2
  simp only at hs2
  refine ⟨Cn.ag cn cas, ⟨by omega, by simpa using hcg⟩, ?_⟩
  set_option smartUnfolding false in conv => whnf
  refine br_intro (fun g => ?_) (fun g => ?_) <;> set_option smartUnfolding false in conv => whnf
  · have g := dT g
    exact rdB (by rw [← hs2, decide_eq_false (by omega)]; rfl)
  have g3 := dF g
  refine br_intro (fun g => ?_) (fun g => ?_) <;> set_option smartUnfolding false in conv => whnf
  · have g := dT g
    rw [V.pvL_len] at g
    exact rdB (by rw [← hs2, decide_eq_false (p := cas.length ≤ 8) (by omega)]; simp)
  have g4 := dF g
  rw [V.pvL_len] at g4
  rw [decide_eq_true (by omega), decide_eq_true (p := cas.length ≤ 8) (by omega), Bool.true_and, Bool.true_and] at hs2
  refine vloop_intro (σ := Nat × Int) (fun x => x.1 ≤ cas.length ∧ ((V.valL (cas.drop x.1) x.2).1 && keepCs (cs.drop (j + 1)) && keepDs (D.drop (i + 1))) = R) (fun x => [(7, .bp 0 0), (13, .pv (.lst 3 (Dt.pvL D))), (14, .pv (.int .i64 (Dt.pvL D).length)), (15, .pv (.int .i64 i)), (30, .pv (.lst 2 (Cn.pvL cs))), (31, .pv (.int .i64 (Cn.pvL cs).length)), (32, .pv (.int .i64 j)), (47, .pv (.lst 3 (V.pvL cas))), (48, .pv (.int .i64 (V.pvL cas).length)), (49, .pv (.int .i64 x.1))]) (fun x => [.box 3 [.pv (.int .i64 x.2)]]) (fun x => cas.length - x.1) (0, 20) ⟨by simp, by simpa using hs2⟩ (weak_ren [1] 2 (by kernel_rfl) (blk (by kernel_rfl) trivial) ⟨(by kernel_rfl), (by kernel_rfl), (by kernel_rfl), (by kernel_rfl), (by kernel_rfl), (by kernel_rfl), (by kernel_rfl), (by kernel_rfl), (by kernel_rfl), (by kernel_rfl), trivial⟩) ?_
  rintro ⟨m, s⟩ ⟨hm, hs3⟩
  simp only at hm hs3
  set_option smartUnfolding false in conv => whnf
  refine br_intro (fun h2 => ?_) (fun h2 => ?_) <;> set_option smartUnfolding false in conv => whnf
  rotate_left
  · replace h2 : cas.length ≤ m := by have := dF h2; rw [V.pvL_len] at this; simp only at this; omega
    rw [List.drop_of_length_le h2, V.valL_nil] at hs3
    simp only [Bool.true_and] at hs3
    exact ⟨j + 1, ⟨h', hs3⟩, weak_bare rfl ⟨(by kernel_rfl), (by kernel_rfl), (by kernel_rfl), (by kernel_rfl), (by kernel_rfl), sUp h' (by omega), trivial⟩, subUp h'⟩
  replace h2 : m < cas.length := by have := dT h2; rw [V.pvL_len] at this; simp only at this; omega
  refine V.get_elim h2 fun k' n' ts' hv hge hg0 hde => ?_
  rw [hde, V.valL_cons] at hs3
  have ht := typ_hdet (.mk k' n' ts') s
  rw [V.pv_mk] at ht
  refine ⟨V.ag k' n' ts', ⟨(by first | omega | (simp only; omega)), by simpa using hge⟩, ?_⟩
  set_option smartUnfolding false in conv => whnf
  refine acall_hdet ht [0] 2 rfl rfl ⟨rfl, trivial⟩ ?_
  set_option smartUnfolding false in conv => whnf
  refine br_intro (fun g => ?_) (fun g => ?_) <;> set_option smartUnfolding false in conv => whnf
  · have g : ((V.mk k' n' ts').val s).1 = false := by simpa using g
    cases hx : (V.mk k' n' ts').val s with
    | mk b n2 =>
      rw [hx] at g hs3
      simp only at g
      subst g
      exact rdB hs3
  · have g : ((V.mk k' n' ts').val s).1 = true := by simpa using g
    cases hx : (V.mk k' n' ts').val s with
    | mk b n2 =>
      rw [hx] at g hs3
      simp only at g
      subst g
      simp only at hs3
      exact ⟨(m + 1, n2), ⟨h2, hs3⟩, weak_ren [0] 2 (by kernel_rfl) (blk (by kernel_rfl) trivial) ⟨(by kernel_rfl), (by kernel_rfl), (by kernel_rfl), (by kernel_rfl), (by kernel_rfl), (by kernel_rfl), (by kernel_rfl), (by kernel_rfl), (by kernel_rfl), sUp h2 (by omega), trivial⟩, by show cas.length - (m + 1) < cas.length - m; omega⟩

theorem keepCs_mem : ∀ {l : List Cn} {c : Cn}, keepCs l = true → c ∈ l → c.name.size ≤ 40 ∧ c.args.length ≤ 8 ∧ (V.valL c.args 20).1 = true
  | [], c, _, h => by simp at h
  | y :: l, c, h, hc => by
    rw [keepCs_cons] at h
    simp only [Bool.and_eq_true, decide_eq_true_eq] at h
    rcases List.mem_cons.1 hc with rfl | hc
    · exact ⟨h.1.1.1, h.1.1.2, h.1.2⟩
    · exact keepCs_mem h.2 hc
theorem keepDs_mem : ∀ {l : List Dt} {d : Dt}, keepDs l = true → d ∈ l → d.name.size ≤ 40 ∧ d.cons.length ≤ 10 ∧ keepCs d.cons = true
  | [], d, _, h => by simp at h
  | y :: l, d, h, hd => by
    rw [keepDs_cons] at h
    simp only [Bool.and_eq_true, decide_eq_true_eq] at h
    rcases List.mem_cons.1 hd with rfl | hd
    · exact ⟨h.1.1.1, h.1.1.2, h.1.2⟩
    · exact keepDs_mem h.2 hd
theorem keepD_ok {D : List Dt} (h : keepD D = true) : DOK D ∧ DN D := by
  unfold keepD at h
  simp only [Bool.and_eq_true, decide_eq_true_eq] at h
  refine ⟨⟨by omega, fun d hd => by have := keepDs_mem h.2 hd; omega, fun d hd c hc => ?_, fun d hd c hc a ha => ?_⟩, ⟨fun d hd => by have := keepDs_mem h.2 hd; omega, fun d hd c hc => ?_⟩⟩
  · have := keepCs_mem (keepDs_mem h.2 hd).2.2 hc; omega
  · have h3 := (keepCs_mem (keepDs_mem h.2 hd).2.2 hc).2.2
    have := (V.valL_spec c.args 20 (by omega) (by omega)).1 h3
    have := V.cnt_mem ha
    omega
  · have := keepCs_mem (keepDs_mem h.2 hd).2.2 hc; omega
end Go.AM

set_option linter.all false
set_option maxRecDepth 20000
set_option maxHeartbeats 4000000
namespace Go.AM
open Go.Proofs

theorem keepT_cntU {v : V} (h : (v.val 250).1 = true) : v.cnt ≤ 250 := by
  have := (V.val_spec v 250 (by omega) (by omega)).1 h; omega
theorem small18_det (D : List Dt) (t : V) : Det Tryz.prog 8 [.lst 3 (Dt.pvL D), t.pv] (.bool (keepD D && (t.val 250).1)) := by
  have k1 := keepData_det D
  have k3 := keepT_det t
  generalize keepD D = b1 at k1
  generalize (t.val 250).1 = b3 at k3
  obtain ⟨tk, tn, ts⟩ := t
  rw [V.pv_mk] at k3 ⊢
  refine det_of_vc' (E := S.E 0) rfl fol Tryz.func8 rfl rfl (slots := [4]) rfl rfl fun hw => ?_
  set_option smartUnfolding false in conv => whnf
  refine acall_det (ps := [.lst 3 (Dt.pvL D)]) k1 ?_
  set_option smartUnfolding false in conv => whnf
  refine br_intro (fun h1 => ?_) (fun h1 => ?_) <;> set_option smartUnfolding false in conv => whnf
  · refine acall_det (ps := [V.ag tk tn ts]) k3 ?_
    set_option smartUnfolding false in conv => whnf
    exact rdB (by rw [h1]; simp)
  · exact rdB (by rw [h1]; simp)

/-! ### Tuple, both -/
def Ix.kids : Ix → List Ix | .mk _ ks => ks
def V.kd : V → Int | .mk k _ _ => k
noncomputable def tupS (D : List Dt) (t : V) (i : Ix) : Int × List Ix := if 0 ≤ degS D t i then (if t.kd = 6 then (0, i.kids) else (6, [])) else (1, [])
def tupP (x : Int × List Ix) : PV := .tuple [.lst 2 (Ix.pvL x.2), .int .i64 x.1]
theorem tuple_det {D : List Dt} (hD : DOK D) (hN : DN D) (t : V) (i : Ix) (hc : i.cnt ≤ 1000000) : Det Tryz.prog 10 [.lst 3 (Dt.pvL D), t.pv, i.pv] (tupP (tupS D t i)) := by
  have h1 := iValid_det hD hN t i
  have h2 : ∀ n ks, i = .mk n ks → Det Tryz.prog 28 [.lst 2 (Ix.pvL ks)] (.lst 2 (Ix.pvL ks)) := fun n ks h => uclones_det ks (by rw [h, Ix.cnt_mk] at hc; omega)
  generalize hS : tupS D t i = r
  unfold tupS at hS
  by_cases hg : 0 ≤ degS D t i
  · rw [if_pos hg] at hS
    rw [decide_eq_true hg] at h1
    obtain ⟨tk, tn, ts⟩ := t
    obtain ⟨n, ks⟩ := i
    replace hS : (if tk = 6 then ((0 : Int), ks) else ((6 : Int), ([] : List Ix))) = r := hS
    rw [V.pv_mk, Ix.pv_mk] at h1
    rw [V.pv_mk, Ix.pv_mk]
    refine det_of_vc' (E := S.E 0) rfl fol Tryz.func10 rfl rfl (slots := [6, 7]) rfl rfl fun hw => ?_
    set_option smartUnfolding false in conv => whnf
    refine acall_det (ps := [.lst 3 (Dt.pvL D), V.ag tk tn ts, Ix.ag n ks]) h1 ?_
    set_option smartUnfolding false in conv => whnf
    refine br_intro (fun g => ?_) (fun g => ?_) <;> set_option smartUnfolding false in conv => whnf
    · have g : ¬ tk = 6 := by simpa using g
      rw [if_neg g] at hS
      subst hS
      exact .le (.tuple (.cons (by unfold Ix.pvL; exact .nils 2) (.cons (.refl _) .nil)))
    · have g : tk = 6 := by simpa using g
      rw [if_pos g] at hS
      subst hS
      refine acall_det (ps := [.lst 2 (Ix.pvL ks)]) (h2 n ks rfl) ?_
      set_option smartUnfolding false in conv => whnf
      exact rdP (.refl _)
  · rw [if_neg hg] at hS
    rw [decide_eq_false hg] at h1
    subst hS
    obtain ⟨tk, tn, ts⟩ := t
    obtain ⟨n, ks⟩ := i
    rw [V.pv_mk, Ix.pv_mk] at h1
    rw [V.pv_mk, Ix.pv_mk]
    refine det_of_vc' (E := S.E 0) rfl fol Tryz.func10 rfl rfl (slots := [6, 7]) rfl rfl fun hw => ?_
    set_option smartUnfolding false in conv => whnf
    refine acall_det (ps := [.lst 3 (Dt.pvL D), V.ag tk tn ts, Ix.ag n ks]) h1 ?_
    set_option smartUnfolding false in conv => whnf
    exact .le (.tuple (.cons (by unfold Ix.pvL; exact .nils 2) (.cons (.refl _) .nil)))
theorem rtuple_det {D : List Dt} (hD : DOK D) (hN : DN D) (t : V) (ht : t.cnt ≤ 1000000) (i : Ix) (hc : i.cnt ≤ 1000000) : Det Tryz.prog 11 [.lst 3 (Dt.pvL D), t.pv, i.pv] (tupP (tupS D t i)) := by
  have h1 := rIValid_det hD hN t ht i
  have h2 : ∀ n ks, i = .mk n ks → Det Tryz.prog 30 [Ix.ag n ks] (Ix.ag n ks) := fun n ks h => by rw [h] at hc; have := copy17_det (.mk n ks) hc; rwa [Ix.pv_mk] at this
  generalize hS : tupS D t i = r
  unfold tupS at hS
  by_cases hg : 0 ≤ degS D t i
  · rw [if_pos hg] at hS
    rw [decide_eq_true hg] at h1
    obtain ⟨tk, tn, ts⟩ := t
    obtain ⟨n, ks⟩ := i
    replace hS : (if tk = 6 then ((0 : Int), ks) else ((6 : Int), ([] : List Ix))) = r := hS
    rw [V.pv_mk, Ix.pv_mk] at h1
    rw [V.pv_mk, Ix.pv_mk]
    refine det_of_vc' (E := S.E 0) rfl fol Tryz.func11 rfl rfl (slots := [6, 7]) rfl rfl fun hw => ?_
    set_option smartUnfolding false in conv => whnf
    refine acall_det (ps := [.lst 3 (Dt.pvL D), V.ag tk tn ts, Ix.ag n ks]) h1 ?_
    set_option smartUnfolding false in conv => whnf
    refine br_intro (fun g => ?_) (fun g => ?_) <;> set_option smartUnfolding false in conv => whnf
    · have g : ¬ tk = 6 := by simpa using g
      rw [if_neg g] at hS
      subst hS
      exact .le (.tuple (.cons (by unfold Ix.pvL; exact .nils 2) (.cons (.refl _) .nil)))
    · have g : tk = 6 := by simpa using g
      rw [if_pos g] at hS
      subst hS
      refine acall_det (ps := [Ix.ag n ks]) (h2 n ks rfl) ?_
      set_option smartUnfolding false in conv => whnf
      exact rdP (.refl _)
  · rw [if_neg hg] at hS
    rw [decide_eq_false hg] at h1
    subst hS
    obtain ⟨tk, tn, ts⟩ := t
    obtain ⟨n, ks⟩ := i
    rw [V.pv_mk, Ix.pv_mk] at h1
    rw [V.pv_mk, Ix.pv_mk]
    refine det_of_vc' (E := S.E 0) rfl fol Tryz.func11 rfl rfl (slots := [6, 7]) rfl rfl fun hw => ?_
    set_option smartUnfolding false in conv => whnf
    refine acall_det (ps := [.lst 3 (Dt.pvL D), V.ag tk tn ts, Ix.ag n ks]) h1 ?_
    set_option smartUnfolding false in conv => whnf
    exact .le (.tuple (.cons (by unfold Ix.pvL; exact .nils 2) (.cons (.refl _) .nil)))
theorem unfoldTuples_det (D : List Dt) (t : V) (i : Ix) : Det Tryz.prog 3 [.lst 3 (Dt.pvL D), t.pv, i.pv] (.bool true) := by
  have k1 := small18_det D t
  have k2 := keepI_det i
  have p1 := fun (h : keepD D = true) (hc : (i.val 40).1 = true) => tuple_det (keepD_ok h).1 (keepD_ok h).2 t i (by have := keepI_cnt hc; omega)
  have p2 := fun (h : keepD D = true) (h2 : (t.val 250).1 = true) (hc : (i.val 40).1 = true) => rtuple_det (keepD_ok h).1 (keepD_ok h).2 t (by have := keepT_cntU h2; omega) i (by have := keepI_cnt hc; omega)
  generalize tupS D t i = r at p1 p2
  obtain ⟨e, L⟩ := r
  unfold tupP at p1 p2
  have p3 := samIs_self L
  generalize hb : (keepD D && (t.val 250).1) = b1 at k1
  generalize (i.val 40).1 = b2 at k2 p1 p2
  obtain ⟨tk, tn, ts⟩ := t
  obtain ⟨n, ks⟩ := i
  rw [V.pv_mk] at k1 p1 p2
  rw [Ix.pv_mk] at k2 p1 p2
  rw [V.pv_mk, Ix.pv_mk]
  refine det_of_vc' (E := S.E 0) rfl fol Tryz.func3 rfl rfl (slots := [6]) rfl rfl fun hw => ?_
  set_option smartUnfolding false in conv => whnf
  refine acall_det (ps := [.lst 3 (Dt.pvL D), V.ag tk tn ts]) k1 ?_
  set_option smartUnfolding false in conv => whnf
  refine br_intro (fun h1 => ?_) (fun h1 => ?_) <;> set_option smartUnfolding false in conv => whnf
  · exact rdB rfl
  have h1 : b1 = true := by simpa using h1
  rw [h1] at hb
  simp only [Bool.and_eq_true] at hb
  refine acall_det (ps := [Ix.ag n ks]) k2 ?_
  set_option smartUnfolding false in conv => whnf
  refine br_intro (fun h2 => ?_) (fun h2 => ?_) <;> set_option smartUnfolding false in conv => whnf
  · exact rdB rfl
  have h2 : b2 = true := by simpa using h2
  refine acall_det (ps := [.lst 3 (Dt.pvL D), V.ag tk tn ts, Ix.ag n ks]) (p1 hb.1 h2) ?_
  set_option smartUnfolding false in conv => whnf
  refine acall_det (ps := [.lst 3 (Dt.pvL D), V.ag tk tn ts, Ix.ag n ks]) (p2 hb.1 hb.2 h2) ?_
  set_option smartUnfolding false in conv => whnf
  refine br_intro (fun h4 => ?_) (fun h4 => ?_) <;> set_option smartUnfolding false in conv => whnf
  · refine acall_det (ps := [.lst 2 (Ix.pvL L), .lst 2 (Ix.pvL L)]) p3 ?_
    set_option smartUnfolding false in conv => whnf
    refine acall_det (ps := []) awake18_det ?_
    set_option smartUnfolding false in conv => whnf
    exact rdB rfl
  · have := dF h4; exact absurd rfl this
end Go.AM

set_option linter.all false
set_option maxRecDepth 20000
set_option maxHeartbeats 4000000
namespace Go.AM
open Go.Proofs

theorem unfoldFolds_det (D : List Dt) (t : V) (c : Int) (l : List Ix) : Det Tryz.prog 4 [.lst 3 (Dt.pvL D), t.pv, .int .i64 c, .lst 2 (Ix.pvL l)] (.bool true) := by
  have k1 := small18_det D t
  have k2 := keepIs_det l
  have p1 := fun (h : keepD D = true) (hc : idxs l = true) => ufold_det (keepD_ok h).1 (keepD_ok h).2 t c l (idxs_cnt hc).1 (idxs_cnt hc).2
  have p2 := fun (h : keepD D = true) (h2 : (t.val 250).1 = true) (hc : idxs l = true) => rfold_det (keepD_ok h).1 (keepD_ok h).2 t (by have := keepT_cntU h2; omega) c l (idxs_cnt hc).1 (idxs_cnt hc).2
  generalize foldS D t c l = r at p1 p2
  obtain ⟨e, L⟩ := r
  unfold foldP at p1 p2
  have p3 := samI_self L
  obtain ⟨rn, rks⟩ := L
  rw [Ix.pv_mk] at p1 p2 p3
  generalize hb : (keepD D && (t.val 250).1) = b1 at k1
  generalize idxs l = b2 at k2 p1 p2
  obtain ⟨tk, tn, ts⟩ := t
  rw [V.pv_mk] at k1 p1 p2
  rw [V.pv_mk]
  refine det_of_vc' (E := S.E 0) rfl fol Tryz.func4 rfl rfl (slots := [8]) rfl rfl fun hw => ?_
  set_option smartUnfolding false in conv => whnf
  refine acall_det (ps := [.lst 3 (Dt.pvL D), V.ag tk tn ts]) k1 ?_
  set_option smartUnfolding false in conv => whnf
  refine br_intro (fun h1 => ?_) (fun h1 => ?_) <;> set_option smartUnfolding false in conv => whnf
  · exact rdB rfl
  have h1 : b1 = true := by simpa using h1
  rw [h1] at hb
  simp only [Bool.and_eq_true] at hb
  refine acall_det (ps := [.lst 2 (Ix.pvL l), .int .i64 8]) k2 ?_
  set_option smartUnfolding false in conv => whnf
  refine br_intro (fun h2 => ?_) (fun h2 => ?_) <;> set_option smartUnfolding false in conv => whnf
  · exact rdB rfl
  have h2 : b2 = true := by simpa using h2
  refine acall_det (ps := [.lst 3 (Dt.pvL D), V.ag tk tn ts, .int .i64 c, .lst 2 (Ix.pvL l)]) (p1 hb.1 h2) ?_
  set_option smartUnfolding false in conv => whnf
  refine acall_det (ps := [.lst 3 (Dt.pvL D), V.ag tk tn ts, .int .i64 c, .lst 2 (Ix.pvL l)]) (p2 hb.1 hb.2 h2) ?_
  set_option smartUnfolding false in conv => whnf
  refine br_intro (fun h4 => ?_) (fun h4 => ?_) <;> set_option smartUnfolding false in conv => whnf
  · refine acall_det (ps := [Ix.ag rn rks, Ix.ag rn rks]) p3 ?_
    set_option smartUnfolding false in conv => whnf
    refine acall_det (ps := []) awake18_det ?_
    set_option smartUnfolding false in conv => whnf
    exact rdB rfl
  · have := dF h4; exact absurd rfl this
end Go.AM
