import Derived.Test.YtfkkfgeepiopaaaGreatHasD
set_option linter.all false
set_option maxRecDepth 20000
set_option maxHeartbeats 4000000
namespace Go.AM
open Go.Proofs

/-! ### The nodes of a value of a data type -/
mutual
def V.pre (D : List Dt) (d : Int) : V → List V
  | .mk k n ks => .mk k n ks :: V.preL D d ks (recS D d n)
def V.preL (D : List Dt) (d : Int) : List V → List Bool → List V
  | [], _ => []
  | v :: l, bs => match bs with
    | b :: bs => (if b then V.pre D d v else []) ++ V.preL D d l bs
    | [] => []
end
theorem V.pre_mk (D : List Dt) (d k n : Int) (ks : List V) : V.pre D d (.mk k n ks) = .mk k n ks :: V.preL D d ks (recS D d n) := by rw [V.pre]
theorem V.preL_nil (D : List Dt) (d : Int) (bs : List Bool) : V.preL D d [] bs = [] := by rw [V.preL]
theorem V.preL_cons (D : List Dt) (d : Int) (v : V) (l : List V) (b : Bool) (bs : List Bool) : V.preL D d (v :: l) (b :: bs) = (if b then V.pre D d v else []) ++ V.preL D d l bs := by rw [V.preL]
mutual
theorem V.pre_len (D : List Dt) (d : Int) : ∀ v : V, (V.pre D d v).length ≤ v.cnt
  | .mk k n ks => by
    rw [V.pre_mk, V.cnt_mk, List.length_cons]
    have := V.preL_len D d ks (recS D d n); omega
theorem V.preL_len (D : List Dt) (d : Int) : ∀ (l : List V) (bs : List Bool), (V.preL D d l bs).length ≤ V.cntL l
  | [], bs => by rw [V.preL_nil]; simp
  | v :: l, [] => by rw [V.preL]; simp
  | v :: l, b :: bs => by
    rw [V.preL_cons, V.cntL_cons, List.length_append]
    have h1 := V.pre_len D d v
    have h2 := V.preL_len D d l bs
    cases b <;> simp <;> omega
end
attribute [irreducible] V.pre V.preL
theorem flds_map {ts : List V} : ∀ {l fs : List V}, flds ts l = some fs → fs = l.map (V.sub ts)
  | [], fs, h => by simp [flds_nil] at h; subst h; rfl
  | a :: l, fs, h => by
    rw [flds_cons] at h
    split at h
    · cases h
    · cases hr : flds ts l with
      | none => rw [hr] at h; cases h
      | some r =>
        rw [hr] at h
        cases h
        rw [flds_map hr]; rfl
theorem subL_self (ts : List V) : ∀ (l : List V) (i : Nat), selfArgs l i = true → i + l.length = ts.length → V.subL ts l = ts.drop i
  | [], i, _, h => by rw [V.subL_nil, List.drop_of_length_le (by simp at h; omega)]
  | .mk k n us :: l, i, hs, h => by
    rw [selfArgs_cons] at hs
    simp only [Bool.and_eq_true, decide_eq_true_eq, List.length_cons] at hs h
    obtain ⟨⟨⟨rfl, rfl⟩, _⟩, hs⟩ := hs
    have hi : i < ts.length := by omega
    rw [V.subL_cons, V.sub_mk, if_pos ⟨rfl, by omega, by omega⟩, subL_self ts l (i + 1) hs (by omega), List.drop_eq_getElem_cons hi]
    congr 1
    simp [hi]
theorem sub_self {d : Int} {ts : List V} {a : V} (h : isSelf d ts.length a = true) : V.sub ts a = .mk 5 d ts := by
  obtain ⟨k, n, us⟩ := a
  rw [isSelf_mk] at h
  simp only [Bool.and_eq_true, decide_eq_true_eq] at h
  obtain ⟨⟨⟨rfl, rfl⟩, hl⟩, hs⟩ := h
  rw [V.sub_mk, if_neg (by omega), subL_self ts us 0 hs (by omega)]; rfl
theorem V.hasE_get {D : List Dt} : ∀ {ks fs : List V}, V.hasE D ks fs = true → ks.length = fs.length ∧ ∀ (i : Nat) v f, ks[i]? = some v → fs[i]? = some f → V.has D v f = true
  | [], [], _ => ⟨rfl, by simp⟩
  | [], f :: fs, h => by rw [← V.hasE_eq, eqL_len _ _ _ (by simp)] at h; cases h
  | v :: ks, [], h => by rw [← V.hasE_eq, eqL_len _ _ _ (by simp)] at h; cases h
  | v :: ks, f :: fs, h => by
    rw [V.hasE_cons, Bool.and_eq_true] at h
    have := V.hasE_get h.2
    refine ⟨by simp [this.1], fun i v' f' h1 h2 => ?_⟩
    cases i with
    | zero => simp at h1 h2; subst h1; subst h2; exact h.1
    | succ i => exact this.2 i v' f' (by simpa using h1) (by simpa using h2)
/-- The recursive arguments of a value of a data type are such values. -/
theorem has_rec {D : List Dt} {k n d : Int} {ks ts : List V} (h : V.has D (.mk k n ks) (.mk 5 d ts) = true) : (recS D d n).length = ks.length ∧ ∀ (i : Nat) v, ks[i]? = some v → (recS D d n)[i]? = some true → V.has D v (.mk 5 d ts) = true := by
  rw [V.has_t5, Bool.and_eq_true] at h
  have h := h.2
  cases hf : fieldsS D (.mk 5 d ts) n with
  | none => rw [hf] at h; cases h
  | some fs =>
    rw [hf] at h
    have hE := V.hasE_get h
    unfold fieldsS at hf
    cases hc : conOf D (.mk 5 d ts) n with
    | none => rw [hc] at hf; cases hf
    | some c =>
      rw [hc] at hf
      have hf := flds_map (ts := ts) hf
      unfold conOf at hc
      simp only at hc
      by_cases hk : True ∧ 0 ≤ d ∧ 0 ≤ n
      · rw [if_pos hk] at hc
        cases hx : D[d.toNat]? with
        | none => rw [hx] at hc; cases hc
        | some x =>
          rw [hx] at hc
          simp only at hc
          by_cases hl : (ts.length : Int) = x.vars
          · rw [if_pos hl] at hc
            have er : recS D d n = c.args.map (isSelf d x.vars) := by
              unfold recS conAt
              rw [if_pos ⟨hk.2.1, hk.2.2⟩, hx]
              simp only [hc]
            rw [er]
            refine ⟨by rw [List.length_map, hE.1, hf, List.length_map], fun i v h1 h2 => ?_⟩
            rw [List.getElem?_map] at h2
            cases ha : c.args[i]? with
            | none => rw [ha] at h2; cases h2
            | some a =>
              rw [ha] at h2
              have hs : isSelf d x.vars a = true := by simpa using h2
              rw [← hl] at hs
              refine hE.2 i v _ h1 ?_
              rw [hf, List.getElem?_map, ha, Option.map_some, sub_self hs]
          · rw [if_neg hl] at hc; cases hc
      · rw [if_neg hk] at hc; cases hc

/-! ### Rows -/
theorem sRow {ρ : Nat → Nat} {k0 k n n' : Nat} (h : ρ k0 = k) (e : n = n') : some (AV.row k n) = some (renA ρ (.row k0 n')) := by subst h; subst e; rfl
theorem blkR_row {ρ : Nat → Nat} {H : Heap} {k t sz : Nat} {xs : List AV} {ps : List PV} {l : Heap} (h : hget H (ρ k) = .row t sz xs) (e : xs = pvs ps) (hl : BlkR ρ H (k + 1) l) : BlkR ρ H k (.row t sz (pvs ps) :: l) := by
  refine ⟨?_, hl⟩
  show renB ρ (.row t sz (pvs ps)) = _
  rw [h, e]
  simp only [renB, renL_pvs]
theorem app_any {ps : List PV} {y : PV} {n : Nat} (hn : n = ps.length) : appL n (pvs ps) 1 [.pv y] = pvs (ps ++ [y]) := by
  subst hn
  simp only [appL, pvs_map, List.map_append, List.map_cons, List.map_nil, List.take_succ_cons, List.take_nil]
  rw [List.take_of_length_le (by simp)]
theorem boolsP_got {l : List Bool} {i : Nat} {b : Bool} (h : l[i]? = some b) : (boolsP l)[i]? = some (.bool b) := by simp [boolsP, h]

/-- value.clone. -/
theorem vclone_det (t : V) : t.cnt ≤ 1000000 → Det Tryz.prog 15 [t.pv] t.pv := by
  refine V.recOn' (p := fun t => t.cnt ≤ 1000000 → Det Tryz.prog 15 [t.pv] t.pv) (fun k n ts ih hc => ?_) t
  rw [V.cnt_mk] at hc
  have hlc := V.len_cntL ts
  rw [V.pv_mk]
  refine det_of_vcc (E := S.E 0) rfl fol Tryz.func15 rfl rfl (cell := (2, 25)) rfl rfl fun hw => ?_
  have hl := V.lenle hw.1
  set_option smartUnfolding false in conv => whnf
  refine vloop_intro (σ := Nat × List PV) (fun x => x.1 ≤ ts.length ∧ x.2 ++ V.pvL (ts.drop x.1) = V.pvL ts ∧ x.2.length = x.1) (fun x => [(2, .bp 0 0), (3, .bp 1 0), (12, .pv (.lst 3 (V.pvL ts))), (13, .pv (.int .i64 (V.pvL ts).length)), (14, .pv (.int .i64 x.1))])
    (fun x => [.box 25 [.pv (.int .i64 0), .pv (.int .i64 0), .pv .nils], .box 25 [.pv (.int .i64 k), .pv (.int .i64 n), lsV 2 x.2], lsB 25 3 x.2])
    (fun x => ts.length - x.1) (0, []) ⟨by simp, by simp, rfl⟩ (weak_ren [1, 2, 3] 4 (by kernel_rfl) (blk (by kernel_rfl) (blk (by kernel_rfl) (blkD trivial))) ⟨(by kernel_rfl), (by kernel_rfl), (by kernel_rfl), (by kernel_rfl), (by kernel_rfl), trivial⟩) ?_
  rintro ⟨i, ps⟩ ⟨hi, hs, hpl⟩
  simp only at hi hs hpl
  set_option smartUnfolding false in conv => whnf
  refine br_intro (fun h => ?_) (fun h => ?_) <;> set_option smartUnfolding false in conv => whnf
  · replace h : i < ts.length := by have := dT h; rw [V.pvL_len] at this; simpa using this
    refine V.get_elim h fun k' n' ts' hv hg hg0 hd => ?_
    have hih := ih _ hv (by have := V.cnt_mem hv; omega)
    rw [V.pv_mk] at hih
    rw [hd, V.pvL_cons, V.pv_mk] at hs
    refine ⟨V.ag k' n' ts', ⟨by simp, by simpa using hg⟩, ?_⟩
    set_option smartUnfolding false in conv => whnf
    refine acall_det (ps := [V.ag k' n' ts']) hih ?_
    set_option smartUnfolding false in conv => whnf
    refine ⟨Nat.le_refl 1, ?_⟩
    set_option smartUnfolding false in conv => whnf
    cases ps with
    | nil =>
      set_option smartUnfolding false in conv => whnf
      refine ⟨⟨⟨by decide, by decide⟩, by decide⟩, ?_⟩
      set_option smartUnfolding false in conv => whnf
      exact ⟨(i + 1, [] ++ [V.ag k' n' ts']), ⟨h, hs, by simp at hpl ⊢; omega⟩, weak_ren [0, 1, 5] 6 (by kernel_rfl) (blk (by kernel_rfl) (blk (by kernel_rfl) (blk (by kernel_rfl) trivial))) ⟨(by kernel_rfl), (by kernel_rfl), (by kernel_rfl), (by kernel_rfl), sUp h hl, trivial⟩, subUp h⟩
    | cons p ps =>
      set_option smartUnfolding false in conv => whnf
      simp only [List.length_cons] at hpl
      refine ⟨⟨⟨by simp [pvs_len], by simp only [Nat.succ_eq_add_one]; omega⟩, by rw [show ((S.E 0).te 25).bytes = 40 from rfl]; simp only [Nat.succ_eq_add_one]; omega⟩, ?_⟩
      set_option smartUnfolding false in conv => whnf
      exact ⟨(i + 1, (p :: ps) ++ [V.ag k' n' ts']), ⟨h, by rw [← hs]; simp, by simp; omega⟩, weak_ren [0, 1, 5] 6 (by kernel_rfl) (blk (by kernel_rfl) (blk (by simp only [lsV_snoc]; kernel_rfl) (blkR_snoc (by kernel_rfl) trivial))) ⟨(by kernel_rfl), (by kernel_rfl), (by kernel_rfl), (by kernel_rfl), sUp h hl, trivial⟩, subUp h⟩
  · replace h : ¬ i < ts.length := by have := dF h; rw [V.pvL_len] at this; simpa using this
    rw [List.drop_of_length_le (by omega), V.pvL_nil, List.append_nil] at hs
    cases ps with
    | nil =>
      set_option smartUnfolding false in conv => whnf
      exact .le (.agg (.cons (.refl _) (.cons (.refl _) (.cons (ple_nils hs) .nil))))
    | cons p ps =>
      set_option smartUnfolding false in conv => whnf
      exact .mix (.cons (.pv _) (.cons (.pv _) (.cons (rd_lsE (k := 2) hs rfl trivial rfl) .nil)))
end Go.AM
