import Derived.Test.YtfkkfgeepiopaaaGreatPreA
set_option linter.all false
set_option maxRecDepth 20000
set_option maxHeartbeats 4000000
namespace Go.AM
open Go.Proofs

theorem boolsP_len (l : List Bool) : (boolsP l).length = l.length := by simp [boolsP]
theorem drop_bool {l : List Bool} {i : Nat} (h : i < l.length) : ∃ b, l[i]? = some b ∧ (boolsP l)[i]? = some (.bool b) ∧ l.drop i = b :: l.drop (i + 1) :=
  ⟨l[i], by simp [h], boolsP_got (by simp [h]), List.drop_eq_getElem_cons h⟩
/-- The rest of a preorder. -/
def restP (D : List Dt) (d n : Int) (ks : List V) (i : Nat) : List PV := V.pvL (V.preL D d (ks.drop i) ((recS D d n).drop i))
theorem restP_end (D : List Dt) (d n : Int) (ks : List V) (i : Nat) (h : ks.length ≤ i) : restP D d n ks i = [] := by
  unfold restP; rw [List.drop_of_length_le h, V.preL_nil, V.pvL_nil]
theorem pvL_app (l m : List V) : V.pvL (l ++ m) = V.pvL l ++ V.pvL m := by simp [V.pvL_eq]
theorem restP_step {D : List Dt} {d n : Int} {ks : List V} {i : Nat} {v : V} {b : Bool} (hd : ks.drop i = v :: ks.drop (i + 1)) (hb : (recS D d n).drop i = b :: (recS D d n).drop (i + 1)) :
    restP D d n ks i = (if b then V.pvL (V.pre D d v) else []) ++ restP D d n ks (i + 1) := by
  unfold restP
  rw [hd, hb, V.preL_cons, pvL_app]
  cases b <;> simp [V.pvL_nil]
theorem restP_zero (D : List Dt) (d k n : Int) (ks : List V) : V.pvL (V.pre D d (.mk k n ks)) = V.ag k n ks :: restP D d n ks 0 := by
  rw [V.pre_mk, V.pvL_cons, V.pv_mk]; unfold restP; simp
attribute [irreducible] restP
theorem cnt_drop {l : List V} {i : Nat} {v : V} (h : l.drop i = v :: l.drop (i + 1)) : V.cntL (l.drop i) = v.cnt + V.cntL (l.drop (i + 1)) := by rw [h, V.cntL_cons]

theorem eqRow {Hc : Heap} {ρ : Nat → Nat} {k t sz : Nat} {ps : List PV} (h : hget Hc k = .row t sz (pvs ps)) : hget Hc k = renB ρ (.row t sz (pvs ps)) := by
  rw [h]; simp only [renB, renL_pvs]
theorem rpre_of {D : List Dt} (hD : DOK D) (d : Int) (v : V) : ∀ ts : List V, V.has D v (.mk 5 d ts) = true → ∀ ps : List PV, ps.length + v.cnt ≤ 1000000 →
    HDet Tryz.prog 18 [.pv (.lst 3 (Dt.pvL D)), .pv v.pv, .pv (.int .i64 d), .row 0 ps.length] [.row 25 3 (pvs ps)] (.row 1 (ps ++ V.pvL (V.pre D d v)).length) [.dead, .row 25 3 (pvs (ps ++ V.pvL (V.pre D d v)))] := by
  refine V.recOn' (p := fun v => ∀ ts : List V, V.has D v (.mk 5 d ts) = true → ∀ ps : List PV, ps.length + v.cnt ≤ 1000000 →
    HDet Tryz.prog 18 [.pv (.lst 3 (Dt.pvL D)), .pv v.pv, .pv (.int .i64 d), .row 0 ps.length] [.row 25 3 (pvs ps)] (.row 1 (ps ++ V.pvL (V.pre D d v)).length) [.dead, .row 25 3 (pvs (ps ++ V.pvL (V.pre D d v)))]) (fun k n ks ih ts hh ps hps => ?_) v
  have hr := has_rec hh
  have hrl := hr.1
  have hk := fun (i : Nat) v (h1 : ks[i]? = some v) h2 => ih v (List.mem_of_getElem? h1) ts (hr.2 i v h1 h2)
  clear ih hr hh
  rw [V.cnt_mk] at hps
  have hlc := V.len_cntL ks
  generalize htot : ps ++ V.pvL (V.pre D d (.mk k n ks)) = total
  rw [restP_zero, ← List.singleton_append, ← List.append_assoc] at htot
  rw [V.pv_mk]
  refine hdet_of_vc' (E := S.E 1) fol Tryz.func18 rfl rfl (slots := [8]) rfl rfl ?_ ?_ ?_ fun hw => ?_
  · exact Nat.le_refl 1
  · exact ⟨trivial, trivial, trivial, rfl, trivial⟩
  · exact fun i => by cases i <;> first | exact idsInL_pvs _ _ | (rw [hget_ge (by simp [hlen])]; exact trivial)
  have hl : ks.length ≤ 9223372036854775807 := by omega
  set_option smartUnfolding false in conv => whnf
  refine ⟨Nat.le_refl 1, ?_⟩
  set_option smartUnfolding false in conv => whnf
  refine ⟨⟨⟨by simp [pvs_len], by omega⟩, by rw [show ((S.E 1).te 25).bytes = 40 from rfl]; omega⟩, ?_⟩
  set_option smartUnfolding false in conv => whnf
  refine acall_det (ps := [.lst 3 (Dt.pvL D), .int .i64 d, .int .i64 n]) (rrec_det hD d n) ?_
  set_option smartUnfolding false in conv => whnf
  refine vloop_intro (σ := Nat × List PV) (fun x => x.1 ≤ ks.length ∧ x.2 ++ restP D d n ks x.1 = total ∧ x.2.length + V.cntL (ks.drop x.1) ≤ 1000000)
    (fun x => [(0, .pv (.lst 3 (Dt.pvL D))), (2, .pv (.int .i64 d)), (3, .row 2 x.2.length), (5, .bp 1 0), (9, .pv (.lst 1 (boolsP (recS D d n)))), (20, .pv (.lst 1 (boolsP (recS D d n)))), (21, .pv (.int .i64 (boolsP (recS D d n)).length)), (22, .pv (.int .i64 x.1))])
    (fun x => [.dead, .box 25 [.pv (.int .i64 k), .pv (.int .i64 n), .pv (.lst 3 (V.pvL ks))], .row 25 3 (pvs x.2)]) (fun x => ks.length - x.1) (0, ps ++ [V.ag k n ks]) ⟨by simp, htot, by simp only [List.length_append, List.length_cons, List.length_nil, List.drop_zero]; omega⟩ (weak_ren [0, 1, 3] 4 (by kernel_rfl) (blkD (blk (by kernel_rfl) (blkR_row (xs := appL ps.length (pvs ps) 1 [.pv (V.ag k n ks)]) (by kernel_rfl) (app_any (by kernel_rfl)) trivial))) ⟨(by kernel_rfl), (by kernel_rfl), sRow (by kernel_rfl) (by simp), (by kernel_rfl), (by kernel_rfl), (by kernel_rfl), (by kernel_rfl), (by kernel_rfl), trivial⟩) ?_
  rintro ⟨i, qs⟩ ⟨hi, hs, hcn⟩
  simp only at hi hs hcn
  set_option smartUnfolding false in conv => whnf
  refine br_intro (fun h => ?_) (fun h => ?_) <;> set_option smartUnfolding false in conv => whnf
  · replace h : i < ks.length := by have := dT h; rw [boolsP_len, hrl] at this; simpa using this
    obtain ⟨b, hb0, hb1, hb2⟩ := drop_bool (l := recS D d n) (i := i) (by omega)
    refine V.get_elim h fun k1 n1 ks1 hv hg hg0 hd => ?_
    have hcd := cnt_drop hd
    rw [restP_step hd hb2] at hs
    refine ⟨.bool b, ⟨by simp, by simpa using hb1⟩, ?_⟩
    set_option smartUnfolding false in conv => whnf
    refine br_intro (fun g => ?_) (fun g => ?_) <;> set_option smartUnfolding false in conv => whnf
    · subst g
      rw [if_pos rfl, ← List.append_assoc] at hs
      have hq := hk i _ hg0 hb0 qs (by omega)
      rw [V.pv_mk] at hq
      refine ⟨V.ag k1 n1 ks1, ⟨by simp, by simpa using hg⟩, ?_⟩
      set_option smartUnfolding false in conv => whnf
      refine acall_hdet hq [2] 3 rfl rfl ⟨eqRow rfl, trivial⟩ ?_
      set_option smartUnfolding false in conv => whnf
      refine ⟨(i + 1, qs ++ V.pvL (V.pre D d (.mk k1 n1 ks1))), ⟨h, hs, ?_⟩, ?_, subUp h⟩
      · have := V.pre_len D d (.mk k1 n1 ks1)
        simp only [List.length_append, V.pvL_len]; omega
      · exact weak_ren [0, 1, 3] 4 (by kernel_rfl) (blkD (blk (by kernel_rfl) (blkR_row (xs := renL (imp [2] 3) (pvs (qs ++ V.pvL (V.pre D d (.mk k1 n1 ks1))))) (by kernel_rfl) (renL_pvs _ _) trivial))) ⟨(by kernel_rfl), (by kernel_rfl), sRow (by kernel_rfl) (by simp), (by kernel_rfl), (by kernel_rfl), (by kernel_rfl), (by kernel_rfl), sUp h hl, trivial⟩
    · subst g
      rw [if_neg (by simp), List.nil_append] at hs
      exact ⟨(i + 1, qs), ⟨h, hs, by simp only; omega⟩, weak_ren [0, 1, 2] 3 (by kernel_rfl) (blkD (blk (by kernel_rfl) (blkR_row (xs := pvs qs) (by kernel_rfl) (by kernel_rfl) trivial))) ⟨(by kernel_rfl), (by kernel_rfl), sRow (by kernel_rfl) (by kernel_rfl), (by kernel_rfl), (by kernel_rfl), (by kernel_rfl), (by kernel_rfl), sUp h hl, trivial⟩, subUp h⟩
  · replace h : ¬ i < ks.length := by have := dF h; rw [boolsP_len, hrl] at this; simpa using this
    rw [restP_end D d n ks i (by omega), List.append_nil] at hs
    subst hs
    exact weak_ren [0, 2] 3 (by kernel_rfl) (blkD (blkR_row (xs := pvs qs) (by kernel_rfl) (by kernel_rfl) trivial)) ⟨sRow (by kernel_rfl) (by kernel_rfl), trivial⟩
end Go.AM
