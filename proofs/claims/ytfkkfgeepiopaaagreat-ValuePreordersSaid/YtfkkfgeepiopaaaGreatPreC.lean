import Derived.Test.YtfkkfgeepiopaaaGreatPreB
set_option linter.all false
set_option maxRecDepth 20000
set_option maxHeartbeats 4000000
namespace Go.AM
open Go.Proofs


theorem rpre_nil {D : List Dt} (hD : DOK D) (d : Int) (v : V) (ts : List V) (hh : V.has D v (.mk 5 d ts) = true) (hc : v.cnt ≤ 1000000) :
    Det Tryz.prog 18 [.lst 3 (Dt.pvL D), v.pv, .int .i64 d, .nils] (.lst 3 (V.pvL (V.pre D d v))) := by
  obtain ⟨k, n, ks⟩ := v
  have hr := has_rec hh
  have hrl := hr.1
  have hk := fun (i : Nat) v (h1 : ks[i]? = some v) h2 => rpre_of hD d v ts (hr.2 i v h1 h2)
  clear hr hh
  rw [V.cnt_mk] at hc
  have hlc := V.len_cntL ks
  generalize htot : V.pvL (V.pre D d (.mk k n ks)) = total
  rw [restP_zero, ← List.singleton_append] at htot
  rw [V.pv_mk]
  refine det_of_vc' (E := S.E 0) rfl fol Tryz.func18 rfl rfl (slots := [8]) rfl rfl fun hw => ?_
  have hl : ks.length ≤ 9223372036854775807 := by omega
  set_option smartUnfolding false in conv => whnf
  refine ⟨Nat.le_refl 1, ?_⟩
  set_option smartUnfolding false in conv => whnf
  refine ⟨⟨⟨by decide, by decide⟩, by decide⟩, ?_⟩
  set_option smartUnfolding false in conv => whnf
  refine acall_det (ps := [.lst 3 (Dt.pvL D), .int .i64 d, .int .i64 n]) (rrec_det hD d n) ?_
  set_option smartUnfolding false in conv => whnf
  refine vloop_intro (σ := Nat × List PV) (fun x => x.1 ≤ ks.length ∧ x.2 ++ restP D d n ks x.1 = total ∧ x.2.length + V.cntL (ks.drop x.1) ≤ 1000000)
    (fun x => [(0, .pv (.lst 3 (Dt.pvL D))), (2, .pv (.int .i64 d)), (3, .row 1 x.2.length), (5, .bp 0 0), (9, .pv (.lst 1 (boolsP (recS D d n)))), (20, .pv (.lst 1 (boolsP (recS D d n)))), (21, .pv (.int .i64 (boolsP (recS D d n)).length)), (22, .pv (.int .i64 x.1))])
    (fun x => [ .box 25 [.pv (.int .i64 k), .pv (.int .i64 n), .pv (.lst 3 (V.pvL ks))], .row 25 3 (pvs x.2)]) (fun x => ks.length - x.1) (0, [V.ag k n ks]) ⟨by simp, htot, by simp only [List.length_append, List.length_cons, List.length_nil, List.drop_zero]; omega⟩ (weak_ren [0, 2] 3 (by kernel_rfl) (blk (by kernel_rfl) (blkR_row (xs := appL 0 [] 1 [.pv (V.ag k n ks)]) (by kernel_rfl) (by kernel_rfl) trivial)) ⟨(by kernel_rfl), (by kernel_rfl), sRow (by kernel_rfl) (by kernel_rfl), (by kernel_rfl), (by kernel_rfl), (by kernel_rfl), (by kernel_rfl), (by kernel_rfl), trivial⟩) ?_
  rintro ⟨i, qs⟩ ⟨hi, hs, hcn⟩
  simp only at hi hs hcn
  set_option smartUnfolding false in conv => whnf
  refine br_intro (fun h => ?_) (fun h => ?_) <;> set_option smartUnfolding false in conv => whnf
  · replace h : i < ks.length := by have := dT h; rw [boolsP_len, hrl] at this; simpa using this
    obtain ⟨b, hb0, hb1, hb2⟩ := drop_bool (l := recS D d n) (i := i) (by omega)
    refine V.get_elim h fun k1 n1 ks1 hv hg hg0 hd => ?_
    have hcd := cnt_drop hd
    rw [restP_step hd hb2] at hs
    refine ⟨.bool b, ⟨by simp, by simpa using hb1⟩, ?_⟩
    set_option smartUnfolding false in conv => whnf
    refine br_intro (fun g => ?_) (fun g => ?_) <;> set_option smartUnfolding false in conv => whnf
    · subst g
      rw [if_pos rfl, ← List.append_assoc] at hs
      have hq := hk i _ hg0 hb0 qs (by omega)
      rw [V.pv_mk] at hq
      refine ⟨V.ag k1 n1 ks1, ⟨by simp, by simpa using hg⟩, ?_⟩
      set_option smartUnfolding false in conv => whnf
      refine acall_hdet hq [1] 2 rfl rfl ⟨eqRow rfl, trivial⟩ ?_
      set_option smartUnfolding false in conv => whnf
      refine ⟨(i + 1, qs ++ V.pvL (V.pre D d (.mk k1 n1 ks1))), ⟨h, hs, ?_⟩, ?_, subUp h⟩
      · have := V.pre_len D d (.mk k1 n1 ks1)
        simp only [List.length_append, V.pvL_len]; omega
      · exact weak_ren [ 0, 2] 3 (by kernel_rfl) (blk (by kernel_rfl) (blkR_row (xs := renL (imp [1] 2) (pvs (qs ++ V.pvL (V.pre D d (.mk k1 n1 ks1))))) (by kernel_rfl) (renL_pvs _ _) trivial)) ⟨(by kernel_rfl), (by kernel_rfl), sRow (by kernel_rfl) (by simp), (by kernel_rfl), (by kernel_rfl), (by kernel_rfl), (by kernel_rfl), sUp h hl, trivial⟩
    · subst g
      rw [if_neg (by simp), List.nil_append] at hs
      exact ⟨(i + 1, qs), ⟨h, hs, by simp only; omega⟩, weak_ren [ 0, 1] 2 (by kernel_rfl) (blk (by kernel_rfl) (blkR_row (xs := pvs qs) (by kernel_rfl) (by kernel_rfl) trivial)) ⟨(by kernel_rfl), (by kernel_rfl), sRow (by kernel_rfl) (by kernel_rfl), (by kernel_rfl), (by kernel_rfl), (by kernel_rfl), (by kernel_rfl), sUp h hl, trivial⟩, subUp h⟩
  · replace h : ¬ i < ks.length := by have := dF h; rw [boolsP_len, hrl] at this; simpa using this
    rw [restP_end D d n ks i (by omega), List.append_nil] at hs
    subst hs
    exact rd_row (H := [_, _]) trivial rfl rfl

/-- What both Preorder answer. -/
noncomputable def preS (D : List Dt) (v : V) : V → List V
  | .mk tk tn ts => if tk = 5 ∧ hasS D v (.mk tk tn ts) = true then V.pre D tn v else []
theorem preS_no {D : List Dt} {v : V} {tk tn : Int} {ts : List V} (h : ¬ (tk = 5 ∧ hasS D v (.mk tk tn ts) = true)) : preS D v (.mk tk tn ts) = [] := by show (if _ then _ else _) = _; rw [if_neg h]
theorem preS_yes {D : List Dt} {v : V} {tn : Int} {ts : List V} (h : hasS D v (.mk 5 tn ts) = true) : preS D v (.mk 5 tn ts) = V.pre D tn v := by show (if _ then _ else _) = _; rw [if_pos ⟨rfl, h⟩]
theorem hasS_has {D : List Dt} {v t : V} (h : hasS D v t = true) : V.has D v t = true ∧ v.cnt ≤ 5000 := by
  unfold hasS at h
  simp only [Bool.and_eq_true, decide_eq_true_eq] at h
  exact ⟨h.2, h.1.2⟩
theorem rPre_det {D : List Dt} (hD : DOK D) (hN : DN D) (v t : V) (ht : t.cnt ≤ 1000000) : Det Tryz.prog 9 [.lst 3 (Dt.pvL D), v.pv, t.pv] (.lst 3 (V.pvL (preS D v t))) := by
  have h1 := rhasType_det hD hN v t ht
  obtain ⟨k, n, ks⟩ := v
  obtain ⟨tk, tn, ts⟩ := t
  generalize hb : hasS D (.mk k n ks) (.mk tk tn ts) = b at h1
  generalize hR : preS D (.mk k n ks) (.mk tk tn ts) = R
  rw [V.pv_mk, V.pv_mk] at h1
  rw [V.pv_mk, V.pv_mk]
  refine det_of_vc' (E := S.E 0) rfl fol Tryz.func9 rfl rfl (slots := [6]) rfl rfl fun hw => ?_
  set_option smartUnfolding false in conv => whnf
  refine br_intro (fun g1 => ?_) (fun g1 => ?_) <;> set_option smartUnfolding false in conv => whnf
  · have g1 : ¬ tk = 5 := by simpa using g1
    rw [preS_no (fun h => g1 h.1)] at hR
    subst hR
    rw [V.pvL_nil]
    exact .le (.nils 3)
  have g1 : tk = 5 := by simpa using g1
  refine acall_det (ps := [.lst 3 (Dt.pvL D), V.ag k n ks, V.ag tk tn ts]) h1 ?_
  set_option smartUnfolding false in conv => whnf
  refine br_intro (fun g2 => ?_) (fun g2 => ?_) <;> set_option smartUnfolding false in conv => whnf
  · have g2 : b = false := by simpa using g2
    rw [preS_no (fun h => by rw [hb, g2] at h; simp at h)] at hR
    subst hR
    rw [V.pvL_nil]
    exact .le (.nils 3)
  have g2 : b = true := by simpa using g2
  subst g1
  rw [g2] at hb
  have hh := hasS_has hb
  have h3 := rpre_nil hD tn (.mk k n ks) ts hh.1 (by omega)
  rw [V.pv_mk] at h3
  rw [preS_yes hb] at hR
  refine acall_det (ps := [.lst 3 (Dt.pvL D), V.ag k n ks, .int .i64 tn, .nils]) h3 ?_
  set_option smartUnfolding false in conv => whnf
  rw [hR]
  exact .pv _
end Go.AM
