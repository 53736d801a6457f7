import Derived.Test.YtfkkfgeepiopaaaGreatPreC
set_option linter.all false
set_option maxRecDepth 20000
set_option maxHeartbeats 4000000
namespace Go.AM
open Go.Proofs

theorem app_set {ps : List PV} {y : PV} {z : AV} {n : Nat} (hn : n = ps.length) : (appL n (pvs ps) 1 [z]).set (Int.toNat (n : Int)) (.pv y) = pvs (ps ++ [y]) := by
  subst hn
  simp only [appL, pvs_map, List.map_append, List.map_cons, List.map_nil, List.take_succ_cons, List.take_nil, Int.toNat_natCast]
  rw [List.take_of_length_le (by simp), List.set_append]
  simp
theorem app_got {ps : List PV} {z : AV} {n : Nat} (hn : n = ps.length) : (appL n (pvs ps) 1 [z])[Int.toNat (n : Int)]? = some z := by
  subst hn
  simp only [appL, pvs_map, List.take_succ_cons, List.take_nil, Int.toNat_natCast]
  rw [List.take_of_length_le (by simp)]
  simp
/-- The closure's memory: the list so far in row r. -/
abbrev visH (D : List Dt) (tk d : Int) (ts : List V) (x : AV) : List AB := [.box 23 [x], .box 22 [.pv (.lst 3 (Dt.pvL D))], .box 28 [.pv (.int .i64 tk), .pv (.int .i64 d), .pv (.lst 3 (V.pvL ts))], .box 44 [.fn 14 [.bp 0 0, .bp 1 0, .bp 2 0, .bp 3 0]]]
abbrev visA (v : V) : List AV := [.pv v.pv, .bp 0 0, .bp 1 0, .bp 2 0, .bp 3 0]

theorem vis_of {D : List Dt} (hD : DOK D) (tk d : Int) (us : List V) (v : V) : ∀ ts : List V, V.has D v (.mk 5 d ts) = true → ∀ ps : List PV, ps.length + v.cnt ≤ 1000000 →
    HDet Tryz.prog 14 (visA v) (visH D tk d us (.row 4 ps.length) ++ [.row 25 3 (pvs ps)]) (.pv (.tuple []))
      (visH D tk d us (.row 5 (ps ++ V.pvL (V.pre D d v)).length) ++ [.dead, .row 25 3 (pvs (ps ++ V.pvL (V.pre D d v)))]) := by
  refine V.recOn' (p := fun v => ∀ ts : List V, V.has D v (.mk 5 d ts) = true → ∀ ps : List PV, ps.length + v.cnt ≤ 1000000 →
    HDet Tryz.prog 14 (visA v) (visH D tk d us (.row 4 ps.length) ++ [.row 25 3 (pvs ps)]) (.pv (.tuple []))
      (visH D tk d us (.row 5 (ps ++ V.pvL (V.pre D d v)).length) ++ [.dead, .row 25 3 (pvs (ps ++ V.pvL (V.pre D d v)))])) (fun k n ks ih ts hh ps hps => ?_) v
  have hr := has_rec hh
  have hrl := hr.1
  have hk := fun (i : Nat) v (h1 : ks[i]? = some v) h2 => ih v (List.mem_of_getElem? h1) ts (hr.2 i v h1 h2)
  clear ih hr hh
  have hcl := vclone_det (.mk k n ks) (by omega)
  rw [V.cnt_mk] at hps
  have hlc := V.len_cntL ks
  generalize htot : ps ++ V.pvL (V.pre D d (.mk k n ks)) = total
  rw [restP_zero, ← List.singleton_append, ← List.append_assoc] at htot
  unfold visA visH
  rw [V.pv_mk] at hcl ⊢
  refine hdet_of_vc' (E := S.E 5) fol Tryz.func14 rfl rfl (slots := []) rfl rfl ?_ ?_ ?_ fun hw => ?_
  · exact Nat.le_refl 5
  · exact ⟨trivial, rfl, rfl, rfl, rfl, trivial⟩
  · exact fun i => match i with
      | 0 => ⟨rfl, trivial⟩
      | 1 => ⟨trivial, trivial⟩
      | 2 => ⟨trivial, trivial, trivial, trivial⟩
      | 3 => ⟨⟨rfl, rfl, rfl, rfl, trivial⟩, trivial⟩
      | 4 => idsInL_pvs _ _
      | i + 5 => by rw [hget_ge (by simp [hlen])]; exact trivial
  have hl : ks.length ≤ 9223372036854775807 := by omega
  set_option smartUnfolding false in conv => whnf
  refine acall_det (ps := [V.ag k n ks]) hcl ?_
  set_option smartUnfolding false in conv => whnf
  refine ⟨Nat.le_refl 1, ?_⟩
  set_option smartUnfolding false in conv => whnf
  refine ⟨⟨⟨by simp [pvs_len], by omega⟩, by rw [show ((S.E 5).te 25).bytes = 40 from rfl]; omega⟩, ?_⟩
  set_option smartUnfolding false in conv => whnf
  refine ⟨⟨by omega, by omega⟩, ?_⟩
  set_option smartUnfolding false in conv => whnf
  refine ⟨_, app_got rfl, rfl, ?_⟩
  set_option smartUnfolding false in conv => whnf
  refine acall_det (ps := [.lst 3 (Dt.pvL D), .int .i64 d, .int .i64 n]) (trec_det hD d n) ?_
  set_option smartUnfolding false in conv => whnf
  refine vloop_intro (σ := Nat × List PV) (fun x => x.1 ≤ ks.length ∧ x.2 ++ restP D d n ks x.1 = total ∧ x.2.length + V.cntL (ks.drop x.1) ≤ 1000000)
    (fun x => [(4, .bp 3 0), (5, .bp 6 0), (20, .pv (.lst 1 (boolsP (recS D d n)))), (21, .pv (.int .i64 (boolsP (recS D d n)).length)), (22, .pv (.int .i64 x.1))])
    (fun x => [.box 23 [.row 5 x.2.length], .box 22 [.pv (.lst 3 (Dt.pvL D))], .box 28 [.pv (.int .i64 tk), .pv (.int .i64 d), .pv (.lst 3 (V.pvL us))], .box 44 [.fn 14 [.bp 0 0, .bp 1 0, .bp 2 0, .bp 3 0]],
      .dead, .row 25 3 (pvs x.2), .box 25 [.pv (.int .i64 k), .pv (.int .i64 n), .pv (.lst 3 (V.pvL ks))]]) (fun x => ks.length - x.1) (0, ps ++ [V.ag k n ks]) ⟨by simp, htot, by simp only [List.length_append, List.length_cons, List.length_nil, List.drop_zero]; omega⟩ (weak_ren [0, 1, 2, 3, 4, 7, 5] 8 (by kernel_rfl) (blk (by simp only [List.length_append]; kernel_rfl) (blk (by kernel_rfl) (blk (by kernel_rfl) (blk (by kernel_rfl) (blkD (blkR_row (xs := (appL ps.length (pvs ps) 1 [.pv (.agg [.int .i64 0, .int .i64 0, .nils])]).set (Int.toNat (ps.length : Int)) (.pv (V.ag k n ks))) (by kernel_rfl) (app_set (by kernel_rfl)) (blk (by kernel_rfl) trivial))))))) ⟨(by kernel_rfl), (by kernel_rfl), (by kernel_rfl), (by kernel_rfl), (by kernel_rfl), trivial⟩) ?_
  rintro ⟨i, qs⟩ ⟨hi, hs, hcn⟩
  simp only at hi hs hcn
  set_option smartUnfolding false in conv => whnf
  refine br_intro (fun h => ?_) (fun h => ?_) <;> set_option smartUnfolding false in conv => whnf
  · replace h : i < ks.length := by have := dT h; rw [boolsP_len, hrl] at this; simpa using this
    obtain ⟨b, hb0, hb1, hb2⟩ := drop_bool (l := recS D d n) (i := i) (by omega)
    refine V.get_elim h fun k1 n1 ks1 hv hg hg0 hd => ?_
    have hcd := cnt_drop hd
    rw [restP_step hd hb2] at hs
    refine ⟨.bool b, ⟨by simp, by simpa using hb1⟩, ?_⟩
    set_option smartUnfolding false in conv => whnf
    refine br_intro (fun g => ?_) (fun g => ?_) <;> set_option smartUnfolding false in conv => whnf
    · subst g
      rw [if_pos rfl, ← List.append_assoc] at hs
      have hq := hk i _ hg0 hb0 qs (by omega)
      unfold visA visH at hq
      rw [V.pv_mk] at hq
      refine ⟨V.ag k1 n1 ks1, ⟨by simp, by simpa using hg⟩, ?_⟩
      set_option smartUnfolding false in conv => whnf
      refine acall_hdet hq [0, 1, 2, 3, 5] 7 rfl rfl ⟨rfl, rfl, rfl, rfl, eqRow rfl, trivial⟩ ?_
      set_option smartUnfolding false in conv => whnf
      refine ⟨(i + 1, qs ++ V.pvL (V.pre D d (.mk k1 n1 ks1))), ⟨h, hs, ?_⟩, ?_, subUp h⟩
      · have := V.pre_len D d (.mk k1 n1 ks1)
        simp only [List.length_append, V.pvL_len]; omega
      · exact weak_ren [0, 1, 2, 3, 4, 7, 6] 8 (by kernel_rfl) (blk (by kernel_rfl) (blk (by kernel_rfl) (blk (by kernel_rfl) (blk (by kernel_rfl) (blkD (blkR_row (xs := renL (imp [0, 1, 2, 3, 5] 7) (pvs (qs ++ V.pvL (V.pre D d (.mk k1 n1 ks1))))) (by kernel_rfl) (renL_pvs _ _) (blk (by kernel_rfl) trivial))))))) ⟨(by kernel_rfl), (by kernel_rfl), (by kernel_rfl), (by kernel_rfl), sUp h hl, trivial⟩
    · subst g
      rw [if_neg (by simp), List.nil_append] at hs
      exact ⟨(i + 1, qs), ⟨h, hs, by simp only; omega⟩, weak_ren [0, 1, 2, 3, 4, 5, 6] 7 (by kernel_rfl) (blk (by kernel_rfl) (blk (by kernel_rfl) (blk (by kernel_rfl) (blk (by kernel_rfl) (blkD (blkR_row (xs := pvs qs) (by kernel_rfl) (by kernel_rfl) (blk (by kernel_rfl) trivial))))))) ⟨(by kernel_rfl), (by kernel_rfl), (by kernel_rfl), (by kernel_rfl), sUp h hl, trivial⟩, subUp h⟩
  · replace h : ¬ i < ks.length := by have := dF h; rw [boolsP_len, hrl] at this; simpa using this
    rw [restP_end D d n ks i (by omega), List.append_nil] at hs
    subst hs
    exact weak_ren [0, 1, 2, 3, 4, 5] 7 (by kernel_rfl) (blk (by kernel_rfl) (blk (by kernel_rfl) (blk (by kernel_rfl) (blk (by kernel_rfl) (blkD (blkR_row (xs := pvs qs) (by kernel_rfl) (by kernel_rfl) trivial)))))) ⟨(by kernel_rfl), trivial⟩
end Go.AM
