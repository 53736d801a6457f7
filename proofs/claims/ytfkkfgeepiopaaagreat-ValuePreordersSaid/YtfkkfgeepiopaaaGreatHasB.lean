import Derived.Test.YtfkkfgeepiopaaaGreatHasA
set_option linter.all false
set_option maxRecDepth 20000
set_option maxHeartbeats 4000000
namespace Go.AM
open Go.Proofs

theorem Good.decl {D : List Dt} {n : Int} {ts : List V} (h : Good D (.mk 5 n ts)) : 0 ≤ n ∧ n < D.length := by
  have h1 := h.ok
  rw [V.okT_mk] at h1
  unfold V.shape at h1
  rw [if_neg (by omega), if_neg (by omega), if_pos rfl] at h1
  cases hx : D[n.toNat]? with
  | none => rw [hx] at h1; cases h1
  | some x =>
    rw [hx] at h1
    simp only [Bool.and_eq_true, decide_eq_true_eq] at h1
    have := (List.getElem?_eq_some_iff.1 hx).1
    omega
theorem Good.one {D : List Dt} {k n : Int} {ts : List V} (h : Good D (.mk k n ts)) (hk : k = 7 ∨ k = 8) : ∃ u, ts = [u] := by
  have h1 := h.ok
  rw [V.okT_mk] at h1
  unfold V.shape at h1
  rw [if_neg (by omega), if_neg (by omega), if_neg (by omega), if_neg (by omega), if_pos hk] at h1
  simp only [Bool.and_eq_true, decide_eq_true_eq] at h1
  match ts, h1 with
  | [u], _ => exact ⟨u, rfl⟩
  | [], h1 => simp at h1
  | _ :: _ :: _, h1 => simp at h1; omega
theorem V.has_mk2 (D : List Dt) (k n : Int) (ks : List V) (tk tn : Int) (ts : List V) : V.has D (.mk k n ks) (.mk tk tn ts) =
    if k = 1 then decide (tk = 3) && decide (n = 0) && decide ((ks.length : Int) = 0)
    else if k = 2 then decide (tk = 2) && (decide (n = 0) || decide (n = 1)) && decide ((ks.length : Int) = 0)
    else if k = 3 then decide (tk = 1) && decide (-1099511627776 ≤ n) && decide (n ≤ 1099511627776) && decide ((ks.length : Int) = 0)
    else if k = 8 then decide (tk = 9) && decide (0 ≤ n) && decide (n < 64) && decide ((ks.length : Int) = 0)
    else if k = 4 then decide (tk = 6) && decide (n = 0) && V.hasE D ks ts
    else if k = 5 then decide (tk = 5) && (match fieldsS D (.mk tk tn ts) n with | some fs => V.hasE D ks fs | Option.none => false)
    else if k = 6 then decide (tk = 7) && decide (n = 0) && decide ((ks.length : Int) ≤ 4096) && V.hasA D ks (V.hd (.mk tk tn ts))
    else if k = 7 then decide (tk = 8) && decide (n = 0) && V.hasE D ks ts
    else false := V.has_mk D k n ks (.mk tk tn ts)
theorem V.hd_one (k n : Int) (u : V) : V.hd (.mk k n [u]) = u := by unfold V.hd; rfl

theorem each1_of (D : List Dt) (v t : V) {q : Bool} (h : Det Tryz.prog 21 [.lst 3 (Dt.pvL D), v.pv, t.pv] (.bool q)) : Det Tryz.prog 51 [v.pv, t.pv, .cp [.lst 3 (Dt.pvL D)]] (.bool q) := by
  obtain ⟨k, n, ks⟩ := v
  obtain ⟨tk, tn, ts⟩ := t
  rw [V.pv_mk, V.pv_mk] at h ⊢
  refine det_of_vc' (E := S.E 0) rfl fol Tryz.func51 rfl rfl (slots := [5]) rfl rfl fun hw => ?_
  set_option smartUnfolding false in conv => whnf
  refine acall_det (ps := [.lst 3 (Dt.pvL D), V.ag k n ks, V.ag tk tn ts]) h ?_
  set_option smartUnfolding false in conv => whnf
  exact rdB rfl
theorem each_of (D : List Dt) (ks ts : List V) (hq : ∀ (i : Nat) v t, ks[i]? = some v → ts[i]? = some t → Det Tryz.prog 21 [.lst 3 (Dt.pvL D), v.pv, t.pv] (.bool (V.has D v t))) :
    Det Tryz.prog 29 [.lst 3 (Dt.pvL D), .lst 3 (V.pvL ks), .lst 3 (V.pvL ts)] (.bool (V.hasE D ks ts)) := by
  have h := eqVT_det ks ts 51 [.cp [.lst 3 (Dt.pvL D)]] (V.has D) fun i v t h1 h2 => each1_of D v t (hq i v t h1 h2)
  rw [V.hasE_eq] at h
  refine det_of_vc' (E := S.E 0) rfl fol Tryz.func29 rfl rfl (slots := [6]) rfl rfl fun hw => ?_
  set_option smartUnfolding false in conv => whnf
  refine acall_intro (adet_read (S := [0]) h (.cons (.pv _) (.cons (.pv _) (.cons (.fn (.cons (.bp (.head _) rfl (.cons (.pv _) .nil)) .nil)) .nil))) rfl) ?_
  set_option smartUnfolding false in conv => whnf
  exact rdB rfl
theorem has1_of (D : List Dt) (v u : V) (tk tn : Int) {q : Bool} (h : Det Tryz.prog 21 [.lst 3 (Dt.pvL D), v.pv, u.pv] (.bool q)) : Det Tryz.prog 32 [v.pv, .cp [.lst 3 (Dt.pvL D)], .cp [.int .i64 tk, .int .i64 tn, .lst 3 (V.pvL [u])]] (.bool (!q)) := by
  obtain ⟨k, n, ks⟩ := v
  obtain ⟨uk, un, us⟩ := u
  rw [V.pvL_cons, V.pvL_nil]
  rw [V.pv_mk, V.pv_mk] at h
  rw [V.pv_mk, V.pv_mk]
  refine det_of_vc' (E := S.E 0) rfl fol Tryz.func32 rfl rfl (slots := [4]) rfl rfl fun hw => ?_
  set_option smartUnfolding false in conv => whnf
  refine ⟨V.ag uk un us, ⟨by omega, rfl⟩, ?_⟩
  set_option smartUnfolding false in conv => whnf
  refine acall_det (ps := [.lst 3 (Dt.pvL D), V.ag k n ks, V.ag uk un us]) h ?_
  set_option smartUnfolding false in conv => whnf
  exact rdB rfl

theorem has_det {D : List Dt} (hD : DOK D) (hv : dvalid D = true) (v : V) : ∀ t, Good D t → Det Tryz.prog 21 [.lst 3 (Dt.pvL D), v.pv, t.pv] (.bool (V.has D v t)) := by
  refine V.recOn' (p := fun v => ∀ t, Good D t → Det Tryz.prog 21 [.lst 3 (Dt.pvL D), v.pv, t.pv] (.bool (V.has D v t))) (fun k n ks ih t hg => ?_) v
  obtain ⟨tk, tn, ts⟩ := t
  have hE : ∀ us : List V, (∀ u ∈ us, Good D u) → Det Tryz.prog 29 [.lst 3 (Dt.pvL D), .lst 3 (V.pvL ks), .lst 3 (V.pvL us)] (.bool (V.hasE D ks us)) := fun us hus => each_of D ks us fun i v t h1 h2 => ih v (List.mem_of_getElem? h1) t (hus t (List.mem_of_getElem? h2))
  have hF := tfields_det hD (.mk tk tn ts) (by have := hg.cnt; omega)
  have hFg : ∀ fs, fieldsS D (.mk tk tn ts) n = some fs → ∀ f ∈ fs, Good D f := fun fs hf => hg.fields hv hf
  generalize hR : V.has D (.mk k n ks) (.mk tk tn ts) = R
  rw [V.has_mk2] at hR
  rw [V.pv_mk] at hF
  rw [V.pv_mk, V.pv_mk]
  refine det_of_vc' (E := S.E 0) rfl fol Tryz.func21 rfl rfl (slots := [6]) rfl rfl fun hw => ?_
  set_option smartUnfolding false in conv => whnf
  refine br_intro (fun h1 => ?_) (fun h1 => ?_) <;> set_option smartUnfolding false in conv => whnf
  · rw [if_pos (dT h1)] at hR
    refine br_intro (fun g1 => ?_) (fun g1 => ?_) <;> set_option smartUnfolding false in conv => whnf
    · refine br_intro (fun g2 => ?_) (fun g2 => ?_) <;> set_option smartUnfolding false in conv => whnf
      · refine rdB ?_
        rw [V.pvL_len, ← hR]
        rw [g1, g2]; rfl
      · exact rdB (by rw [← hR, g2]; simp)
    · exact rdB (by rw [← hR, g1]; rfl)
  rw [if_neg (dF h1)] at hR
  refine br_intro (fun h2 => ?_) (fun h2 => ?_) <;> set_option smartUnfolding false in conv => whnf
  · rw [if_pos (dT h2)] at hR
    refine br_intro (fun g1 => ?_) (fun g1 => ?_) <;> set_option smartUnfolding false in conv => whnf
    · refine br_intro (fun g2 => ?_) (fun g2 => ?_) <;> set_option smartUnfolding false in conv => whnf
      · refine rdB ?_
        rw [V.pvL_len, ← hR]
        rw [g1, g2]; rfl
      · refine br_intro (fun g3 => ?_) (fun g3 => ?_) <;> set_option smartUnfolding false in conv => whnf
        · refine rdB ?_
          rw [V.pvL_len, ← hR]
          rw [g1, g2, g3]; rfl
        · exact rdB (by rw [← hR, g2, g3]; simp)
    · exact rdB (by rw [← hR, g1]; rfl)
  rw [if_neg (dF h2)] at hR
  refine br_intro (fun h3 => ?_) (fun h3 => ?_) <;> set_option smartUnfolding false in conv => whnf
  · rw [if_pos (dT h3)] at hR
    refine br_intro (fun g1 => ?_) (fun g1 => ?_) <;> set_option smartUnfolding false in conv => whnf
    · refine br_intro (fun g2 => ?_) (fun g2 => ?_) <;> set_option smartUnfolding false in conv => whnf
      · refine br_intro (fun g3 => ?_) (fun g3 => ?_) <;> set_option smartUnfolding false in conv => whnf
        · refine rdB ?_
          rw [V.pvL_len, ← hR]
          rw [g1, g2, g3]; rfl
        · exact rdB (by rw [← hR, g3]; simp)
      · exact rdB (by rw [← hR, g2]; simp)
    · exact rdB (by rw [← hR, g1]; rfl)
  rw [if_neg (dF h3)] at hR
  refine br_intro (fun h4 => ?_) (fun h4 => ?_) <;> set_option smartUnfolding false in conv => whnf
  · rw [if_pos (dT h4)] at hR
    refine br_intro (fun g1 => ?_) (fun g1 => ?_) <;> set_option smartUnfolding false in conv => whnf
    · refine br_intro (fun g2 => ?_) (fun g2 => ?_) <;> set_option smartUnfolding false in conv => whnf
      · refine br_intro (fun g3 => ?_) (fun g3 => ?_) <;> set_option smartUnfolding false in conv => whnf
        · refine rdB ?_
          rw [V.pvL_len, ← hR]
          rw [g1, g2, g3]; rfl
        · exact rdB (by rw [← hR, g3]; simp)
      · exact rdB (by rw [← hR, g2]; simp)
    · exact rdB (by rw [← hR, g1]; rfl)
  rw [if_neg (dF h4)] at hR
  refine br_intro (fun h5 => ?_) (fun h5 => ?_) <;> set_option smartUnfolding false in conv => whnf
  · rw [if_pos (dT h5)] at hR
    refine br_intro (fun g1 => ?_) (fun g1 => ?_) <;> set_option smartUnfolding false in conv => whnf
    · refine br_intro (fun g2 => ?_) (fun g2 => ?_) <;> set_option smartUnfolding false in conv => whnf
      · refine acall_det (ps := [.lst 3 (Dt.pvL D), .lst 3 (V.pvL ks), .lst 3 (V.pvL ts)]) (hE ts fun u hu => hg.kid hu) ?_
        set_option smartUnfolding false in conv => whnf
        exact rdB (by rw [← hR, g1, g2]; rfl)
      · exact rdB (by rw [← hR, g2]; simp)
    · exact rdB (by rw [← hR, g1]; rfl)
  rw [if_neg (dF h5)] at hR
  refine br_intro (fun h6 => ?_) (fun h6 => ?_) <;> set_option smartUnfolding false in conv => whnf
  · rw [if_pos (dT h6)] at hR
    refine br_intro (fun g1 => ?_) (fun g1 => ?_) <;> set_option smartUnfolding false in conv => whnf
    · have g1 : ¬ tk = 5 := by simpa using g1
      exact rdB (by rw [← hR, decide_eq_false g1]; rfl)
    have g1 : tk = 5 := by simpa using g1
    subst g1
    have hd := hg.decl
    rw [decide_eq_true rfl, Bool.true_and] at hR
    refine br_intro (fun g2 => ?_) (fun g2 => ?_) <;> set_option smartUnfolding false in conv => whnf
    · have g2 := dT g2
      have e : fieldsS D (.mk 5 tn ts) n = Option.none := by unfold fieldsS conOf; simp only; rw [if_neg (by omega)]
      rw [e] at hR
      exact rdB hR
    have g2 := dF g2
    refine Dt.get_elim (l := D) (i := tn.toNat) (by omega) fun nm vs cs hmem hdg hdg2 _ => ?_
    refine ⟨Dt.ag nm vs cs, ⟨by omega, hdg⟩, ?_⟩
    set_option smartUnfolding false in conv => whnf
    refine br_intro (fun g3 => ?_) (fun g3 => ?_) <;> set_option smartUnfolding false in conv => whnf
    · have g3 := dT g3
      rw [Cn.pvL_len] at g3
      have e : fieldsS D (.mk 5 tn ts) n = Option.none := by
        unfold fieldsS conOf; simp only; rw [hdg2]; simp only; rw [List.getElem?_eq_none (l := cs) (by omega)]; simp
      rw [e] at hR
      exact rdB hR
    have g3 := dF g3
    rw [Cn.pvL_len] at g3
    have hFn := hF n
    have hcl := hD.cons _ hmem
    simp only at hcl
    cases hfs : fieldsS D (.mk 5 tn ts) n with
    | none =>
      rw [hfs, optP_none] at hFn
      rw [hfs] at hR
      refine acall_det (ps := [.lst 3 (Dt.pvL D), V.ag 5 tn ts, .int .i64 n]) hFn ?_
      set_option smartUnfolding false in conv => whnf
      exact rdB hR
    | some fs =>
      rw [hfs, optP_some, List.nil_append] at hFn
      rw [hfs] at hR
      refine acall_det (ps := [.lst 3 (Dt.pvL D), V.ag 5 tn ts, .int .i64 n]) hFn ?_
      set_option smartUnfolding false in conv => whnf
      refine acall_det (ps := [.lst 3 (Dt.pvL D), .lst 3 (V.pvL ks), .lst 3 (V.pvL fs)]) (hE fs (hFg fs hfs)) ?_
      set_option smartUnfolding false in conv => whnf
      exact rdB hR
  rw [if_neg (dF h6)] at hR
  refine br_intro (fun h7 => ?_) (fun h7 => ?_) <;> set_option smartUnfolding false in conv => whnf
  · rw [if_pos (dT h7)] at hR
    refine br_intro (fun g1 => ?_) (fun g1 => ?_) <;> set_option smartUnfolding false in conv => whnf
    · have g1 : ¬ tk = 7 := by simpa using g1
      exact rdB (by rw [← hR, decide_eq_false g1]; rfl)
    have g1 : tk = 7 := by simpa using g1
    subst g1
    refine br_intro (fun g2 => ?_) (fun g2 => ?_) <;> set_option smartUnfolding false in conv => whnf
    · have g2 : ¬ n = 0 := by simpa using g2
      exact rdB (by rw [← hR, decide_eq_false g2]; simp)
    have g2 : n = 0 := by simpa using g2
    refine br_intro (fun g3 => ?_) (fun g3 => ?_) <;> set_option smartUnfolding false in conv => whnf
    · have g3 := dT g3
      rw [V.pvL_len] at g3
      exact rdB (by rw [← hR, decide_eq_false (p := (ks.length : Int) ≤ 4096) (by omega)]; simp)
    have g3 := dF g3
    rw [V.pvL_len] at g3
    rw [decide_eq_true g2, decide_eq_true (p := (ks.length : Int) ≤ 4096) (by omega), decide_eq_true rfl] at hR
    simp only [Bool.true_and] at hR
    obtain ⟨u, hu⟩ := hg.one (.inl rfl)
    have hgu : Good D u := hg.kid (by rw [hu]; simp)
    have hc := hasV_det ks 32 [.cp [.lst 3 (Dt.pvL D)], .cp [.int .i64 7, .int .i64 tn, .lst 3 (V.pvL [u])]] (fun v => !V.has D v u) fun v hvm => has1_of D v u 7 tn (ih v hvm u hgu)
    rw [hu, V.hd_one] at hR
    refine acall_intro (adet_read (S := [0, 2]) hc (.cons (.pv _) (.cons (.fn (.cons (.bp (.head _) rfl (.cons (.pv _) .nil)) (.cons (.bp (cs := [.pv (.int .i64 7), .pv (.int .i64 tn), .pv (.lst 3 (V.pvL [u]))]) (.tail _ (.head _)) (by rw [← hu]; rfl) (.cons (.pv _) (.cons (.pv _) (.cons (.pv _) .nil)))) .nil))) .nil)) rfl) ?_
    set_option smartUnfolding false in conv => whnf
    exact rdB (by rw [V.hasA_eq]; exact hR)
  rw [if_neg (dF h7)] at hR
  refine br_intro (fun h8 => ?_) (fun h8 => ?_) <;> set_option smartUnfolding false in conv => whnf
  · rw [if_pos (dT h8)] at hR
    refine br_intro (fun g1 => ?_) (fun g1 => ?_) <;> set_option smartUnfolding false in conv => whnf
    · refine br_intro (fun g2 => ?_) (fun g2 => ?_) <;> set_option smartUnfolding false in conv => whnf
      · refine acall_det (ps := [.lst 3 (Dt.pvL D), .lst 3 (V.pvL ks), .lst 3 (V.pvL ts)]) (hE ts fun u hu => hg.kid hu) ?_
        set_option smartUnfolding false in conv => whnf
        exact rdB (by rw [← hR, g1, g2]; rfl)
      · exact rdB (by rw [← hR, g2]; simp)
    · exact rdB (by rw [← hR, g1]; rfl)
  rw [if_neg (dF h8)] at hR
  exact rdB hR
end Go.AM
