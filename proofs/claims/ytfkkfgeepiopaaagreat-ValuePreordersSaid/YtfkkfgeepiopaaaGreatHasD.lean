import Derived.Test.YtfkkfgeepiopaaaGreatHasC
set_option linter.all false
set_option maxRecDepth 20000
set_option maxHeartbeats 4000000
namespace Go.AM
open Go.Proofs

theorem rhas1 (D : List Dt) (k n : Int) (ks : List V) (tn : Int) (ts : List V) :
    Det Tryz.prog 25 [.lst 3 (Dt.pvL D), V.ag k n ks, V.ag 1 tn ts] (.bool (V.has D (.mk k n ks) (.mk 1 tn ts))) := by
  generalize hR : V.has D (.mk k n ks) (.mk 1 tn ts) = R
  rw [V.has_t1] at hR
  refine det_of_vc' (E := S.E 0) rfl fol Tryz.func25 rfl rfl (slots := [6]) rfl rfl fun hw => ?_
  have hl := V.lenle hw.2.1
  set_option smartUnfolding false in conv => whnf
  refine br_intro (fun g1 => ?_) (fun g1 => ?_) <;> set_option smartUnfolding false in conv => whnf
  · refine br_intro (fun g2 => ?_) (fun g2 => ?_) <;> set_option smartUnfolding false in conv => whnf
    · refine br_intro (fun g3 => ?_) (fun g3 => ?_) <;> set_option smartUnfolding false in conv => whnf
      · refine rdB ?_
        rw [V.pvL_len, ← hR]
        rw [g1, g2, g3]; rfl
      · exact rdB (by rw [← hR, g3]; simp)
    · exact rdB (by rw [← hR, g2]; simp)
  · exact rdB (by rw [← hR, g1]; rfl)
theorem rhas2 (D : List Dt) (k n : Int) (ks : List V) (tn : Int) (ts : List V) :
    Det Tryz.prog 25 [.lst 3 (Dt.pvL D), V.ag k n ks, V.ag 2 tn ts] (.bool (V.has D (.mk k n ks) (.mk 2 tn ts))) := by
  generalize hR : V.has D (.mk k n ks) (.mk 2 tn ts) = R
  rw [V.has_t2] at hR
  refine det_of_vc' (E := S.E 0) rfl fol Tryz.func25 rfl rfl (slots := [6]) rfl rfl fun hw => ?_
  have hl := V.lenle hw.2.1
  set_option smartUnfolding false in conv => whnf
  refine br_intro (fun g1 => ?_) (fun g1 => ?_) <;> set_option smartUnfolding false in conv => whnf
  · refine br_intro (fun g2 => ?_) (fun g2 => ?_) <;> set_option smartUnfolding false in conv => whnf
    · refine rdB ?_
      rw [V.pvL_len, ← hR]
      rw [g1, g2]; rfl
    · refine br_intro (fun g3 => ?_) (fun g3 => ?_) <;> set_option smartUnfolding false in conv => whnf
      · refine rdB ?_
        rw [V.pvL_len, ← hR]
        rw [g1, g2, g3]; rfl
      · exact rdB (by rw [← hR, g2, g3]; simp)
  · exact rdB (by rw [← hR, g1]; rfl)
theorem rhas3 (D : List Dt) (k n : Int) (ks : List V) (tn : Int) (ts : List V) :
    Det Tryz.prog 25 [.lst 3 (Dt.pvL D), V.ag k n ks, V.ag 3 tn ts] (.bool (V.has D (.mk k n ks) (.mk 3 tn ts))) := by
  generalize hR : V.has D (.mk k n ks) (.mk 3 tn ts) = R
  rw [V.has_t3] at hR
  refine det_of_vc' (E := S.E 0) rfl fol Tryz.func25 rfl rfl (slots := [6]) rfl rfl fun hw => ?_
  have hl := V.lenle hw.2.1
  set_option smartUnfolding false in conv => whnf
  refine br_intro (fun g1 => ?_) (fun g1 => ?_) <;> set_option smartUnfolding false in conv => whnf
  · refine br_intro (fun g2 => ?_) (fun g2 => ?_) <;> set_option smartUnfolding false in conv => whnf
    · refine rdB ?_
      rw [V.pvL_len, ← hR]
      rw [g1, g2]; rfl
    · exact rdB (by rw [← hR, g2]; simp)
  · exact rdB (by rw [← hR, g1]; rfl)
theorem rhas6 (D : List Dt) (k n : Int) (ks : List V) (tn : Int) (ts : List V) (hE : Det Tryz.prog 38 [.lst 3 (Dt.pvL D), .lst 3 (V.pvL ks), .lst 3 (V.pvL ts)] (.bool (V.hasE D ks ts))) :
    Det Tryz.prog 25 [.lst 3 (Dt.pvL D), V.ag k n ks, V.ag 6 tn ts] (.bool (V.has D (.mk k n ks) (.mk 6 tn ts))) := by
  generalize hR : V.has D (.mk k n ks) (.mk 6 tn ts) = R
  rw [V.has_t6] at hR
  refine det_of_vc' (E := S.E 0) rfl fol Tryz.func25 rfl rfl (slots := [6]) rfl rfl fun hw => ?_
  have hl := V.lenle hw.2.1
  set_option smartUnfolding false in conv => whnf
  refine br_intro (fun g1 => ?_) (fun g1 => ?_) <;> set_option smartUnfolding false in conv => whnf
  · refine br_intro (fun g2 => ?_) (fun g2 => ?_) <;> set_option smartUnfolding false in conv => whnf
    · refine acall_det (ps := [.lst 3 (Dt.pvL D), .lst 3 (V.pvL ks), .lst 3 (V.pvL ts)]) hE ?_
      set_option smartUnfolding false in conv => whnf
      exact rdB (by rw [← hR, g1, g2]; rfl)
    · exact rdB (by rw [← hR, g2]; simp)
  · exact rdB (by rw [← hR, g1]; rfl)
theorem rhas9 (D : List Dt) (k n : Int) (ks : List V) (tn : Int) (ts : List V) :
    Det Tryz.prog 25 [.lst 3 (Dt.pvL D), V.ag k n ks, V.ag 9 tn ts] (.bool (V.has D (.mk k n ks) (.mk 9 tn ts))) := by
  generalize hR : V.has D (.mk k n ks) (.mk 9 tn ts) = R
  rw [V.has_t9] at hR
  refine det_of_vc' (E := S.E 0) rfl fol Tryz.func25 rfl rfl (slots := [6]) rfl rfl fun hw => ?_
  have hl := V.lenle hw.2.1
  set_option smartUnfolding false in conv => whnf
  refine br_intro (fun g1 => ?_) (fun g1 => ?_) <;> set_option smartUnfolding false in conv => whnf
  · refine br_intro (fun g2 => ?_) (fun g2 => ?_) <;> set_option smartUnfolding false in conv => whnf
    · refine br_intro (fun g3 => ?_) (fun g3 => ?_) <;> set_option smartUnfolding false in conv => whnf
      · refine rdB ?_
        rw [V.pvL_len, ← hR]
        rw [g1, g2, g3]; rfl
      · exact rdB (by rw [← hR, g3]; simp)
    · exact rdB (by rw [← hR, g2]; simp)
  · exact rdB (by rw [← hR, g1]; rfl)
theorem conOf_big {D : List Dt} (hv : dvalid D = true) {tn : Int} {ts : List V} {n : Int} (h : n < 0 ∨ 8 ≤ n) : fieldsS D (.mk 5 tn ts) n = Option.none := by
  cases hf : fieldsS D (.mk 5 tn ts) n with
  | none => rfl
  | some fs =>
    exfalso
    unfold fieldsS conOf at hf
    simp only at hf
    by_cases hk : True ∧ 0 ≤ tn ∧ 0 ≤ n
    · rw [if_pos hk] at hf
      cases hx : D[tn.toNat]? with
      | none => rw [hx] at hf; simp at hf
      | some x =>
        rw [hx] at hf
        unfold dvalid at hv
        simp only [Bool.and_eq_true] at hv
        have hd := decsR_get hv.2.1 hx
        have hc : x.cons[n.toNat]? = Option.none := List.getElem?_eq_none (by omega)
        simp only [hc] at hf
        by_cases hl : (ts.length : Int) = x.vars
        · rw [if_pos hl] at hf; simp at hf
        · rw [if_neg hl] at hf; simp at hf
    · rw [if_neg hk] at hf; simp at hf
theorem rhas5 {D : List Dt} (hv : dvalid D = true) (k n : Int) (ks : List V) (tn : Int) (ts : List V)
    (hF : Det Tryz.prog 39 [.lst 3 (Dt.pvL D), V.ag 5 tn ts, .int .i64 n] (optP [] (fieldsS D (.mk 5 tn ts) n)))
    (hE : ∀ fs, fieldsS D (.mk 5 tn ts) n = some fs → Det Tryz.prog 38 [.lst 3 (Dt.pvL D), .lst 3 (V.pvL ks), .lst 3 (V.pvL fs)] (.bool (V.hasE D ks fs))) :
    Det Tryz.prog 25 [.lst 3 (Dt.pvL D), V.ag k n ks, V.ag 5 tn ts] (.bool (V.has D (.mk k n ks) (.mk 5 tn ts))) := by
  generalize hR : V.has D (.mk k n ks) (.mk 5 tn ts) = R
  rw [V.has_t5] at hR
  refine det_of_vc' (E := S.E 0) rfl fol Tryz.func25 rfl rfl (slots := [6]) rfl rfl fun hw => ?_
  have hl := V.lenle hw.2.1
  set_option smartUnfolding false in conv => whnf
  refine br_intro (fun g1 => ?_) (fun g1 => ?_) <;> set_option smartUnfolding false in conv => whnf
  · have g1 : ¬ k = 5 := by simpa using g1
    exact rdB (by rw [← hR, decide_eq_false g1]; rfl)
  have g1 : k = 5 := by simpa using g1
  rw [decide_eq_true g1, Bool.true_and] at hR
  refine br_intro (fun g2 => ?_) (fun g2 => ?_) <;> set_option smartUnfolding false in conv => whnf
  · rw [conOf_big hv (.inl (dT g2))] at hR
    exact rdB hR
  refine br_intro (fun g3 => ?_) (fun g3 => ?_) <;> set_option smartUnfolding false in conv => whnf
  · rw [conOf_big hv (.inr (dT g3))] at hR
    exact rdB hR
  cases hfs : fieldsS D (.mk 5 tn ts) n with
  | none =>
    rw [hfs, optP_none] at hF
    rw [hfs] at hR
    refine acall_det (ps := [.lst 3 (Dt.pvL D), V.ag 5 tn ts, .int .i64 n]) hF ?_
    set_option smartUnfolding false in conv => whnf
    exact rdB hR
  | some fs =>
    rw [hfs, optP_some, List.nil_append] at hF
    rw [hfs] at hR
    refine acall_det (ps := [.lst 3 (Dt.pvL D), V.ag 5 tn ts, .int .i64 n]) hF ?_
    set_option smartUnfolding false in conv => whnf
    refine acall_det (ps := [.lst 3 (Dt.pvL D), .lst 3 (V.pvL ks), .lst 3 (V.pvL fs)]) (hE fs hfs) ?_
    set_option smartUnfolding false in conv => whnf
    exact rdB hR

theorem rhas_det {D : List Dt} (hD : DOK D) (hv : dvalid D = true) (v : V) : ∀ t, Good D t → Det Tryz.prog 25 [.lst 3 (Dt.pvL D), v.pv, t.pv] (.bool (V.has D v t)) := by
  refine V.recOn' (p := fun v => ∀ t, Good D t → Det Tryz.prog 25 [.lst 3 (Dt.pvL D), v.pv, t.pv] (.bool (V.has D v t))) (fun k n ks ih t hg => ?_) v
  obtain ⟨tk, tn, ts⟩ := t
  have hE : ∀ us : List V, (∀ u ∈ us, Good D u) → Det Tryz.prog 38 [.lst 3 (Dt.pvL D), .lst 3 (V.pvL ks), .lst 3 (V.pvL us)] (.bool (V.hasE D ks us)) := fun us hus => rall_of D ks us fun i v t h1 h2 => ih v (List.mem_of_getElem? h1) t (hus t (List.mem_of_getElem? h2))
  have hF := rfields_det hD (.mk tk tn ts) (by have := hg.cnt; omega)
  have hFg : ∀ fs, fieldsS D (.mk tk tn ts) n = some fs → ∀ f ∈ fs, Good D f := fun fs hf => hg.fields hv hf
  rw [V.pv_mk] at hF
  rw [V.pv_mk, V.pv_mk]
  rcases hg.kind with rfl | rfl | rfl | rfl | rfl | rfl | rfl | rfl
  · exact rhas1 D k n ks tn ts
  · exact rhas2 D k n ks tn ts
  · exact rhas3 D k n ks tn ts
  · exact rhas5 hv k n ks tn ts (hF n) fun fs hfs => hE fs (hFg fs hfs)
  · exact rhas6 D k n ks tn ts (hE ts fun u hu => hg.kid hu)
  · obtain ⟨u, rfl⟩ := hg.one (.inl rfl)
    have hgu : Good D u := hg.kid (by simp)
    obtain ⟨uk, un, us⟩ := u
    have h := rhas7 D k n ks tn uk un us fun v hvm => by have := ih v hvm _ hgu; rwa [V.pv_mk (k := uk)] at this
    have e : V.pvL [V.mk uk un us] = [V.ag uk un us] := by rw [V.pvL_cons, V.pvL_nil, V.pv_mk]
    rw [← e] at h
    exact h
  · obtain ⟨u, rfl⟩ := hg.one (.inr rfl)
    have hgu : Good D u := hg.kid (by simp)
    obtain ⟨uk, un, us⟩ := u
    have h := rhas8 D k n ks tn uk un us fun v hvm => by have := ih v hvm _ hgu; rwa [V.pv_mk (k := uk)] at this
    have e : V.pvL [V.mk uk un us] = [V.ag uk un us] := by rw [V.pvL_cons, V.pvL_nil, V.pv_mk]
    rw [← e] at h
    exact h
  · exact rhas9 D k n ks tn ts

/-! ### Both HasType -/
theorem wrap_dec' {n : Int} (h1 : -1000000 ≤ n) (h2 : n ≤ 1000000) : IntKind.wrap .i64 (n - 1) = n - 1 := wrapI (by omega) (by omega)
mutual
theorem V.val_iff : ∀ (v : V) (n : Int), 0 ≤ n → n ≤ 100000 → (V.val v n).1 = decide ((v.cnt : Int) ≤ n) ∧ ((V.val v n).1 = true → (V.val v n).2 = n - v.cnt)
  | .mk k m ks, n, h0, h1 => by
    rw [V.val_mk, wrap_dec' (by omega) (by omega), V.cnt_mk]
    by_cases h : n - 1 < 0
    · rw [if_pos h]
      exact ⟨by rw [decide_eq_false (by omega)], fun h => by cases h⟩
    · rw [if_neg h]
      have := V.valL_iff ks (n - 1) (by omega) (by omega)
      refine ⟨by rw [this.1]; exact decide_eq_decide.2 (by omega), fun h' => by rw [this.2 h']; omega⟩
theorem V.valL_iff : ∀ (l : List V) (n : Int), 0 ≤ n → n ≤ 100000 → (V.valL l n).1 = decide ((V.cntL l : Int) ≤ n) ∧ ((V.valL l n).1 = true → (V.valL l n).2 = n - V.cntL l)
  | [], n, h0, h1 => by rw [V.valL_nil, V.cntL_nil]; exact ⟨by rw [decide_eq_true (by omega)], fun _ => by simp⟩
  | v :: l, n, h0, h1 => by
    rw [V.valL_cons, V.cntL_cons]
    have hv := V.val_iff v n h0 h1
    have hp := V.cnt_pos v
    cases hx : V.val v n with
    | mk b n' =>
      rw [hx] at hv
      cases b with
      | false =>
        simp only at hv ⊢
        have := of_decide_eq_false hv.1.symm
        exact ⟨by rw [decide_eq_false (by omega)], fun h => by cases h⟩
      | true =>
        simp only at hv ⊢
        have h1' := of_decide_eq_true hv.1.symm
        have e := hv.2 trivial
        subst e
        have := V.valL_iff l (n - v.cnt) (by omega) (by omega)
        exact ⟨by rw [this.1]; exact decide_eq_decide.2 (by omega), fun h' => by rw [this.2 h']; omega⟩
end

/-- What both answer. -/
noncomputable def hasS (D : List Dt) (v t : V) : Bool := known D t && decide (v.cnt ≤ 5000) && V.has D v t
theorem known_good {D : List Dt} {t : V} (h : known D t = true) : dvalid D = true ∧ Good D t := by
  unfold known V.okW at h
  simp only [Bool.and_eq_true, decide_eq_true_eq] at h
  exact ⟨h.1, h.2.2, h.2.1⟩
theorem hasType_det {D : List Dt} (hD : DOK D) (hN : DN D) (v t : V) : Det Tryz.prog 13 [.lst 3 (Dt.pvL D), v.pv, t.pv] (.bool (hasS D v t)) := by
  have h1 := known_det hD hN t
  have h2 := vnodes_det v 5001 (by omega) (by omega)
  have h3 : known D t = true → Det Tryz.prog 21 [.lst 3 (Dt.pvL D), v.pv, t.pv] (.bool (V.has D v t)) := fun h => has_det hD (known_good h).1 v t (known_good h).2
  have hc : decide (min (v.cnt : Int) 5001 ≤ 5000) = decide (v.cnt ≤ 5000) := decide_eq_decide.2 (by omega)
  generalize hm : min (v.cnt : Int) 5001 = m at h2 hc
  generalize hR : hasS D v t = R
  unfold hasS at hR
  rw [← hc] at hR
  generalize V.has D v t = q at h3 hR
  generalize hkk : known D t = kk at h1 h3 hR
  obtain ⟨k, n, ks⟩ := v
  obtain ⟨tk, tn, ts⟩ := t
  rw [V.pv_mk] at h1 h2 h3
  rw [V.pv_mk] at h3
  rw [V.pv_mk, V.pv_mk]
  refine det_of_vc' (E := S.E 0) rfl fol Tryz.func13 rfl rfl (slots := [6]) rfl rfl fun hw => ?_
  set_option smartUnfolding false in conv => whnf
  refine acall_det (ps := [.lst 3 (Dt.pvL D), V.ag tk tn ts]) h1 ?_
  set_option smartUnfolding false in conv => whnf
  refine br_intro (fun g => ?_) (fun g => ?_) <;> set_option smartUnfolding false in conv => whnf
  · refine acall_det (ps := [V.ag k n ks, .int .i64 5001]) h2 ?_
    set_option smartUnfolding false in conv => whnf
    refine br_intro (fun g2 => ?_) (fun g2 => ?_) <;> set_option smartUnfolding false in conv => whnf
    · refine acall_det (ps := [.lst 3 (Dt.pvL D), V.ag k n ks, V.ag tk tn ts]) (h3 g) ?_
      set_option smartUnfolding false in conv => whnf
      exact rdB (by rw [← hR, g, g2]; rfl)
    · exact rdB (by rw [← hR, g2]; simp)
  · exact rdB (by rw [← hR, g]; rfl)
theorem rhasType_det {D : List Dt} (hD : DOK D) (hN : DN D) (v t : V) (ht : t.cnt ≤ 1000000) : Det Tryz.prog 17 [.lst 3 (Dt.pvL D), v.pv, t.pv] (.bool (hasS D v t)) := by
  have h1 := validData_r hD hN
  have h2 := rValid_det D 0 t ht
  have h4 := few_hdet v 5000
  have h3 : known D t = true → Det Tryz.prog 25 [.lst 3 (Dt.pvL D), v.pv, t.pv] (.bool (V.has D v t)) := fun h => rhas_det hD (known_good h).1 v t (known_good h).2
  have hc : (V.val v 5000).1 = decide (v.cnt ≤ 5000) := by rw [(V.val_iff v 5000 (by omega) (by omega)).1]; exact decide_eq_decide.2 (by omega)
  generalize hR : hasS D v t = R
  unfold hasS at hR
  rw [← hc] at hR
  generalize V.has D v t = q at h3 hR
  unfold known at h3 hR
  generalize dvalid D = dv at h1 h3 hR
  generalize V.okW D 0 t = ow at h2 h3 hR
  generalize V.val v 5000 = vv at h4 hR
  obtain ⟨k, n, ks⟩ := v
  obtain ⟨tk, tn, ts⟩ := t
  rw [V.pv_mk] at h2 h3 h4
  rw [V.pv_mk] at h3
  rw [V.pv_mk, V.pv_mk]
  refine det_of_vc' (E := S.E 0) rfl fol Tryz.func17 rfl rfl (slots := [6]) rfl rfl fun hw => ?_
  set_option smartUnfolding false in conv => whnf
  refine acall_det (ps := [.lst 3 (Dt.pvL D)]) h1 ?_
  set_option smartUnfolding false in conv => whnf
  refine br_intro (fun g => ?_) (fun g => ?_) <;> set_option smartUnfolding false in conv => whnf
  · refine acall_det (ps := [.lst 3 (Dt.pvL D), V.ag tk tn ts, .int .i64 0]) h2 ?_
    set_option smartUnfolding false in conv => whnf
    refine br_intro (fun g2 => ?_) (fun g2 => ?_) <;> set_option smartUnfolding false in conv => whnf
    · refine acall_hdet h4 [2] 3 rfl rfl ⟨rfl, trivial⟩ ?_
      set_option smartUnfolding false in conv => whnf
      refine br_intro (fun g3 => ?_) (fun g3 => ?_) <;> set_option smartUnfolding false in conv => whnf
      · refine acall_det (ps := [.lst 3 (Dt.pvL D), V.ag k n ks, V.ag tk tn ts]) (h3 (by rw [g, g2]; rfl)) ?_
        set_option smartUnfolding false in conv => whnf
        exact rdB (by rw [← hR, g, g2, g3]; rfl)
      · exact rdB (by rw [← hR, g3]; simp)
    · exact rdB (by rw [← hR, g2]; simp)
  · exact rdB (by rw [← hR, g]; rfl)
end Go.AM
