import Derived.Test.YtelmconnpdmjhaaGreatDoorPkJ
set_option linter.all false
set_option maxRecDepth 20000
set_option maxHeartbeats 2000000
namespace Go.AM
open Go.Proofs

/-! ### keep.SameValue, keep.SameValues -/
mutual
def V.same : V → V → Bool
  | .mk k n ks, .mk k' n' ks' => decide (k = k') && decide (n = n') && V.sameL ks ks'
def V.sameL : List V → List V → Bool
  | v :: l, ts => match ts with
    | t :: m => V.same v t && V.sameL l m
    | [] => false
  | [], ts => ts.isEmpty
end
theorem V.same_mk (k n : Int) (ks : List V) (k' n' : Int) (ks' : List V) : V.same (.mk k n ks) (.mk k' n' ks') = (decide (k = k') && decide (n = n') && V.sameL ks ks') := by rw [V.same]
theorem V.sameL_cons (v t : V) (l m : List V) : V.sameL (v :: l) (t :: m) = (V.same v t && V.sameL l m) := by rw [V.sameL]
theorem V.sameL_nil : V.sameL [] [] = true := by simp [V.sameL]
theorem V.sameL_eq : ∀ l m : List V, eqL V.same l m = V.sameL l m
  | [], [] => by rw [eqL_nil, V.sameL_nil]
  | [], t :: m => by rw [eqL_len _ _ _ (by simp), V.sameL]; rfl
  | v :: l, [] => by rw [eqL_len _ _ _ (by simp), V.sameL]
  | v :: l, t :: m => by rw [eqL_cons, V.sameL_cons, V.sameL_eq l m]
mutual
theorem V.same_self : ∀ v : V, V.same v v = true
  | .mk k n ks => by rw [V.same_mk, V.sameL_self ks]; simp
theorem V.sameL_self : ∀ l : List V, V.sameL l l = true
  | [] => V.sameL_nil
  | v :: l => by rw [V.sameL_cons, V.same_self v, V.sameL_self l]; rfl
end
attribute [irreducible] V.same V.sameL

theorem sameV_of (v w : V) (h : ∀ (k n : Int) (ks : List V) (k' n' : Int) (ks' : List V), v = .mk k n ks → w = .mk k' n' ks' → Det Tryz.prog 18 [.lst 3 (V.pvL ks), .lst 3 (V.pvL ks')] (.bool (V.sameL ks ks'))) :
    Det Tryz.prog 44 [v.pv, w.pv] (.bool (v.same w)) := by
  obtain ⟨k, n, ks⟩ := v
  obtain ⟨k', n', ks'⟩ := w
  have h := h _ _ _ _ _ _ rfl rfl
  rw [V.same_mk, V.pv_mk, V.pv_mk]
  refine det_of_vc' (E := S.E 0) rfl fol Tryz.func44 rfl rfl (slots := [4]) rfl rfl fun hw => ?_
  set_option smartUnfolding false in conv => whnf
  refine br_intro (fun h1 => ?_) (fun h1 => ?_) <;> set_option smartUnfolding false in conv => whnf
  · refine br_intro (fun h2 => ?_) (fun h2 => ?_) <;> set_option smartUnfolding false in conv => whnf
    · refine acall_det (ps := [.lst 3 (V.pvL ks), .lst 3 (V.pvL ks')]) h ?_
      set_option smartUnfolding false in conv => whnf
      exact rdB (by rw [h1, h2]; rfl)
    · exact rdB (by rw [h2]; simp)
  · exact rdB (by rw [h1]; rfl)
theorem sameVs_of (ks ks' : List V) (ih : ∀ v ∈ ks, ∀ w : V, Det Tryz.prog 44 [v.pv, w.pv] (.bool (v.same w))) :
    Det Tryz.prog 18 [.lst 3 (V.pvL ks), .lst 3 (V.pvL ks')] (.bool (V.sameL ks ks')) := by
  rw [← V.sameL_eq]
  generalize hqd : V.same = q at ih ⊢
  refine det_of_vc' (E := S.E 0) rfl fol Tryz.func18 rfl rfl (slots := [4]) rfl rfl fun hw => ?_
  have hl : ks.length ≤ 9223372036854775807 := by have := hw.1.1; rwa [V.pvL_len] at this
  set_option smartUnfolding false in conv => whnf
  refine br_intro (fun h => ?_) (fun h => ?_) <;> set_option smartUnfolding false in conv => whnf
  · have h : ¬ ks.length = ks'.length := by simp [V.pvL_len] at h; omega
    exact rdB (by rw [eqL_len q ks ks' h])
  have hlen : ks.length = ks'.length := by simp [V.pvL_len] at h; omega
  refine vloop_intro (σ := Nat) (fun i => i ≤ ks.length ∧ eqL q (ks.drop i) (ks'.drop i) = eqL q ks ks')
    (fun i => [(0, .pv (.lst 3 (V.pvL ks))), (1, .pv (.lst 3 (V.pvL ks'))), (12, .pv (.int .i64 (V.pvL ks).length)), (13, .pv (.int .i64 i))])
    (fun _ => []) (fun i => ks.length - i) 0 ⟨by simp, by simp⟩ (weak_bare rfl ⟨(by kernel_rfl), (by kernel_rfl), (by kernel_rfl), (by kernel_rfl), trivial⟩) ?_
  rintro i ⟨hi, hs⟩
  set_option smartUnfolding false in conv => whnf
  refine br_intro (fun h => ?_) (fun h => ?_) <;> set_option smartUnfolding false in conv => whnf
  · replace h : i < ks.length := by have := dT h; rw [V.pvL_len] at this; simpa using this
    refine V.get_elim h fun k1 n1 ks1 hv hg hg0 hd => ?_
    refine V.get_elim (l := ks') (i := i) (by omega) fun k2 n2 ks2 hv2 hg2 hg20 hd2 => ?_
    rw [hd, hd2, eqL_cons] at hs
    have hq1 := ih _ hv (.mk k2 n2 ks2)
    rw [V.pv_mk, V.pv_mk] at hq1
    refine ⟨V.ag k1 n1 ks1, ⟨by simp, by simpa using hg⟩, ?_⟩
    set_option smartUnfolding false in conv => whnf
    refine ⟨V.ag k2 n2 ks2, ⟨by simp, by simpa using hg2⟩, ?_⟩
    set_option smartUnfolding false in conv => whnf
    refine acall_det (ps := [V.ag k1 n1 ks1, V.ag k2 n2 ks2]) hq1 ?_
    set_option smartUnfolding false in conv => whnf
    refine br_intro (fun h2 => ?_) (fun h2 => ?_) <;> set_option smartUnfolding false in conv => whnf
    · have h2 : q (.mk k1 n1 ks1) (.mk k2 n2 ks2) = false := by simpa using h2
      exact rdB (by rw [← hs, h2]; rfl)
    · have h2 : q (.mk k1 n1 ks1) (.mk k2 n2 ks2) = true := by simpa using h2
      rw [h2, Bool.true_and] at hs
      exact ⟨i + 1, ⟨h, hs⟩, weak_bare rfl ⟨(by kernel_rfl), (by kernel_rfl), (by kernel_rfl), sUp h hl, trivial⟩, subUp h⟩
  · replace h : ¬ i < ks.length := by have := dF h; rw [V.pvL_len] at this; simpa using this
    rw [List.drop_of_length_le (by omega), List.drop_of_length_le (by omega), eqL_nil] at hs
    exact rdB hs
theorem sameV_det (v : V) : ∀ w : V, Det Tryz.prog 44 [v.pv, w.pv] (.bool (v.same w)) := by
  refine V.recOn' (p := fun v => ∀ w : V, Det Tryz.prog 44 [v.pv, w.pv] (.bool (v.same w))) (fun k n ks ih w => sameV_of _ _ ?_) v
  rintro k0 n0 ks0 k' n' ks' h rfl
  cases h
  exact sameVs_of ks ks' ih
theorem sameVs_det (ks ks' : List V) : Det Tryz.prog 18 [.lst 3 (V.pvL ks), .lst 3 (V.pvL ks')] (.bool (V.sameL ks ks')) := sameVs_of ks ks' fun v _ => sameV_det v
end Go.AM

set_option linter.all false
set_option maxRecDepth 20000
set_option maxHeartbeats 4000000
namespace Go.AM
open Go.Proofs

/-! ### keep.Data -/
def keepCs : List Cn → Bool
  | [] => true
  | c :: l => (decide (c.name.size ≤ 40) && decide (c.args.length ≤ 8) && (V.valL c.args 20).1) && keepCs l
def keepDs : List Dt → Bool
  | [] => true
  | d :: l => (decide (d.name.size ≤ 40) && decide (d.cons.length ≤ 10) && keepCs d.cons) && keepDs l
def keepD (D : List Dt) : Bool := decide (D.length ≤ 14) && keepDs D
theorem keepCs_nil : keepCs [] = true := rfl
theorem keepCs_cons (c : Cn) (l : List Cn) : keepCs (c :: l) = ((decide (c.name.size ≤ 40) && decide (c.args.length ≤ 8) && (V.valL c.args 20).1) && keepCs l) := rfl
theorem keepDs_nil : keepDs [] = true := rfl
theorem keepDs_cons (d : Dt) (l : List Dt) : keepDs (d :: l) = ((decide (d.name.size ≤ 40) && decide (d.cons.length ≤ 10) && keepCs d.cons) && keepDs l) := rfl
attribute [irreducible] keepCs keepDs

theorem keepData_det (D : List Dt) : Det Tryz.prog 8 [.lst 3 (Dt.pvL D)] (.bool (keepD D)) := by
  generalize hR : keepD D = R
  unfold keepD at hR
  refine det_of_vc' (E := S.E 0) rfl fol Tryz.func8 rfl rfl (slots := [2]) rfl rfl fun hw => ?_
  set_option smartUnfolding false in conv => whnf
  refine br_intro (fun h0 => ?_) (fun h0 => ?_) <;> set_option smartUnfolding false in conv => whnf
  · have h0 := dT h0
    rw [Dt.pvL_len] at h0
    exact rdB (by rw [← hR, decide_eq_false (by omega)]; rfl)
  have h0 := dF h0
  rw [Dt.pvL_len] at h0
  rw [decide_eq_true (by omega), Bool.true_and] at hR
  refine vloop_intro (σ := Nat) (fun i => i ≤ D.length ∧ keepDs (D.drop i) = R) (fun i => [(13, .pv (.lst 3 (Dt.pvL D))), (14, .pv (.int .i64 (Dt.pvL D).length)), (15, .pv (.int .i64 i))]) (fun _ => []) (fun i => D.length - i) 0 ⟨by simp, by simpa using hR⟩ (weak_bare rfl ⟨(by kernel_rfl), (by kernel_rfl), (by kernel_rfl), trivial⟩) ?_
  rintro i ⟨hi, hs⟩
  set_option smartUnfolding false in conv => whnf
  refine br_intro (fun h => ?_) (fun h => ?_) <;> set_option smartUnfolding false in conv => whnf
  rotate_left
  · replace h : D.length ≤ i := by have := dF h; rw [Dt.pvL_len] at this; omega
    rw [List.drop_of_length_le h, keepDs_nil] at hs
    exact rdB hs
  replace h : i < D.length := by have := dT h; rw [Dt.pvL_len] at this; omega
  refine Dt.get_elim h fun nm vs cs hmem hg hg2 hd => ?_
  rw [hd, keepDs_cons] at hs
  simp only at hs
  refine ⟨Dt.ag nm vs cs, ⟨by omega, by simpa using hg⟩, ?_⟩
  set_option smartUnfolding false in conv => whnf
  refine br_intro (fun g => ?_) (fun g => ?_) <;> set_option smartUnfolding false in conv => whnf
  · have g := dT g
    exact rdB (by rw [← hs, decide_eq_false (by omega)]; rfl)
  have g1 := dF g
  refine br_intro (fun g => ?_) (fun g => ?_) <;> set_option smartUnfolding false in conv => whnf
  · have g := dT g
    rw [Cn.pvL_len] at g
    exact rdB (by rw [← hs, decide_eq_false (p := cs.length ≤ 10) (by omega)]; simp)
  have g2 := dF g
  rw [Cn.pvL_len] at g2
  rw [decide_eq_true (by omega), decide_eq_true (p := cs.length ≤ 10) (by omega), Bool.true_and, Bool.true_and] at hs
  refine vloop_intro (σ := Nat) (fun j => j ≤ cs.length ∧ (keepCs (cs.drop j) && keepDs (D.drop (i + 1))) = R) (fun j => [(13, .pv (.lst 3 (Dt.pvL D))), (14, .pv (.int .i64 (Dt.pvL D).length)), (15, .pv (.int .i64 i)), (30, .pv (.lst 2 (Cn.pvL cs))), (31, .pv (.int .i64 (Cn.pvL cs).length)), (32, .pv (.int .i64 j))]) (fun _ => []) (fun j => cs.length - j) 0 ⟨by simp, by simpa using hs⟩ (weak_bare rfl ⟨(by kernel_rfl), (by kernel_rfl), (by kernel_rfl), (by kernel_rfl), (by kernel_rfl), (by kernel_rfl), trivial⟩) ?_
  rintro j ⟨hj, hs2⟩
  set_option smartUnfolding false in conv => whnf
  refine br_intro (fun h' => ?_) (fun h' => ?_) <;> set_option smartUnfolding false in conv => whnf
  rotate_left
  · replace h' : cs.length ≤ j := by have := dF h'; rw [Cn.pvL_len] at this; omega
    rw [List.drop_of_length_le h', keepCs_nil, Bool.true_and] at hs2
    exact ⟨i + 1, ⟨h, hs2⟩, weak_bare rfl ⟨(by kernel_rfl), (by kernel_rfl), sUp h (by omega), trivial⟩, subUp h⟩
  replace h' : j < cs.length := by have := dT h'; rw [Cn.pvL_len] at this; omega
  refine Cn.get_elim h' fun cn cas hcm hcg hcg2 hcd => ?_
  rw [hcd, keepCs_cons] at hs2
  simp only at hs2
  refine ⟨Cn.ag cn cas, ⟨by omega, by simpa using hcg⟩, ?_⟩
  set_option smartUnfolding false in conv => whnf
  refine br_intro (fun g => ?_) (fun g => ?_) <;> set_option smartUnfolding false in conv => whnf
  · have g := dT g
    exact rdB (by rw [← hs2, decide_eq_false (by omega)]; rfl)
  have g3 := dF g
  refine br_intro (fun g => ?_) (fun g => ?_) <;> set_option smartUnfolding false in conv => whnf
  · have g := dT g
    rw [V.pvL_len] at g
    exact rdB (by rw [← hs2, decide_eq_false (p := cas.length ≤ 8) (by omega)]; simp)
  have g4 := dF g
  rw [V.pvL_len] at g4
  rw [decide_eq_true (by omega), decide_eq_true (p := cas.length ≤ 8) (by omega), Bool.true_and, Bool.true_and] at hs2
  refine vloop_intro (σ := Nat × Int) (fun x => x.1 ≤ cas.length ∧ ((V.valL (cas.drop x.1) x.2).1 && keepCs (cs.drop (j + 1)) && keepDs (D.drop (i + 1))) = R) (fun x => [(7, .bp 0 0), (13, .pv (.lst 3 (Dt.pvL D))), (14, .pv (.int .i64 (Dt.pvL D).length)), (15, .pv (.int .i64 i)), (30, .pv (.lst 2 (Cn.pvL cs))), (31, .pv (.int .i64 (Cn.pvL cs).length)), (32, .pv (.int .i64 j)), (47, .pv (.lst 3 (V.pvL cas))), (48, .pv (.int .i64 (V.pvL cas).length)), (49, .pv (.int .i64 x.1))]) (fun x => [.box 3 [.pv (.int .i64 x.2)]]) (fun x => cas.length - x.1) (0, 20) ⟨by simp, by simpa using hs2⟩ (weak_ren [1] 2 (by kernel_rfl) (blk (by kernel_rfl) trivial) ⟨(by kernel_rfl), (by kernel_rfl), (by kernel_rfl), (by kernel_rfl), (by kernel_rfl), (by kernel_rfl), (by kernel_rfl), (by kernel_rfl), (by kernel_rfl), (by kernel_rfl), trivial⟩) ?_
  rintro ⟨m, s⟩ ⟨hm, hs3⟩
  simp only at hm hs3
  set_option smartUnfolding false in conv => whnf
  refine br_intro (fun h2 => ?_) (fun h2 => ?_) <;> set_option smartUnfolding false in conv => whnf
  rotate_left
  · replace h2 : cas.length ≤ m := by have := dF h2; rw [V.pvL_len] at this; simp only at this; omega
    rw [List.drop_of_length_le h2, V.valL_nil] at hs3
    simp only [Bool.true_and] at hs3
    exact ⟨j + 1, ⟨h', hs3⟩, weak_bare rfl ⟨(by kernel_rfl), (by kernel_rfl), (by kernel_rfl), (by kernel_rfl), (by kernel_rfl), sUp h' (by omega), trivial⟩, subUp h'⟩
  replace h2 : m < cas.length := by have := dT h2; rw [V.pvL_len] at this; simp only at this; omega
  refine V.get_elim h2 fun k' n' ts' hv hge hg0 hde => ?_
  rw [hde, V.valL_cons] at hs3
  have ht := typ_hdet (.mk k' n' ts') s
  rw [V.pv_mk] at ht
  refine ⟨V.ag k' n' ts', ⟨(by first | omega | (simp only; omega)), by simpa using hge⟩, ?_⟩
  set_option smartUnfolding false in conv => whnf
  refine acall_hdet ht [0] 2 rfl rfl ⟨rfl, trivial⟩ ?_
  set_option smartUnfolding false in conv => whnf
  refine br_intro (fun g => ?_) (fun g => ?_) <;> set_option smartUnfolding false in conv => whnf
  · have g : ((V.mk k' n' ts').val s).1 = false := by simpa using g
    cases hx : (V.mk k' n' ts').val s with
    | mk b n2 =>
      rw [hx] at g hs3
      simp only at g
      subst g
      exact rdB hs3
  · have g : ((V.mk k' n' ts').val s).1 = true := by simpa using g
    cases hx : (V.mk k' n' ts').val s with
    | mk b n2 =>
      rw [hx] at g hs3
      simp only at g
      subst g
      simp only at hs3
      exact ⟨(m + 1, n2), ⟨h2, hs3⟩, weak_ren [0] 2 (by kernel_rfl) (blk (by kernel_rfl) trivial) ⟨(by kernel_rfl), (by kernel_rfl), (by kernel_rfl), (by kernel_rfl), (by kernel_rfl), (by kernel_rfl), (by kernel_rfl), (by kernel_rfl), (by kernel_rfl), sUp h2 (by omega), trivial⟩, by show cas.length - (m + 1) < cas.length - m; omega⟩

theorem keepCs_mem : ∀ {l : List Cn} {c : Cn}, keepCs l = true → c ∈ l → c.name.size ≤ 40 ∧ c.args.length ≤ 8 ∧ (V.valL c.args 20).1 = true
  | [], c, _, h => by simp at h
  | y :: l, c, h, hc => by
    rw [keepCs_cons] at h
    simp only [Bool.and_eq_true, decide_eq_true_eq] at h
    rcases List.mem_cons.1 hc with rfl | hc
    · exact ⟨h.1.1.1, h.1.1.2, h.1.2⟩
    · exact keepCs_mem h.2 hc
theorem keepDs_mem : ∀ {l : List Dt} {d : Dt}, keepDs l = true → d ∈ l → d.name.size ≤ 40 ∧ d.cons.length ≤ 10 ∧ keepCs d.cons = true
  | [], d, _, h => by simp at h
  | y :: l, d, h, hd => by
    rw [keepDs_cons] at h
    simp only [Bool.and_eq_true, decide_eq_true_eq] at h
    rcases List.mem_cons.1 hd with rfl | hd
    · exact ⟨h.1.1.1, h.1.1.2, h.1.2⟩
    · exact keepDs_mem h.2 hd
theorem keepD_ok {D : List Dt} (h : keepD D = true) : DOK D ∧ DN D := by
  unfold keepD at h
  simp only [Bool.and_eq_true, decide_eq_true_eq] at h
  refine ⟨⟨by omega, fun d hd => by have := keepDs_mem h.2 hd; omega, fun d hd c hc => ?_, fun d hd c hc a ha => ?_⟩, ⟨fun d hd => by have := keepDs_mem h.2 hd; omega, fun d hd c hc => ?_⟩⟩
  · have := keepCs_mem (keepDs_mem h.2 hd).2.2 hc; omega
  · have h3 := (keepCs_mem (keepDs_mem h.2 hd).2.2 hc).2.2
    have := (V.valL_spec c.args 20 (by omega) (by omega)).1 h3
    have := V.cnt_mem ha
    omega
  · have := keepCs_mem (keepDs_mem h.2 hd).2.2 hc; omega
end Go.AM
