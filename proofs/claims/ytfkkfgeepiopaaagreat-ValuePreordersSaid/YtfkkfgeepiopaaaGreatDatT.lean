import Derived.Test.YtfkkfgeepiopaaaGreatDatR
set_option linter.all false
set_option maxRecDepth 20000
set_option maxHeartbeats 20000000
namespace Go.AM
open Go.Proofs

theorem ndup_pre {l k : List ByteArray} {a : ByteArray} (hm : a ∈ l) (h : ∃ r, k = l ++ a :: r) : ndup k = false := by
  obtain ⟨r, rfl⟩ := h
  refine ndup_not fun hn => ?_
  rw [List.nodup_append] at hn
  exact hn.2.2 a hm a (by simp) rfl
theorem nodup_snoc {l : List ByteArray} {a : ByteArray} (h : l.Nodup) (hm : ¬ a ∈ l) : (l ++ [a]).Nodup := by
  rw [List.nodup_append]
  refine ⟨h, by simp, fun x hx y hy => ?_⟩
  simp only [List.mem_singleton] at hy
  subst hy
  rintro rfl
  exact hm hx
theorem boolsP_get {l : List V} {i : Nat} {v : V} (q : V → Bool) (h : l[i]? = some v) : (boolsP (l.map q))[i]? = some (.bool (q v)) := by simp [boolsP, h]
theorem take_pre {α : Type} {l : List α} {i : Nat} {a : α} (hd : l.drop i = a :: l.drop (i + 1)) : l = l.take i ++ a :: l.drop (i + 1) := by
  rw [← hd, List.take_append_drop]

theorem names_split {D : List Dt} {i : Nat} {x : Dt} (hd : D.drop i = x :: D.drop (i + 1)) : namesOf D = namesOf (D.take i) ++ x.name :: namesOf (D.drop (i + 1)) := by
  have : namesOf D = namesOf (D.take i ++ D.drop i) := by rw [List.take_append_drop]
  rw [this, hd]; simp [namesOf]
theorem cnames_split {D : List Dt} {i j : Nat} {x : Dt} {c : Cn} (hd : D.drop i = x :: D.drop (i + 1)) (hc : x.cons.drop j = c :: x.cons.drop (j + 1)) :
    cnamesOf D = (cnamesOf (D.take i) ++ (x.cons.take j).map (·.name)) ++ c.name :: ((x.cons.drop (j + 1)).map (·.name) ++ cnamesOf (D.drop (i + 1))) := by
  have : cnamesOf D = cnamesOf (D.take i ++ D.drop i) := by rw [List.take_append_drop]
  rw [this, hd]
  have e : x.cons.map (·.name) = (x.cons.take j).map (·.name) ++ c.name :: (x.cons.drop (j + 1)).map (·.name) := by
    have : x.cons.map (·.name) = (x.cons.take j ++ x.cons.drop j).map (·.name) := by rw [List.take_append_drop]
    rw [this, hc]; simp
  simp only [cnamesOf, List.flatMap_append, List.flatMap_cons]
  rw [e]; simp
theorem validData_t {D : List Dt} (hD : DOK D) (hN : DN D) : Det Tryz.prog 40 [.lst 3 (Dt.pvL D)] (.bool (dvalid D)) := by
  generalize hR : dvalid D = R
  unfold dvalid at hR
  have hDl := hD.len
  refine det_of_vc' (E := S.E 0) rfl fol Tryz.func40 rfl rfl (slots := [2]) rfl rfl fun hw => ?_
  set_option smartUnfolding false in conv => whnf
  refine br_intro (fun h0 => ?_) (fun h0 => ?_) <;> set_option smartUnfolding false in conv => whnf
  · have h0 := dT h0
    rw [Dt.pvL_len] at h0
    exact rdB (by rw [← hR, decide_eq_false (by omega)]; rfl)
  have h0 := dF h0
  rw [Dt.pvL_len] at h0
  rw [decide_eq_true (by omega), Bool.true_and] at hR
  refine vloop_intro (σ := Nat × List ByteArray × List ByteArray) (fun x => x.1 ≤ D.length ∧ (decsR D x.1 (D.drop x.1) && (ndup (namesOf D) && ndup (cnamesOf D))) = R ∧ ((∀ a, a ∈ x.2.1 ↔ a ∈ namesOf (D.take x.1)) ∧ (namesOf (D.take x.1)).Nodup) ∧ ((∀ a, a ∈ x.2.2 ↔ a ∈ cnamesOf (D.take x.1)) ∧ (cnamesOf (D.take x.1)).Nodup)) (fun x => [(0, .pv (.lst 3 (Dt.pvL D))), (3, .bp 0 0), (4, .bp 1 0), (17, .pv (.lst 3 (Dt.pvL D))), (18, .pv (.int .i64 (Dt.pvL D).length)), (19, .pv (.int .i64 x.1))])
    (fun x => [.smap x.2.1, .smap x.2.2]) (fun x => D.length - x.1) (0, [], []) ⟨by simp, hR, ⟨by simp [namesOf], by simp [namesOf]⟩, ⟨by simp [cnamesOf], by simp [cnamesOf]⟩⟩ (weak_ren [0, 1] 2 (by kernel_rfl) (blk (by kernel_rfl) (blk (by kernel_rfl) trivial)) ⟨(by kernel_rfl), (by kernel_rfl), (by kernel_rfl), (by kernel_rfl), (by kernel_rfl), (by kernel_rfl), trivial⟩) ?_
  rintro ⟨i, k1, k2⟩ ⟨hi, hs, ⟨hk1, hn1⟩, ⟨hk2, hn2⟩⟩
  simp only at hi hs hk1 hn1 hk2 hn2
  set_option smartUnfolding false in conv => whnf
  refine br_intro (fun h => ?_) (fun h => ?_) <;> set_option smartUnfolding false in conv => whnf
  rotate_left
  · replace h : D.length ≤ i := by have := dF h; rw [Dt.pvL_len] at this; simp only at this; omega
    rw [List.drop_of_length_le h, decsR_nil, Bool.true_and] at hs
    rw [List.take_of_length_le h] at hn1 hn2
    exact rdB (by rw [← hs, ndup_iff.2 hn1, ndup_iff.2 hn2]; rfl)
  replace h : i < D.length := by have := dT h; rw [Dt.pvL_len] at this; simp only at this; omega
  refine Dt.get_elim h fun nm vs cs hmem hg hg2 hd => ?_
  have hpre := take_pre hd
  rw [hd, decsR_cons] at hs
  simp only at hs
  have hNn := hN.name _ hmem
  have hNc := hN.cname _ hmem
  have hDa := hD.arg _ hmem
  have hDl2 := hD.args _ hmem
  simp only at hNn hNc hDa hDl2
  refine ⟨Dt.ag nm vs cs, ⟨(by first | omega | (simp only; omega)), by simpa using hg⟩, ?_⟩
  set_option smartUnfolding false in conv => whnf
  refine acall_det (ps := [.str nm]) (upper_t nm hNn) ?_
  set_option smartUnfolding false in conv => whnf
  refine br_intro (fun g => ?_) (fun g => ?_) <;> set_option smartUnfolding false in conv => whnf
  · have g : upName nm = false := by simpa using g
    exact rdB (by rw [← hs, g]; simp)
  have g5 : upName nm = true := by simpa using g
  refine br_intro (fun g => ?_) (fun g => ?_) <;> set_option smartUnfolding false in conv => whnf
  · refine rdB ?_
    have g := (hk1 nm).1 (memS_iff.1 g)
    have : ndup (namesOf D) = false := ndup_pre g ⟨_, names_split hd⟩
    rw [← hs, this]; simp
  have gm : ¬ nm ∈ namesOf (D.take i) := fun hm => by rw [memS_iff.2 ((hk1 nm).2 hm)] at g; cases g
  refine br_intro (fun g => ?_) (fun g => ?_) <;> set_option smartUnfolding false in conv => whnf
  · have g := dT g
    exact rdB (by rw [← hs, decide_eq_false (p := 0 ≤ vs) (by omega)]; simp)
  have g1 : 0 ≤ vs := by have := dF g; omega
  refine br_intro (fun g => ?_) (fun g => ?_) <;> set_option smartUnfolding false in conv => whnf
  · have g := dT g
    exact rdB (by rw [← hs, decide_eq_false (p := vs ≤ 6) (by omega)]; simp)
  have g2 : vs ≤ 6 := by have := dF g; omega
  refine br_intro (fun g => ?_) (fun g => ?_) <;> set_option smartUnfolding false in conv => whnf
  · have g := dT g
    rw [Cn.pvL_len] at g
    exact rdB (by rw [← hs, decide_eq_false (p := 1 ≤ cs.length) (by omega)]; simp)
  have g3 : 1 ≤ cs.length := by have := dF g; rw [Cn.pvL_len] at this; omega
  refine br_intro (fun g => ?_) (fun g => ?_) <;> set_option smartUnfolding false in conv => whnf
  · have g := dT g
    rw [Cn.pvL_len] at g
    exact rdB (by rw [← hs, decide_eq_false (p := cs.length ≤ 8) (by omega)]; simp)
  have g4 : cs.length ≤ 8 := by have := dF g; rw [Cn.pvL_len] at this; omega
  rw [decide_eq_true g1, decide_eq_true g2, decide_eq_true g3, decide_eq_true g4, g5] at hs
  simp only [Bool.true_and] at hs
  have hN1 : namesOf (D.take (i + 1)) = namesOf (D.take i) ++ [nm] := by rw [take_snoc hg2]; simp [namesOf]
  have hN2 : cnamesOf (D.take (i + 1)) = cnamesOf (D.take i) ++ cs.map (·.name) := by rw [take_snoc hg2]; simp [cnamesOf]
  have hnn : (namesOf (D.take (i + 1))).Nodup := by rw [hN1]; exact nodup_snoc hn1 gm
  have hkk : ∀ a, a ∈ nm :: k1 ↔ a ∈ namesOf (D.take (i + 1)) := fun a => by rw [hN1]; simp [hk1, or_comm]
  refine vloop_intro (σ := Nat × List ByteArray) (fun x => x.1 ≤ cs.length ∧ (consR D i vs (cs.drop x.1) && decsR D (i + 1) (D.drop (i + 1)) && (ndup (namesOf D) && ndup (cnamesOf D))) = R ∧ (∀ a, a ∈ x.2 ↔ a ∈ cnamesOf (D.take i) ++ (cs.take x.1).map (·.name)) ∧ (cnamesOf (D.take i) ++ (cs.take x.1).map (·.name)).Nodup) (fun x => [(0, .pv (.lst 3 (Dt.pvL D))), (3, .bp 0 0), (4, .bp 1 0), (17, .pv (.lst 3 (Dt.pvL D))), (18, .pv (.int .i64 (Dt.pvL D).length)), (19, .pv (.int .i64 i)), (5, .pv (.int .i64 i)), (6, .bp 2 0), (60, .pv (.lst 2 (Cn.pvL cs))), (61, .pv (.int .i64 (Cn.pvL cs).length)), (62, .pv (.int .i64 x.1))])
    (fun x => [.smap (nm :: k1), .smap x.2, .box 36 [.pv (.str nm), .pv (.int .i64 vs), .pv (.lst 2 (Cn.pvL cs))]]) (fun x => cs.length - x.1) (0, k2) ⟨by simp, by simpa using hs, by simpa using hk2, by simpa using hn2⟩ (weak_ren [0, 1, 2] 3 (by kernel_rfl) (blk (by kernel_rfl) (blk (by kernel_rfl) (blk (by kernel_rfl) trivial))) ⟨(by kernel_rfl), (by kernel_rfl), (by kernel_rfl), (by kernel_rfl), (by kernel_rfl), (by kernel_rfl), (by kernel_rfl), (by kernel_rfl), (by kernel_rfl), (by kernel_rfl), (by kernel_rfl), trivial⟩) ?_
  rintro ⟨j, k3⟩ ⟨hj, hs2, hk3, hn3⟩
  simp only at hj hs2 hk3 hn3
  set_option smartUnfolding false in conv => whnf
  refine br_intro (fun h' => ?_) (fun h' => ?_) <;> set_option smartUnfolding false in conv => whnf
  rotate_left
  · replace h' : cs.length ≤ j := by have := dF h'; rw [Cn.pvL_len] at this; simp only at this; omega
    rw [List.drop_of_length_le h', consR_nil, Bool.true_and] at hs2
    rw [List.take_of_length_le h', ← hN2] at hn3
    have hk3' : ∀ a, a ∈ k3 ↔ a ∈ cnamesOf (D.take (i + 1)) := fun a => by rw [hN2]; have := hk3 a; rwa [List.take_of_length_le h'] at this
    exact ⟨(i + 1, nm :: k1, k3), ⟨by simp only; omega, hs2, ⟨hkk, hnn⟩, ⟨hk3', hn3⟩⟩, weak_ren [0, 1] 3 (by kernel_rfl) (blk (by kernel_rfl) (blk (by kernel_rfl) trivial)) ⟨(by kernel_rfl), (by kernel_rfl), (by kernel_rfl), (by kernel_rfl), (by kernel_rfl), sUp h (by omega), trivial⟩, by show D.length - (i + 1) < D.length - i; omega⟩
  replace h' : j < cs.length := by have := dT h'; rw [Cn.pvL_len] at this; simp only at this; omega
  refine Cn.get_elim h' fun cn cas hcm hcg hcg2 hcd => ?_
  have hspl := cnames_split (j := j) (c := ⟨cn, cas⟩) hd hcd
  simp only at hspl
  rw [hcd, consR_cons] at hs2
  simp only at hs2
  have hcn := hNc _ hcm
  have hca := hDa _ hcm
  have hcl := hDl2 _ hcm
  simp only at hcn hca hcl
  refine ⟨Cn.ag cn cas, ⟨(by first | omega | (simp only; omega)), by simpa using hcg⟩, ?_⟩
  set_option smartUnfolding false in conv => whnf
  refine acall_det (ps := [.str cn]) (upper_t cn hcn) ?_
  set_option smartUnfolding false in conv => whnf
  refine br_intro (fun g => ?_) (fun g => ?_) <;> set_option smartUnfolding false in conv => whnf
  · have g : upName cn = false := by simpa using g
    exact rdB (by rw [← hs2, g]; simp)
  have g6 : upName cn = true := by simpa using g
  refine br_intro (fun g => ?_) (fun g => ?_) <;> set_option smartUnfolding false in conv => whnf
  · refine rdB ?_
    have g := (hk3 cn).1 (memS_iff.1 g)
    have : ndup (cnamesOf D) = false := ndup_pre g ⟨_, hspl⟩
    rw [← hs2, this]; simp
  have gmc : ¬ cn ∈ cnamesOf (D.take i) ++ (cs.take j).map (·.name) := fun hm => by rw [memS_iff.2 ((hk3 cn).2 hm)] at g; cases g
  refine br_intro (fun g => ?_) (fun g => ?_) <;> set_option smartUnfolding false in conv => whnf
  · have g := dT g
    rw [V.pvL_len] at g
    exact rdB (by rw [← hs2, decide_eq_false (p := cas.length ≤ 6) (by omega)]; simp)
  have g7 : cas.length ≤ 6 := by have := dF g; rw [V.pvL_len] at this; omega
  rw [g6, decide_eq_true g7] at hs2
  simp only [Bool.true_and] at hs2
  have hC1 : cnamesOf (D.take i) ++ (cs.take (j + 1)).map (·.name) = (cnamesOf (D.take i) ++ (cs.take j).map (·.name)) ++ [cn] := by rw [take_snoc hcg2]; simp
  have hcc : (cnamesOf (D.take i) ++ (cs.take (j + 1)).map (·.name)).Nodup := by rw [hC1]; exact nodup_snoc hn3 gmc
  have hkc : ∀ a, a ∈ cn :: k3 ↔ a ∈ cnamesOf (D.take i) ++ (cs.take (j + 1)).map (·.name) := fun a => by
    rw [hC1, List.mem_cons, List.mem_append, List.mem_singleton, hk3 a, or_comm]
  have hrec := trec_det hD i j
  have erec : recS D i j = cas.map (isSelf i vs) := by
    unfold recS conAt
    rw [if_pos (by omega), Int.toNat_natCast, hg2]
    simp only
    rw [Int.toNat_natCast, hcg2]
  rw [erec] at hrec
  refine acall_det (ps := [.lst 3 (Dt.pvL D), .int .i64 i, .int .i64 j]) hrec ?_
  set_option smartUnfolding false in conv => whnf
  refine vloop_intro (σ := Nat) (fun l => l ≤ cas.length ∧ (argsR D i vs (cas.drop l) && consR D i vs (cs.drop (j + 1)) && decsR D (i + 1) (D.drop (i + 1)) && (ndup (namesOf D) && ndup (cnamesOf D))) = R) (fun l => [(0, .pv (.lst 3 (Dt.pvL D))), (3, .bp 0 0), (4, .bp 1 0), (17, .pv (.lst 3 (Dt.pvL D))), (18, .pv (.int .i64 (Dt.pvL D).length)), (19, .pv (.int .i64 i)), (5, .pv (.int .i64 i)), (6, .bp 2 0), (60, .pv (.lst 2 (Cn.pvL cs))), (61, .pv (.int .i64 (Cn.pvL cs).length)), (62, .pv (.int .i64 j)), (9, .pv (.lst 1 (boolsP (cas.map (isSelf i vs))))), (91, .pv (.lst 3 (V.pvL cas))), (92, .pv (.int .i64 (V.pvL cas).length)), (93, .pv (.int .i64 l))])
    (fun l => [.smap (nm :: k1), .smap (cn :: k3), .box 36 [.pv (.str nm), .pv (.int .i64 vs), .pv (.lst 2 (Cn.pvL cs))]]) (fun l => cas.length - l) 0 ⟨by simp, by simpa using hs2⟩ (weak_ren [0, 1, 2] 4 (by kernel_rfl) (blk (by kernel_rfl) (blk (by kernel_rfl) (blk (by kernel_rfl) trivial))) ⟨(by kernel_rfl), (by kernel_rfl), (by kernel_rfl), (by kernel_rfl), (by kernel_rfl), (by kernel_rfl), (by kernel_rfl), (by kernel_rfl), (by kernel_rfl), (by kernel_rfl), (by kernel_rfl), (by kernel_rfl), (by kernel_rfl), (by kernel_rfl), (by kernel_rfl), trivial⟩) ?_
  rintro l ⟨hl, hs3⟩
  set_option smartUnfolding false in conv => whnf
  refine br_intro (fun h2 => ?_) (fun h2 => ?_) <;> set_option smartUnfolding false in conv => whnf
  rotate_left
  · replace h2 : cas.length ≤ l := by have := dF h2; rw [V.pvL_len] at this; omega
    rw [List.drop_of_length_le h2, argsR_nil, Bool.true_and] at hs3
    exact ⟨(j + 1, cn :: k3), ⟨by simp only; omega, hs3, hkc, hcc⟩, weak_ren [0, 1, 2] 3 (by kernel_rfl) (blk (by kernel_rfl) (blk (by kernel_rfl) (blk (by kernel_rfl) trivial))) ⟨(by kernel_rfl), (by kernel_rfl), (by kernel_rfl), (by kernel_rfl), (by kernel_rfl), (by kernel_rfl), (by kernel_rfl), (by kernel_rfl), (by kernel_rfl), (by kernel_rfl), sUp h' (by omega), trivial⟩, by show cs.length - (j + 1) < cs.length - j; omega⟩
  replace h2 : l < cas.length := by have := dT h2; rw [V.pvL_len] at this; omega
  refine V.get_elim h2 fun k' n' ts' hv hge hge2 hde => ?_
  rw [hde, argsR_cons] at hs3
  have har := arg_eq hg2 g2 (.mk k' n' ts')
  simp only at har
  have ew : (IntKind.wrap .i64 ((i : Int) + 1)).toNat = i + 1 := by rw [wrapI (by omega) (by omega)]; omega
  have hok0 := tValid_det (D.take (i + 1)) vs (.mk k' n' ts')
  have hmt := ment_det i (.mk k' n' ts')
  rw [V.pv_mk] at hok0 hmt
  have hok : Det Tryz.prog 28 [.lst 3 ((Dt.pvL D).take (IntKind.wrap .i64 ((i : Int) + 1)).toNat), V.ag k' n' ts', .int .i64 vs] (.bool (V.okW (D.take (i + 1)) vs (.mk k' n' ts'))) := by
    rw [ew, Dt.pvL_take]; exact hok0
  have hbl := boolsP_get (isSelf i vs) hge2
  refine ⟨V.ag k' n' ts', ⟨by simp, by simpa using hge⟩, ?_⟩
  set_option smartUnfolding false in conv => whnf
  refine ⟨⟨by rw [wrapI (by omega) (by omega)]; omega, by rw [wrapI (by omega) (by omega), Dt.pvL_len]; omega⟩, ?_⟩
  set_option smartUnfolding false in conv => whnf
  refine acall_det (ps := [.lst 3 ((Dt.pvL D).take (IntKind.wrap .i64 ((i : Int) + 1)).toNat), V.ag k' n' ts', .int .i64 vs]) hok ?_
  set_option smartUnfolding false in conv => whnf
  refine br_intro (fun e1 => ?_) (fun e1 => ?_) <;> set_option smartUnfolding false in conv => whnf
  · have e1 : V.okW (D.take (i + 1)) vs (.mk k' n' ts') = false := by simpa using e1
    exact rdB (by rw [← hs3, ← har, e1]; rfl)
  have e1 : V.okW (D.take (i + 1)) vs (.mk k' n' ts') = true := by simpa using e1
  refine ⟨.bool (isSelf i vs (.mk k' n' ts')), ⟨by simp, by simpa using hbl⟩, ?_⟩
  set_option smartUnfolding false in conv => whnf
  refine br_intro (fun e2 => ?_) (fun e2 => ?_) <;> set_option smartUnfolding false in conv => whnf
  · have e2 : isSelf i vs (.mk k' n' ts') = false := by simpa using e2
    refine acall_det (ps := [V.ag k' n' ts', .int .i64 i]) hmt ?_
    set_option smartUnfolding false in conv => whnf
    refine br_intro (fun e3 => ?_) (fun e3 => ?_) <;> set_option smartUnfolding false in conv => whnf
    · exact rdB (by rw [← hs3, ← har, e1, e2, e3]; rfl)
    · rw [← har, e1, e2, e3] at hs3
      simp only [Bool.not_false, Bool.false_or, Bool.true_and] at hs3
      exact ⟨l + 1, ⟨by omega, hs3⟩, weak_ren [0, 1, 2] 4 (by kernel_rfl) (blk (by kernel_rfl) (blk (by kernel_rfl) (blk (by kernel_rfl) trivial))) ⟨(by kernel_rfl), (by kernel_rfl), (by kernel_rfl), (by kernel_rfl), (by kernel_rfl), (by kernel_rfl), (by kernel_rfl), (by kernel_rfl), (by kernel_rfl), (by kernel_rfl), (by kernel_rfl), (by kernel_rfl), (by kernel_rfl), (by kernel_rfl), sUp h2 (by omega), trivial⟩, by show cas.length - (l + 1) < cas.length - l; omega⟩
  · have e2 : isSelf i vs (.mk k' n' ts') = true := by simpa using e2
    rw [← har, e1, e2] at hs3
    simp only [Bool.true_or, Bool.true_and] at hs3
    exact ⟨l + 1, ⟨by omega, hs3⟩, weak_ren [0, 1, 2] 4 (by kernel_rfl) (blk (by kernel_rfl) (blk (by kernel_rfl) (blk (by kernel_rfl) trivial))) ⟨(by kernel_rfl), (by kernel_rfl), (by kernel_rfl), (by kernel_rfl), (by kernel_rfl), (by kernel_rfl), (by kernel_rfl), (by kernel_rfl), (by kernel_rfl), (by kernel_rfl), (by kernel_rfl), (by kernel_rfl), (by kernel_rfl), (by kernel_rfl), sUp h2 (by omega), trivial⟩, by show cas.length - (l + 1) < cas.length - l; omega⟩
end Go.AM
