import Derived.Test.YtelmconnpdmjhaaGreatDoorPkJ
set_option linter.all false
set_option maxRecDepth 20000
set_option maxHeartbeats 4000000
namespace Go.AM
open Go.Proofs

/-! ### keep.Data -/
def keepCs : List Cn → Bool
  | [] => true
  | c :: l => (decide (c.name.size ≤ 40) && decide (c.args.length ≤ 8) && (V.valL c.args 20).1) && keepCs l
def keepDs : List Dt → Bool
  | [] => true
  | d :: l => (decide (d.name.size ≤ 40) && decide (d.cons.length ≤ 10) && keepCs d.cons) && keepDs l
def keepD (D : List Dt) : Bool := decide (D.length ≤ 14) && keepDs D
theorem keepCs_nil : keepCs [] = true := rfl
theorem keepCs_cons (c : Cn) (l : List Cn) : keepCs (c :: l) = ((decide (c.name.size ≤ 40) && decide (c.args.length ≤ 8) && (V.valL c.args 20).1) && keepCs l) := rfl
theorem keepDs_nil : keepDs [] = true := rfl
theorem keepDs_cons (d : Dt) (l : List Dt) : keepDs (d :: l) = ((decide (d.name.size ≤ 40) && decide (d.cons.length ≤ 10) && keepCs d.cons) && keepDs l) := rfl
attribute [irreducible] keepCs keepDs

theorem keepData_det (D : List Dt) : Det Tryz.prog 8 [.lst 3 (Dt.pvL D)] (.bool (keepD D)) := by
  generalize hR : keepD D = R
  unfold keepD at hR
  refine det_of_vc' (E := S.E 0) rfl fol Tryz.func8 rfl rfl (slots := [2]) rfl rfl fun hw => ?_
  set_option smartUnfolding false in conv => whnf
  refine br_intro (fun h0 => ?_) (fun h0 => ?_) <;> set_option smartUnfolding false in conv => whnf
  · have h0 := dT h0
    rw [Dt.pvL_len] at h0
    exact rdB (by rw [← hR, decide_eq_false (by omega)]; rfl)
  have h0 := dF h0
  rw [Dt.pvL_len] at h0
  rw [decide_eq_true (by omega), Bool.true_and] at hR
  refine vloop_intro (σ := Nat) (fun i => i ≤ D.length ∧ keepDs (D.drop i) = R) (fun i => [(13, .pv (.lst 3 (Dt.pvL D))), (14, .pv (.int .i64 (Dt.pvL D).length)), (15, .pv (.int .i64 i))]) (fun _ => []) (fun i => D.length - i) 0 ⟨by simp, by simpa using hR⟩ (weak_bare rfl ⟨(by kernel_rfl), (by kernel_rfl), (by kernel_rfl), trivial⟩) ?_
  rintro i ⟨hi, hs⟩
  set_option smartUnfolding false in conv => whnf
  refine br_intro (fun h => ?_) (fun h => ?_) <;> set_option smartUnfolding false in conv => whnf
  rotate_left
  · replace h : D.length ≤ i := by have := dF h; rw [Dt.pvL_len] at this; omega
    rw [List.drop_of_length_le h, keepDs_nil] at hs
    exact rdB hs
  replace h : i < D.length := by have := dT h; rw [Dt.pvL_len] at this; omega
  refine Dt.get_elim h fun nm vs cs hmem hg hg2 hd => ?_
  rw [hd, keepDs_cons] at hs
  simp only at hs
  refine ⟨Dt.ag nm vs cs, ⟨by omega, by simpa using hg⟩, ?_⟩
  set_option smartUnfolding false in conv => whnf
  refine br_intro (fun g => ?_) (fun g => ?_) <;> set_option smartUnfolding false in conv => whnf
  · have g := dT g
    exact rdB (by rw [← hs, decide_eq_false (by omega)]; rfl)
  have g1 := dF g
  refine br_intro (fun g => ?_) (fun g => ?_) <;> set_option smartUnfolding false in conv => whnf
  · have g := dT g
    rw [Cn.pvL_len] at g
    exact rdB (by rw [← hs, decide_eq_false (p := cs.length ≤ 10) (by omega)]; simp)
  have g2 := dF g
  rw [Cn.pvL_len] at g2
  rw [decide_eq_true (by omega), decide_eq_true (p := cs.length ≤ 10) (by omega), Bool.true_and, Bool.true_and] at hs
  refine vloop_intro (σ := Nat) (fun j => j ≤ cs.length ∧ (keepCs (cs.drop j) && keepDs (D.drop (i + 1))) = R) (fun j => [(13, .pv (.lst 3 (Dt.pvL D))), (14, .pv (.int .i64 (Dt.pvL D).length)), (15, .pv (.int .i64 i)), (30, .pv (.lst 2 (Cn.pvL cs))), (31, .pv (.int .i64 (Cn.pvL cs).length)), (32, .pv (.int .i64 j))]) (fun _ => []) (fun j => cs.length - j) 0 ⟨by simp, by simpa using hs⟩ (weak_bare rfl ⟨(by kernel_rfl), (by kernel_rfl), (by kernel_rfl), (by kernel_rfl), (by kernel_rfl), (by kernel_rfl), trivial⟩) ?_
  rintro j ⟨hj, hs2⟩
  set_option smartUnfolding false in conv => whnf
  refine br_intro (fun h' => ?_) (fun h' => ?_) <;> set_option smartUnfolding false in conv => whnf
  rotate_left
  · replace h' : cs.length ≤ j := by have := dF h'; rw [Cn.pvL_len] at this; omega
    rw [List.drop_of_length_le h', keepCs_nil, Bool.true_and] at hs2
    exact ⟨i + 1, ⟨h, hs2⟩, weak_bare rfl ⟨(by kernel_rfl), (by kernel_rfl), sUp h (by omega), trivial⟩, subUp h⟩
  replace h' : j < cs.length := by have := dT h'; rw [Cn.pvL_len] at this; omega
  refine Cn.get_elim h' fun cn cas hcm hcg hcg2 hcd => ?_
  rw [hcd, keepCs_cons] at hs2
  simp only at hs2
  refine ⟨Cn.ag cn cas, ⟨by omega, by simpa using hcg⟩, ?_⟩
  set_option smartUnfolding false in conv => whnf
  refine br_intro (fun g => ?_) (fun g => ?_) <;> set_option smartUnfolding false in conv => whnf
  · have g := dT g
    exact rdB (by rw [← hs2, decide_eq_false (by omega)]; rfl)
  have g3 := dF g
  refine br_intro (fun g => ?_) (fun g => ?_) <;> set_option smartUnfolding false in conv => whnf
  · have g := dT g
    rw [V.pvL_len] at g
    exact rdB (by rw [← hs2, decide_eq_false (p := cas.length ≤ 8) (by omega)]; simp)
  have g4 := dF g
  rw [V.pvL_len] at g4
  rw [decide_eq_true (by omega), decide_eq_true (p := cas.length ≤ 8) (by omega), Bool.true_and, Bool.true_and] at hs2
  refine vloop_intro (σ := Nat × Int) (fun x => x.1 ≤ cas.length ∧ ((V.valL (cas.drop x.1) x.2).1 && keepCs (cs.drop (j + 1)) && keepDs (D.drop (i + 1))) = R) (fun x => [(7, .bp 0 0), (13, .pv (.lst 3 (Dt.pvL D))), (14, .pv (.int .i64 (Dt.pvL D).length)), (15, .pv (.int .i64 i)), (30, .pv (.lst 2 (Cn.pvL cs))), (31, .pv (.int .i64 (Cn.pvL cs).length)), (32, .pv (.int .i64 j)), (47, .pv (.lst 3 (V.pvL cas))), (48, .pv (.int .i64 (V.pvL cas).length)), (49, .pv (.int .i64 x.1))]) (fun x => [.box 3 [.pv (.int .i64 x.2)]]) (fun x => cas.length - x.1) (0, 20) ⟨by simp, by simpa using hs2⟩ (weak_ren [1] 2 (by kernel_rfl) (blk (by kernel_rfl) trivial) ⟨(by kernel_rfl), (by kernel_rfl), (by kernel_rfl), (by kernel_rfl), (by kernel_rfl), (by kernel_rfl), (by kernel_rfl), (by kernel_rfl), (by kernel_rfl), (by kernel_rfl), trivial⟩) ?_
  rintro ⟨m, s⟩ ⟨hm, hs3⟩
  simp only at hm hs3
  set_option smartUnfolding false in conv => whnf
  refine br_intro (fun h2 => ?_) (fun h2 => ?_) <;> set_option smartUnfolding false in conv => whnf
  rotate_left
  · replace h2 : cas.length ≤ m := by have := dF h2; rw [V.pvL_len] at this; simp only at this; omega
    rw [List.drop_of_length_le h2, V.valL_nil] at hs3
    simp only [Bool.true_and] at hs3
    exact ⟨j + 1, ⟨h', hs3⟩, weak_bare rfl ⟨(by kernel_rfl), (by kernel_rfl), (by kernel_rfl), (by kernel_rfl), (by kernel_rfl), sUp h' (by omega), trivial⟩, subUp h'⟩
  replace h2 : m < cas.length := by have := dT h2; rw [V.pvL_len] at this; simp only at this; omega
  refine V.get_elim h2 fun k' n' ts' hv hge hg0 hde => ?_
  rw [hde, V.valL_cons] at hs3
  have ht := typ_hdet (.mk k' n' ts') s
  rw [V.pv_mk] at ht
  refine ⟨V.ag k' n' ts', ⟨(by first | omega | (simp only; omega)), by simpa using hge⟩, ?_⟩
  set_option smartUnfolding false in conv => whnf
  refine acall_hdet ht [0] 2 rfl rfl ⟨rfl, trivial⟩ ?_
  set_option smartUnfolding false in conv => whnf
  refine br_intro (fun g => ?_) (fun g => ?_) <;> set_option smartUnfolding false in conv => whnf
  · have g : ((V.mk k' n' ts').val s).1 = false := by simpa using g
    cases hx : (V.mk k' n' ts').val s with
    | mk b n2 =>
      rw [hx] at g hs3
      simp only at g
      subst g
      exact rdB hs3
  · have g : ((V.mk k' n' ts').val s).1 = true := by simpa using g
    cases hx : (V.mk k' n' ts').val s with
    | mk b n2 =>
      rw [hx] at g hs3
      simp only at g
      subst g
      simp only at hs3
      exact ⟨(m + 1, n2), ⟨h2, hs3⟩, weak_ren [0] 2 (by kernel_rfl) (blk (by kernel_rfl) trivial) ⟨(by kernel_rfl), (by kernel_rfl), (by kernel_rfl), (by kernel_rfl), (by kernel_rfl), (by kernel_rfl), (by kernel_rfl), (by kernel_rfl), (by kernel_rfl), sUp h2 (by omega), trivial⟩, by show cas.length - (m + 1) < cas.length - m; omega⟩

theorem keepCs_mem : ∀ {l : List Cn} {c : Cn}, keepCs l = true → c ∈ l → c.name.size ≤ 40 ∧ c.args.length ≤ 8 ∧ (V.valL c.args 20).1 = true
  | [], c, _, h => by simp at h
  | y :: l, c, h, hc => by
    rw [keepCs_cons] at h
    simp only [Bool.and_eq_true, decide_eq_true_eq] at h
    rcases List.mem_cons.1 hc with rfl | hc
    · exact ⟨h.1.1.1, h.1.1.2, h.1.2⟩
    · exact keepCs_mem h.2 hc
theorem keepDs_mem : ∀ {l : List Dt} {d : Dt}, keepDs l = true → d ∈ l → d.name.size ≤ 40 ∧ d.cons.length ≤ 10 ∧ keepCs d.cons = true
  | [], d, _, h => by simp at h
  | y :: l, d, h, hd => by
    rw [keepDs_cons] at h
    simp only [Bool.and_eq_true, decide_eq_true_eq] at h
    rcases List.mem_cons.1 hd with rfl | hd
    · exact ⟨h.1.1.1, h.1.1.2, h.1.2⟩
    · exact keepDs_mem h.2 hd
theorem keepD_ok {D : List Dt} (h : keepD D = true) : DOK D ∧ DN D := by
  unfold keepD at h
  simp only [Bool.and_eq_true, decide_eq_true_eq] at h
  refine ⟨⟨by omega, fun d hd => by have := keepDs_mem h.2 hd; omega, fun d hd c hc => ?_, fun d hd c hc a ha => ?_⟩, ⟨fun d hd => by have := keepDs_mem h.2 hd; omega, fun d hd c hc => ?_⟩⟩
  · have := keepCs_mem (keepDs_mem h.2 hd).2.2 hc; omega
  · have h3 := (keepCs_mem (keepDs_mem h.2 hd).2.2 hc).2.2
    have := (V.valL_spec c.args 20 (by omega) (by omega)).1 h3
    have := V.cnt_mem ha
    omega
  · have := keepCs_mem (keepDs_mem h.2 hd).2.2 hc; omega
end Go.AM

set_option linter.all false
set_option maxRecDepth 100000
namespace Go.AM
open Go.Proofs Go.ChangeShapes Go.WideShapes Go.ChangeAt Go.RowKit

section
variable {H : Type} {enc : TypeId × Value → H} {w : World} {held : Bool} {spare : Nat → Bool}
theorem c_ix : Tryz.prog.cellsOf 41 = 2 := by kernel_rfl
theorem c_ixkids : Tryz.prog.cellsOf 39 = 1 := by kernel_rfl

/-- A value that came in. -/
theorem trod_Ix : ∀ (fuel : Nat) (cs : List Value) (x : DataW H × List MemPlace), DataW.trod enc Tryz.prog w 0 spare held fuel 41 cs = some x → ∃ v : Ix, ElemOK w v.pv cs := by
  intro fuel
  induction fuel using Nat.strongRecOn with
  | _ fuel ih =>
    intro cs x h
    obtain ⟨xs, n, rfl, _, hl, hxs, hf⟩ := DataW.trod_struct Tryz.underlying41 h
    rw [c_ix] at hl
    have hx : xs.length = 2 := by rw [hxs]; rfl
    match cs, hl, xs, hx with
    | [c0, c2], _, [x0, x2], _ =>
      have h0 := hf 0 _ rfl
      have h2 := hf 1 _ rfl
      simp [c_kind, c_ixkids] at h0 h2
      obtain ⟨m, rfl, _⟩ := trod_int1 Tryz.underlying3 h0
      cases n with
      | zero => simp [DataW.trod] at h2
      | succ n =>
        obtain ⟨ps, hps, hpr, ho⟩ := trod_lst (Q := fun p => ∃ v : Ix, p = v.pv) Tryz.underlying39 (by rw [c_ix]; omega) h2 (fun cs y hy => by
          obtain ⟨v, hv⟩ := ih n (by omega) cs y hy
          exact ⟨v.pv, ⟨v, rfl⟩, hv⟩)
        have : ∃ ks : List Ix, ps = Ix.pvL ks := by
          clear hpr h2 h
          induction ps with
          | nil => exact ⟨[], by rw [Ix.pvL_eq]; rfl⟩
          | cons p ps ih2 =>
            obtain ⟨v, rfl⟩ := hps p (by simp)
            obtain ⟨ks, rfl⟩ := ih2 fun q hq => hps q (by simp [hq])
            exact ⟨v :: ks, by simp [Ix.pvL_eq]⟩
        obtain ⟨ks, rfl⟩ := this
        rw [c_ix] at hpr
        refine ⟨.mk m ks, .agg #[.int .i64 m, c2], ?_, rfl, ?_⟩
        · rw [Ix.pv_mk]
          simp only [Ix.ag, PR, CR]
          exact ⟨[.int .i64 m, c2], rfl, _, _, rfl, rfl, rfl, _, _, rfl, ho, by simpa only [PR] using hpr, rfl⟩
        · intro u hu
          simp only [List.mem_cons, List.not_mem_nil, or_false] at hu
          rcases hu with rfl | rfl
          · rfl
          · exact ho
end
theorem arg_Ix {H : Type} {enc : TypeId × Value → H} {w : World} {u : Value} {d : DataW H} {p : List MemPlace} {r : Reach} {base : Nat} (ho : Value.okWide Tryz.prog w r base 41 u) (h : DataW.Trod enc Tryz.prog w 0 (fun _ => true) true 41 u d p) : ∃ v : Ix, PR w NoX v.pv u := by
  obtain ⟨fuel, hf⟩ := h
  obtain ⟨v, hv⟩ := trod_Ix fuel _ _ hf
  refine ⟨v, ?_⟩
  obtain ⟨n, ks⟩ := v
  rw [Ix.pv_mk] at hv ⊢
  obtain ⟨cs, hcs, _⟩ := okWide_struct Tryz.underlying41 ho
  exact elem_agg hv ⟨cs, hcs⟩
end Go.AM

set_option linter.all false
set_option maxRecDepth 100000
set_option maxHeartbeats 4000000
namespace Go.AM
open Go.Proofs

theorem keepT_cntI {v : V} (h : (v.val 250).1 = true) : v.cnt ≤ 250 := by
  have := (V.val_spec v 250 (by omega) (by omega)).1 h; omega
theorem small15_det (D : List Dt) (t : V) : Det Tryz.prog 19 [.lst 3 (Dt.pvL D), t.pv] (.bool (keepD D && (t.val 250).1)) := by
  have k1 := keepData_det D
  have k3 := keepT_det t
  generalize keepD D = b1 at k1
  generalize (t.val 250).1 = b3 at k3
  obtain ⟨tk, tn, ts⟩ := t
  rw [V.pv_mk] at k3 ⊢
  refine det_of_vc' (E := S.E 0) rfl fol Tryz.func19 rfl rfl (slots := [4]) rfl rfl fun hw => ?_
  set_option smartUnfolding false in conv => whnf
  refine acall_det (ps := [.lst 3 (Dt.pvL D)]) k1 ?_
  set_option smartUnfolding false in conv => whnf
  refine br_intro (fun h1 => ?_) (fun h1 => ?_) <;> set_option smartUnfolding false in conv => whnf
  · refine acall_det (ps := [V.ag tk tn ts]) k3 ?_
    set_option smartUnfolding false in conv => whnf
    exact rdB (by rw [h1]; simp)
  · exact rdB (by rw [h1]; simp)
theorem indexDegrees_det (D : List Dt) (t : V) (i : Ix) : Det Tryz.prog 6 [.lst 3 (Dt.pvL D), t.pv, i.pv] (.bool true) := by
  have k1 := small15_det D t
  have k2 := keepI_det i
  have p1 := fun h : keepD D = true => iValid_det (keepD_ok h).1 (keepD_ok h).2 t i
  have p2 := fun (h : keepD D = true) (h2 : (t.val 250).1 = true) => rIValid_det (keepD_ok h).1 (keepD_ok h).2 t (by have := keepT_cntI h2; omega) i
  have p3 := fun h : keepD D = true => iDegree_det (keepD_ok h).1 (keepD_ok h).2 t i
  have p4 := fun (h : keepD D = true) (h2 : (t.val 250).1 = true) => rDegree_det (keepD_ok h).1 (keepD_ok h).2 t (by have := keepT_cntI h2; omega) i
  generalize degS D t i = d at p1 p2 p3 p4
  generalize hb : (keepD D && (t.val 250).1) = b1 at k1
  generalize (i.val 40).1 = b2 at k2
  obtain ⟨tk, tn, ts⟩ := t
  obtain ⟨n, ks⟩ := i
  rw [V.pv_mk] at k1 p1 p2 p3 p4
  rw [Ix.pv_mk] at k2 p1 p2 p3 p4
  rw [V.pv_mk, Ix.pv_mk]
  refine det_of_vc' (E := S.E 0) rfl fol Tryz.func6 rfl rfl (slots := [6]) rfl rfl fun hw => ?_
  set_option smartUnfolding false in conv => whnf
  refine acall_det (ps := [.lst 3 (Dt.pvL D), V.ag tk tn ts]) k1 ?_
  set_option smartUnfolding false in conv => whnf
  refine br_intro (fun h1 => ?_) (fun h1 => ?_) <;> set_option smartUnfolding false in conv => whnf
  · exact rdB rfl
  have h1 : b1 = true := by simpa using h1
  rw [h1] at hb
  simp only [Bool.and_eq_true] at hb
  refine acall_det (ps := [Ix.ag n ks]) k2 ?_
  set_option smartUnfolding false in conv => whnf
  refine br_intro (fun h2 => ?_) (fun h2 => ?_) <;> set_option smartUnfolding false in conv => whnf
  · exact rdB rfl
  refine acall_det (ps := [.lst 3 (Dt.pvL D), V.ag tk tn ts, Ix.ag n ks]) (p1 hb.1) ?_
  set_option smartUnfolding false in conv => whnf
  refine acall_det (ps := [.lst 3 (Dt.pvL D), V.ag tk tn ts, Ix.ag n ks]) (p2 hb.1 hb.2) ?_
  set_option smartUnfolding false in conv => whnf
  refine br_intro (fun h4 => ?_) (fun h4 => ?_) <;> set_option smartUnfolding false in conv => whnf
  · refine acall_det (ps := [.lst 3 (Dt.pvL D), V.ag tk tn ts, Ix.ag n ks]) (p3 hb.1) ?_
    set_option smartUnfolding false in conv => whnf
    refine acall_det (ps := [.lst 3 (Dt.pvL D), V.ag tk tn ts, Ix.ag n ks]) (p4 hb.1 hb.2) ?_
    set_option smartUnfolding false in conv => whnf
    refine br_intro (fun h5 => ?_) (fun h5 => ?_) <;> set_option smartUnfolding false in conv => whnf
    · refine acall_det (ps := []) awake15_det ?_
      set_option smartUnfolding false in conv => whnf
      exact rdB rfl
    · have := dF h5; exact absurd rfl this
  · simp at h4
end Go.AM
