import Derived.Test.YtfkkfgeepiopaaaGreatCorA
set_option linter.all false
set_option maxRecDepth 4000
set_option maxHeartbeats 2000000
namespace Go.AM
open Go.Proofs

theorem idxV_det (ks : List V) (g : Nat) (caps : List PV) (q : V → Bool) (hq : ∀ v ∈ ks, Det Tryz.prog g (v.pv :: caps) (.bool (q v))) :
    Det Tryz.prog 53 [.lst 3 (V.pvL ks), .fn g caps] (.int .i64 (fidx q ks 0)) := by
  refine det_of_vc' (E := S.E 0) rfl fol Tryz.func53 rfl rfl (slots := [4]) rfl rfl fun hw => ?_
  have hl : ks.length ≤ 9223372036854775807 := by have := hw.1.1; rwa [V.pvL_len] at this
  set_option smartUnfolding false in conv => whnf
  refine vloop_intro (σ := Nat) (fun i => i ≤ ks.length ∧ fidx q (ks.drop i) i = fidx q ks 0)
    (fun i => [(0, .pv (.lst 3 (V.pvL ks))), (1, .pv (.fn g caps)), (7, .pv (.int .i64 (V.pvL ks).length)), (8, .pv (.int .i64 i))])
    (fun _ => []) (fun i => ks.length - i) 0 ⟨by simp, by simp⟩ (weak_bare rfl ⟨(by kernel_rfl), (by kernel_rfl), (by kernel_rfl), (by kernel_rfl), trivial⟩) ?_
  rintro i ⟨hi, hs⟩
  set_option smartUnfolding false in conv => whnf
  refine br_intro (fun h => ?_) (fun h => ?_) <;> set_option smartUnfolding false in conv => whnf
  · replace h : i < ks.length := by have := dT h; rw [V.pvL_len] at this; simpa using this
    obtain ⟨⟨k1, n1, ks1⟩, hv, hg, _, hd⟩ := V.get_pvL h
    rw [V.pv_mk] at hg
    rw [hd, fidx_cons] at hs
    have hq1 := hq _ hv
    rw [V.pv_mk] at hq1
    refine ⟨V.ag k1 n1 ks1, ⟨by simp, by simpa using hg⟩, ?_⟩
    set_option smartUnfolding false in conv => whnf
    refine acall_det (ps := V.ag k1 n1 ks1 :: caps) hq1 ?_
    set_option smartUnfolding false in conv => whnf
    refine br_intro (fun h2 => ?_) (fun h2 => ?_) <;> set_option smartUnfolding false in conv => whnf
    · rw [if_pos h2] at hs
      exact rdI hs
    · rw [if_neg (by simp [h2])] at hs
      refine ⟨i + 1, ⟨h, hs⟩, weak_bare rfl ⟨(by kernel_rfl), (by kernel_rfl), (by kernel_rfl), sUp h hl, trivial⟩, subUp h⟩
  · replace h : ¬ i < ks.length := by have := dF h; rw [V.pvL_len] at this; simpa using this
    rw [List.drop_of_length_le (by omega), fidx_nil] at hs
    exact rdI hs

theorem hasV_det (ks : List V) (g : Nat) (caps : List PV) (q : V → Bool) (hq : ∀ v ∈ ks, Det Tryz.prog g (v.pv :: caps) (.bool (q v))) :
    Det Tryz.prog 31 [.lst 3 (V.pvL ks), .fn g caps] (.bool (ks.any q)) := by
  refine det_of_vc' (E := S.E 0) rfl fol Tryz.func31 rfl rfl (slots := [4]) rfl rfl fun hw => ?_
  set_option smartUnfolding false in conv => whnf
  refine acall_det (ps := [.lst 3 (V.pvL ks), .fn g caps]) (idxV_det ks g caps q hq) ?_
  set_option smartUnfolding false in conv => whnf
  exact rdB (fidx_any q ks 0)
theorem vnodes_det (t : V) : ∀ m : Int, 1 ≤ m → m ≤ 1000000 → Det Tryz.prog 20 [t.pv, .int .i64 m] (.int .i64 (min (t.cnt : Int) m)) := by
  refine V.recOn' (p := fun t => ∀ m : Int, 1 ≤ m → m ≤ 1000000 → Det Tryz.prog 20 [t.pv, .int .i64 m] (.int .i64 (min (t.cnt : Int) m))) (fun k n ts ih m m1 m2 => ?_) t
  rw [V.pv_mk]
  generalize hR : min ((V.mk k n ts).cnt : Int) m = R
  rw [V.cnt_mk] at hR
  refine det_of_vc' (E := S.E 0) rfl fol Tryz.func20 rfl rfl (slots := [4]) rfl rfl fun hw => ?_
  have hl := V.lenle hw.1
  set_option smartUnfolding false in conv => whnf
  refine vloop_intro (σ := Nat × Int) (fun x => x.1 ≤ ts.length ∧ min (x.2 + V.cntL (ts.drop x.1)) m = R ∧ 1 ≤ x.2 ∧ x.2 ≤ m) (fun x => [(1, .pv (.int .i64 m)), (5, .pv (.int .i64 x.2)), (9, .pv (.lst 3 (V.pvL ts))), (10, .pv (.int .i64 (V.pvL ts).length)), (11, .pv (.int .i64 x.1))])
    (fun _ => []) (fun x => ts.length - x.1) (0, 1) ⟨by simp, by simp only [List.drop_zero]; rw [← hR]; congr 1, by simp, m1⟩ (weak_bare rfl ⟨(by kernel_rfl), (by kernel_rfl), (by kernel_rfl), (by kernel_rfl), (by kernel_rfl), trivial⟩) ?_
  rintro ⟨i, s⟩ ⟨hi, hs, hs1, hs2⟩
  simp only at hi hs hs1 hs2
  set_option smartUnfolding false in conv => whnf
  refine br_intro (fun h => ?_) (fun h => ?_) <;> set_option smartUnfolding false in conv => whnf
  · replace h : i < ts.length := by have := dT h; rw [V.pvL_len] at this; simpa using this
    obtain ⟨⟨k', n', ts'⟩, hv, hg, _, hd⟩ := V.get_pvL h
    rw [V.pv_mk] at hg
    rw [hd, V.cntL_cons] at hs
    refine ⟨V.ag k' n' ts', ⟨by simp, by simpa using hg⟩, ?_⟩
    set_option smartUnfolding false in conv => whnf
    refine br_intro (fun h2 => ?_) (fun h2 => ?_) <;> set_option smartUnfolding false in conv => whnf
    · exact rdI (by have := dT h2; omega)
    · have h2 := dF h2
      have e : IntKind.wrap .i64 (m - s) = m - s := wrapI (by omega) (by omega)
      have hih := ih _ hv (m - s) (by omega) (by omega)
      rw [V.pv_mk] at hih
      rw [e]
      refine acall_det (ps := [V.ag k' n' ts', .int .i64 (m - s)]) hih ?_
      set_option smartUnfolding false in conv => whnf
      refine ⟨(i + 1, s + min ((V.mk k' n' ts').cnt : Int) (m - s)), ⟨h, ?_, ?_, ?_⟩, weak_bare rfl ⟨(by kernel_rfl), sI (wrapI (by omega) (by omega)), (by kernel_rfl), (by kernel_rfl), sUp h hl, trivial⟩, subUp h⟩
      · simp only; omega
      · simp only; omega
      · simp only; omega
  · replace h : ¬ i < ts.length := by have := dF h; rw [V.pvL_len] at this; simpa using this
    rw [List.drop_of_length_le (by omega), V.cntL_nil] at hs
    exact rdI (by split <;> omega)

theorem few_hdet (v : V) : ∀ n, HDet Tryz.prog 24 [.pv v.pv, .bp 0 0] (cnt n) (.pv (.bool (v.val n).1)) (cnt (v.val n).2) := by
  refine V.recOn' (p := fun v => ∀ n, HDet Tryz.prog 24 [.pv v.pv, .bp 0 0] (cnt n) (.pv (.bool (v.val n).1)) (cnt (v.val n).2)) (fun k m ks ih n => ?_) v
  rw [V.pv_mk]
  refine hdet_of_vc' (E := S.E 1) fol Tryz.func24 rfl rfl (slots := [4]) rfl rfl ?_ ?_ ?_ fun hw => ?_
  · exact Nat.le_refl 1
  · exact ⟨trivial, rfl, trivial⟩
  · exact pureH_get (H := cnt n) ⟨fun S => ⟨trivial, trivial⟩, trivial⟩ _
  have hl := V.lenle hw.1
  set_option smartUnfolding false in conv => whnf
  refine br_intro (fun h => ?_) (fun h => ?_) <;> set_option smartUnfolding false in conv => whnf
  · replace h := dT h
    have e : (V.mk k m ks).val n = (false, IntKind.wrap .i64 (n - 1)) := by rw [V.val_mk]; exact if_pos h
    rw [e]
    exact weak_ren [0] 2 (by kernel_rfl) (blk (by kernel_rfl) trivial) ⟨(by kernel_rfl), trivial⟩
  · replace h := dF h
    have e : (V.mk k m ks).val n = V.valL ks (IntKind.wrap .i64 (n - 1)) := by rw [V.val_mk]; exact if_neg h
    rw [e]
    refine vloop_intro (σ := Nat × Int) (fun x => x.1 ≤ ks.length ∧ V.valL (ks.drop x.1) x.2 = V.valL ks (IntKind.wrap .i64 (n - 1))) (fun x => [(1, .bp 0 0), (2, .bp 1 0), (5, .pv (.int .i64 x.1))])
      (fun x => [.box 3 [.pv (.int .i64 x.2)], .box 25 [.pv (.int .i64 k), .pv (.int .i64 m), .pv (.lst 3 (V.pvL ks))]]) (fun x => ks.length - x.1) (0, IntKind.wrap .i64 (n - 1)) (by simp) (weak_sub ⟨(by kernel_rfl), (by kernel_rfl), (by kernel_rfl), trivial⟩) ?_
    rintro ⟨i, s⟩ ⟨hi, hs⟩
    set_option smartUnfolding false in conv => whnf
    refine br_intro (fun h => ?_) (fun h => ?_)
    · replace h : i < ks.length := by have := dT h; rw [V.pvL_len] at this; simpa using this
      obtain ⟨⟨k', n', ks'⟩, hv, hg, _, hd⟩ := V.get_pvL h
      set_option smartUnfolding false in conv => whnf
      rw [V.pv_mk] at hg
      refine ⟨V.ag k' n' ks', ⟨by simp, by simpa using hg⟩, ?_⟩
      set_option smartUnfolding false in conv => whnf
      have hih := ih _ hv s
      rw [V.pv_mk] at hih
      refine acall_hdet hih [0] 2 rfl rfl ⟨rfl, trivial⟩ ?_
      set_option smartUnfolding false in conv => whnf
      rw [hd] at hs
      rw [V.valL_cons] at hs
      refine br_intro (fun h' => ?_) (fun h' => ?_) <;> set_option smartUnfolding false in conv => whnf
      · replace h' : ((V.mk k' n' ks').val s).1 = false := by simpa using h'
        cases hx : (V.mk k' n' ks').val s with
        | mk b n2 =>
          rw [hx] at hs h'
          simp only at h'
          subst h'
          simp only at hs
          rw [← hs]
          exact weak_ren [0] 2 (by kernel_rfl) (blk (by kernel_rfl) trivial) ⟨(by kernel_rfl), trivial⟩
      · replace h' : ((V.mk k' n' ks').val s).1 = true := by simpa using h'
        cases hx : (V.mk k' n' ks').val s with
        | mk b n2 =>
          rw [hx] at hs h'
          simp only at h'
          subst h'
          simp only at hs
          refine ⟨(i + 1, n2), ⟨h, hs⟩, weak_ren [0, 1] 2 (by kernel_rfl) (blk (by kernel_rfl) (blk (by kernel_rfl) trivial)) ⟨(by kernel_rfl), (by kernel_rfl), sI (by rw [wrapI] <;> simp <;> omega), trivial⟩, ?_⟩
          show ks.length - (i + 1) < ks.length - i
          omega
    · replace h : ¬ i < ks.length := by have := dF h; rw [V.pvL_len] at this; simpa using this
      set_option smartUnfolding false in conv => whnf
      rw [List.drop_of_length_le (by simpa using h)] at hs
      rw [← hs, V.valL_nil]
      exact weak_ren [0] 2 (by kernel_rfl) (blk (by kernel_rfl) trivial) ⟨(by kernel_rfl), trivial⟩


/-! ### Two lists, one by one -/
def eqL (q : V → V → Bool) : List V → List V → Bool
  | [], [] => true
  | v :: l, t :: m => q v t && eqL q l m
  | _, _ => false
theorem eqL_nil (q : V → V → Bool) : eqL q [] [] = true := rfl
theorem eqL_cons (q : V → V → Bool) (v t : V) (l m : List V) : eqL q (v :: l) (t :: m) = (q v t && eqL q l m) := rfl
theorem eqL_len (q : V → V → Bool) : ∀ l m : List V, l.length ≠ m.length → eqL q l m = false
  | [], [], h => by simp at h
  | [], _ :: _, _ => rfl
  | _ :: _, [], _ => rfl
  | v :: l, t :: m, h => by rw [eqL_cons, eqL_len q l m (by simpa using h)]; simp
attribute [irreducible] eqL
theorem eqVT_det (ks ts : List V) (g : Nat) (caps : List PV) (q : V → V → Bool) (hq : ∀ (i : Nat) v t, ks[i]? = some v → ts[i]? = some t → Det Tryz.prog g (v.pv :: t.pv :: caps) (.bool (q v t))) :
    Det Tryz.prog 50 [.lst 3 (V.pvL ks), .lst 3 (V.pvL ts), .fn g caps] (.bool (eqL q ks ts)) := by
  refine det_of_vc' (E := S.E 0) rfl fol Tryz.func50 rfl rfl (slots := [6]) rfl rfl fun hw => ?_
  have hl : ks.length ≤ 9223372036854775807 := by have := hw.1.1; rwa [V.pvL_len] at this
  set_option smartUnfolding false in conv => whnf
  refine br_intro (fun h => ?_) (fun h => ?_) <;> set_option smartUnfolding false in conv => whnf
  · have h : ¬ ks.length = ts.length := by simp [V.pvL_len] at h; omega
    exact rdB (by rw [eqL_len q ks ts h])
  have hlen : ks.length = ts.length := by simp [V.pvL_len] at h; omega
  refine vloop_intro (σ := Nat) (fun i => i ≤ ks.length ∧ eqL q (ks.drop i) (ts.drop i) = eqL q ks ts)
    (fun i => [(1, .pv (.lst 3 (V.pvL ts))), (2, .pv (.fn g caps)), (15, .pv (.lst 3 (V.pvL ks))), (16, .pv (.int .i64 (V.pvL ks).length)), (17, .pv (.int .i64 i))])
    (fun _ => []) (fun i => ks.length - i) 0 ⟨by simp, by simp⟩ (weak_bare rfl ⟨(by kernel_rfl), (by kernel_rfl), (by kernel_rfl), (by kernel_rfl), (by kernel_rfl), trivial⟩) ?_
  rintro i ⟨hi, hs⟩
  set_option smartUnfolding false in conv => whnf
  refine br_intro (fun h => ?_) (fun h => ?_) <;> set_option smartUnfolding false in conv => whnf
  · replace h : i < ks.length := by have := dT h; rw [V.pvL_len] at this; simpa using this
    refine V.get_elim h fun k1 n1 ks1 hv hg hg0 hd => ?_
    refine V.get_elim (l := ts) (i := i) (by omega) fun k2 n2 ks2 hv2 hg2 hg20 hd2 => ?_
    rw [hd, hd2, eqL_cons] at hs
    have hq1 := hq i _ _ hg0 hg20
    rw [V.pv_mk, V.pv_mk] at hq1
    refine ⟨V.ag k1 n1 ks1, ⟨by simp, by simpa using hg⟩, ?_⟩
    set_option smartUnfolding false in conv => whnf
    refine ⟨V.ag k2 n2 ks2, ⟨by simp, by simpa using hg2⟩, ?_⟩
    set_option smartUnfolding false in conv => whnf
    refine acall_det (ps := V.ag k1 n1 ks1 :: V.ag k2 n2 ks2 :: caps) hq1 ?_
    set_option smartUnfolding false in conv => whnf
    refine br_intro (fun h2 => ?_) (fun h2 => ?_) <;> set_option smartUnfolding false in conv => whnf
    · have h2 : q (.mk k1 n1 ks1) (.mk k2 n2 ks2) = false := by simpa using h2
      exact rdB (by rw [← hs, h2]; rfl)
    · have h2 : q (.mk k1 n1 ks1) (.mk k2 n2 ks2) = true := by simpa using h2
      rw [h2, Bool.true_and] at hs
      exact ⟨i + 1, ⟨h, hs⟩, weak_bare rfl ⟨(by kernel_rfl), (by kernel_rfl), (by kernel_rfl), (by kernel_rfl), sUp h hl, trivial⟩, subUp h⟩
  · replace h : ¬ i < ks.length := by have := dF h; rw [V.pvL_len] at this; simpa using this
    rw [List.drop_of_length_le (by omega), List.drop_of_length_le (by omega), eqL_nil] at hs
    exact rdB hs
end Go.AM
