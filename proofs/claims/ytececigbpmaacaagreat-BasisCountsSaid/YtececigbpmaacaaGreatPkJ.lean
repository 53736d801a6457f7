import Derived.Test.YtececigbpmaacaaGreatPkI
set_option linter.all false
set_option maxRecDepth 4000
set_option maxHeartbeats 2000000
namespace Go.AM
open Go.Proofs

theorem idxV_det (ks : List V) (g : Nat) (caps : List PV) (q : V → Bool) (hq : ∀ v ∈ ks, Det Tryz.prog g (v.pv :: caps) (.bool (q v))) :
    Det Tryz.prog 89 [.lst 3 (V.pvL ks), .fn g caps] (.int .i64 (fidx q ks 0)) := by
  refine det_of_vc' (E := S.E 0) rfl fol Tryz.func89 rfl rfl (slots := [4]) rfl rfl fun hw => ?_
  have hl : ks.length ≤ 9223372036854775807 := by have := hw.1.1; rwa [V.pvL_len] at this
  set_option smartUnfolding false in conv => whnf
  refine vloop_intro (σ := Nat) (fun i => i ≤ ks.length ∧ fidx q (ks.drop i) i = fidx q ks 0)
    (fun i => [(0, .pv (.lst 3 (V.pvL ks))), (1, .pv (.fn g caps)), (7, .pv (.int .i64 (V.pvL ks).length)), (8, .pv (.int .i64 i))])
    (fun _ => []) (fun i => ks.length - i) 0 ⟨by simp, by simp⟩ (weak_bare rfl ⟨(by kernel_rfl), (by kernel_rfl), (by kernel_rfl), (by kernel_rfl), trivial⟩) ?_
  rintro i ⟨hi, hs⟩
  set_option smartUnfolding false in conv => whnf
  refine br_intro (fun h => ?_) (fun h => ?_) <;> set_option smartUnfolding false in conv => whnf
  · replace h : i < ks.length := by have := dT h; rw [V.pvL_len] at this; simpa using this
    obtain ⟨⟨k1, n1, ks1⟩, hv, hg, _, hd⟩ := V.get_pvL h
    rw [V.pv_mk] at hg
    rw [hd, fidx_cons] at hs
    have hq1 := hq _ hv
    rw [V.pv_mk] at hq1
    refine ⟨V.ag k1 n1 ks1, ⟨by simp, by simpa using hg⟩, ?_⟩
    set_option smartUnfolding false in conv => whnf
    refine acall_det (ps := V.ag k1 n1 ks1 :: caps) hq1 ?_
    set_option smartUnfolding false in conv => whnf
    refine br_intro (fun h2 => ?_) (fun h2 => ?_) <;> set_option smartUnfolding false in conv => whnf
    · rw [if_pos h2] at hs
      exact rdI hs
    · rw [if_neg (by simp [h2])] at hs
      refine ⟨i + 1, ⟨h, hs⟩, weak_bare rfl ⟨(by kernel_rfl), (by kernel_rfl), (by kernel_rfl), sUp h hl, trivial⟩, subUp h⟩
  · replace h : ¬ i < ks.length := by have := dF h; rw [V.pvL_len] at this; simpa using this
    rw [List.drop_of_length_le (by omega), fidx_nil] at hs
    exact rdI hs

theorem hasV_det (ks : List V) (g : Nat) (caps : List PV) (q : V → Bool) (hq : ∀ v ∈ ks, Det Tryz.prog g (v.pv :: caps) (.bool (q v))) :
    Det Tryz.prog 52 [.lst 3 (V.pvL ks), .fn g caps] (.bool (ks.any q)) := by
  refine det_of_vc' (E := S.E 0) rfl fol Tryz.func52 rfl rfl (slots := [4]) rfl rfl fun hw => ?_
  set_option smartUnfolding false in conv => whnf
  refine acall_det (ps := [.lst 3 (V.pvL ks), .fn g caps]) (idxV_det ks g caps q hq) ?_
  set_option smartUnfolding false in conv => whnf
  exact rdB (fidx_any q ks 0)
theorem vnodes_det (t : V) : ∀ m : Int, 1 ≤ m → m ≤ 1000000 → Det Tryz.prog 27 [t.pv, .int .i64 m] (.int .i64 (min (t.cnt : Int) m)) := by
  refine V.recOn' (p := fun t => ∀ m : Int, 1 ≤ m → m ≤ 1000000 → Det Tryz.prog 27 [t.pv, .int .i64 m] (.int .i64 (min (t.cnt : Int) m))) (fun k n ts ih m m1 m2 => ?_) t
  rw [V.pv_mk]
  generalize hR : min ((V.mk k n ts).cnt : Int) m = R
  rw [V.cnt_mk] at hR
  refine det_of_vc' (E := S.E 0) rfl fol Tryz.func27 rfl rfl (slots := [4]) rfl rfl fun hw => ?_
  have hl := V.lenle hw.1
  set_option smartUnfolding false in conv => whnf
  refine vloop_intro (σ := Nat × Int) (fun x => x.1 ≤ ts.length ∧ min (x.2 + V.cntL (ts.drop x.1)) m = R ∧ 1 ≤ x.2 ∧ x.2 ≤ m) (fun x => [(1, .pv (.int .i64 m)), (5, .pv (.int .i64 x.2)), (9, .pv (.lst 3 (V.pvL ts))), (10, .pv (.int .i64 (V.pvL ts).length)), (11, .pv (.int .i64 x.1))])
    (fun _ => []) (fun x => ts.length - x.1) (0, 1) ⟨by simp, by simp only [List.drop_zero]; rw [← hR]; congr 1, by simp, m1⟩ (weak_bare rfl ⟨(by kernel_rfl), (by kernel_rfl), (by kernel_rfl), (by kernel_rfl), (by kernel_rfl), trivial⟩) ?_
  rintro ⟨i, s⟩ ⟨hi, hs, hs1, hs2⟩
  simp only at hi hs hs1 hs2
  set_option smartUnfolding false in conv => whnf
  refine br_intro (fun h => ?_) (fun h => ?_) <;> set_option smartUnfolding false in conv => whnf
  · replace h : i < ts.length := by have := dT h; rw [V.pvL_len] at this; simpa using this
    obtain ⟨⟨k', n', ts'⟩, hv, hg, _, hd⟩ := V.get_pvL h
    rw [V.pv_mk] at hg
    rw [hd, V.cntL_cons] at hs
    refine ⟨V.ag k' n' ts', ⟨by simp, by simpa using hg⟩, ?_⟩
    set_option smartUnfolding false in conv => whnf
    refine br_intro (fun h2 => ?_) (fun h2 => ?_) <;> set_option smartUnfolding false in conv => whnf
    · exact rdI (by have := dT h2; omega)
    · have h2 := dF h2
      have e : IntKind.wrap .i64 (m - s) = m - s := wrapI (by omega) (by omega)
      have hih := ih _ hv (m - s) (by omega) (by omega)
      rw [V.pv_mk] at hih
      rw [e]
      refine acall_det (ps := [V.ag k' n' ts', .int .i64 (m - s)]) hih ?_
      set_option smartUnfolding false in conv => whnf
      refine ⟨(i + 1, s + min ((V.mk k' n' ts').cnt : Int) (m - s)), ⟨h, ?_, ?_, ?_⟩, weak_bare rfl ⟨(by kernel_rfl), sI (wrapI (by omega) (by omega)), (by kernel_rfl), (by kernel_rfl), sUp h hl, trivial⟩, subUp h⟩
      · simp only; omega
      · simp only; omega
      · simp only; omega
  · replace h : ¬ i < ts.length := by have := dF h; rw [V.pvL_len] at this; simpa using this
    rw [List.drop_of_length_le (by omega), V.cntL_nil] at hs
    exact rdI (by split <;> omega)

theorem few_hdet (v : V) : ∀ n, HDet Tryz.prog 32 [.pv v.pv, .bp 0 0] (cnt n) (.pv (.bool (v.val n).1)) (cnt (v.val n).2) := by
  refine V.recOn' (p := fun v => ∀ n, HDet Tryz.prog 32 [.pv v.pv, .bp 0 0] (cnt n) (.pv (.bool (v.val n).1)) (cnt (v.val n).2)) (fun k m ks ih n => ?_) v
  rw [V.pv_mk]
  refine hdet_of_vc' (E := S.E 1) fol Tryz.func32 rfl rfl (slots := [4]) rfl rfl ?_ ?_ ?_ fun hw => ?_
  · exact Nat.le_refl 1
  · exact ⟨trivial, rfl, trivial⟩
  · exact pureH_get (H := cnt n) ⟨fun S => ⟨trivial, trivial⟩, trivial⟩ _
  have hl := V.lenle hw.1
  set_option smartUnfolding false in conv => whnf
  refine br_intro (fun h => ?_) (fun h => ?_) <;> set_option smartUnfolding false in conv => whnf
  · replace h := dT h
    have e : (V.mk k m ks).val n = (false, IntKind.wrap .i64 (n - 1)) := by rw [V.val_mk]; exact if_pos h
    rw [e]
    exact weak_ren [0] 2 (by kernel_rfl) (blk (by kernel_rfl) trivial) ⟨(by kernel_rfl), trivial⟩
  · replace h := dF h
    have e : (V.mk k m ks).val n = V.valL ks (IntKind.wrap .i64 (n - 1)) := by rw [V.val_mk]; exact if_neg h
    rw [e]
    refine vloop_intro (σ := Nat × Int) (fun x => x.1 ≤ ks.length ∧ V.valL (ks.drop x.1) x.2 = V.valL ks (IntKind.wrap .i64 (n - 1))) (fun x => [(1, .bp 0 0), (2, .bp 1 0), (5, .pv (.int .i64 x.1))])
      (fun x => [.box 3 [.pv (.int .i64 x.2)], .box 28 [.pv (.int .i64 k), .pv (.int .i64 m), .pv (.lst 3 (V.pvL ks))]]) (fun x => ks.length - x.1) (0, IntKind.wrap .i64 (n - 1)) (by simp) (weak_sub ⟨(by kernel_rfl), (by kernel_rfl), (by kernel_rfl), trivial⟩) ?_
    rintro ⟨i, s⟩ ⟨hi, hs⟩
    set_option smartUnfolding false in conv => whnf
    refine br_intro (fun h => ?_) (fun h => ?_)
    · replace h : i < ks.length := by have := dT h; rw [V.pvL_len] at this; simpa using this
      obtain ⟨⟨k', n', ks'⟩, hv, hg, _, hd⟩ := V.get_pvL h
      set_option smartUnfolding false in conv => whnf
      rw [V.pv_mk] at hg
      refine ⟨V.ag k' n' ks', ⟨by simp, by simpa using hg⟩, ?_⟩
      set_option smartUnfolding false in conv => whnf
      have hih := ih _ hv s
      rw [V.pv_mk] at hih
      refine acall_hdet hih [0] 2 rfl rfl ⟨rfl, trivial⟩ ?_
      set_option smartUnfolding false in conv => whnf
      rw [hd] at hs
      rw [V.valL_cons] at hs
      refine br_intro (fun h' => ?_) (fun h' => ?_) <;> set_option smartUnfolding false in conv => whnf
      · replace h' : ((V.mk k' n' ks').val s).1 = false := by simpa using h'
        cases hx : (V.mk k' n' ks').val s with
        | mk b n2 =>
          rw [hx] at hs h'
          simp only at h'
          subst h'
          simp only at hs
          rw [← hs]
          exact weak_ren [0] 2 (by kernel_rfl) (blk (by kernel_rfl) trivial) ⟨(by kernel_rfl), trivial⟩
      · replace h' : ((V.mk k' n' ks').val s).1 = true := by simpa using h'
        cases hx : (V.mk k' n' ks').val s with
        | mk b n2 =>
          rw [hx] at hs h'
          simp only at h'
          subst h'
          simp only at hs
          refine ⟨(i + 1, n2), ⟨h, hs⟩, weak_ren [0, 1] 2 (by kernel_rfl) (blk (by kernel_rfl) (blk (by kernel_rfl) trivial)) ⟨(by kernel_rfl), (by kernel_rfl), sI (by rw [wrapI] <;> simp <;> omega), trivial⟩, ?_⟩
          show ks.length - (i + 1) < ks.length - i
          omega
    · replace h : ¬ i < ks.length := by have := dF h; rw [V.pvL_len] at this; simpa using this
      set_option smartUnfolding false in conv => whnf
      rw [List.drop_of_length_le (by simpa using h)] at hs
      rw [← hs, V.valL_nil]
      exact weak_ren [0] 2 (by kernel_rfl) (blk (by kernel_rfl) trivial) ⟨(by kernel_rfl), trivial⟩


/-! ### Two lists, one by one -/
def eqL (q : V → V → Bool) : List V → List V → Bool
  | [], [] => true
  | v :: l, t :: m => q v t && eqL q l m
  | _, _ => false
theorem eqL_nil (q : V → V → Bool) : eqL q [] [] = true := rfl
theorem eqL_cons (q : V → V → Bool) (v t : V) (l m : List V) : eqL q (v :: l) (t :: m) = (q v t && eqL q l m) := rfl
theorem eqL_len (q : V → V → Bool) : ∀ l m : List V, l.length ≠ m.length → eqL q l m = false
  | [], [], h => by simp at h
  | [], _ :: _, _ => rfl
  | _ :: _, [], _ => rfl
  | v :: l, t :: m, h => by rw [eqL_cons, eqL_len q l m (by simpa using h)]; simp
attribute [irreducible] eqL
theorem eqVT_det (ks ts : List V) (g : Nat) (caps : List PV) (q : V → V → Bool) (hq : ∀ (i : Nat) v t, ks[i]? = some v → ts[i]? = some t → Det Tryz.prog g (v.pv :: t.pv :: caps) (.bool (q v t))) :
    Det Tryz.prog 86 [.lst 3 (V.pvL ks), .lst 3 (V.pvL ts), .fn g caps] (.bool (eqL q ks ts)) := by
  refine det_of_vc' (E := S.E 0) rfl fol Tryz.func86 rfl rfl (slots := [6]) rfl rfl fun hw => ?_
  have hl : ks.length ≤ 9223372036854775807 := by have := hw.1.1; rwa [V.pvL_len] at this
  set_option smartUnfolding false in conv => whnf
  refine br_intro (fun h => ?_) (fun h => ?_) <;> set_option smartUnfolding false in conv => whnf
  · have h : ¬ ks.length = ts.length := by simp [V.pvL_len] at h; omega
    exact rdB (by rw [eqL_len q ks ts h])
  have hlen : ks.length = ts.length := by simp [V.pvL_len] at h; omega
  refine vloop_intro (σ := Nat) (fun i => i ≤ ks.length ∧ eqL q (ks.drop i) (ts.drop i) = eqL q ks ts)
    (fun i => [(1, .pv (.lst 3 (V.pvL ts))), (2, .pv (.fn g caps)), (15, .pv (.lst 3 (V.pvL ks))), (16, .pv (.int .i64 (V.pvL ks).length)), (17, .pv (.int .i64 i))])
    (fun _ => []) (fun i => ks.length - i) 0 ⟨by simp, by simp⟩ (weak_bare rfl ⟨(by kernel_rfl), (by kernel_rfl), (by kernel_rfl), (by kernel_rfl), (by kernel_rfl), trivial⟩) ?_
  rintro i ⟨hi, hs⟩
  set_option smartUnfolding false in conv => whnf
  refine br_intro (fun h => ?_) (fun h => ?_) <;> set_option smartUnfolding false in conv => whnf
  · replace h : i < ks.length := by have := dT h; rw [V.pvL_len] at this; simpa using this
    refine V.get_elim h fun k1 n1 ks1 hv hg hg0 hd => ?_
    refine V.get_elim (l := ts) (i := i) (by omega) fun k2 n2 ks2 hv2 hg2 hg20 hd2 => ?_
    rw [hd, hd2, eqL_cons] at hs
    have hq1 := hq i _ _ hg0 hg20
    rw [V.pv_mk, V.pv_mk] at hq1
    refine ⟨V.ag k1 n1 ks1, ⟨by simp, by simpa using hg⟩, ?_⟩
    set_option smartUnfolding false in conv => whnf
    refine ⟨V.ag k2 n2 ks2, ⟨by simp, by simpa using hg2⟩, ?_⟩
    set_option smartUnfolding false in conv => whnf
    refine acall_det (ps := V.ag k1 n1 ks1 :: V.ag k2 n2 ks2 :: caps) hq1 ?_
    set_option smartUnfolding false in conv => whnf
    refine br_intro (fun h2 => ?_) (fun h2 => ?_) <;> set_option smartUnfolding false in conv => whnf
    · have h2 : q (.mk k1 n1 ks1) (.mk k2 n2 ks2) = false := by simpa using h2
      exact rdB (by rw [← hs, h2]; rfl)
    · have h2 : q (.mk k1 n1 ks1) (.mk k2 n2 ks2) = true := by simpa using h2
      rw [h2, Bool.true_and] at hs
      exact ⟨i + 1, ⟨h, hs⟩, weak_bare rfl ⟨(by kernel_rfl), (by kernel_rfl), (by kernel_rfl), (by kernel_rfl), sUp h hl, trivial⟩, subUp h⟩
  · replace h : ¬ i < ks.length := by have := dF h; rw [V.pvL_len] at this; simpa using this
    rw [List.drop_of_length_le (by omega), List.drop_of_length_le (by omega), eqL_nil] at hs
    exact rdB hs
end Go.AM

set_option linter.all false
set_option maxRecDepth 20000
set_option maxHeartbeats 4000000
namespace Go.AM
open Go.Proofs

theorem known_det {D : List Dt} (hD : DOK D) (hN : DN D) (t : V) : Det Tryz.prog 26 [.lst 3 (Dt.pvL D), t.pv] (.bool (known D t)) := by
  have h1 := coreValid_det hD hN
  have h2 := tValid_det D 0 t
  unfold coreP at h1
  obtain ⟨k, n, ts⟩ := t
  rw [V.pv_mk] at h2 ⊢
  unfold known
  refine det_of_vc' (E := S.E 0) rfl fol Tryz.func26 rfl rfl (slots := [4]) rfl rfl fun hw => ?_
  set_option smartUnfolding false in conv => whnf
  refine acall_det (ps := [.agg [.lst 3 (Dt.pvL D), .nils, .nils, .nils]]) h1 ?_
  set_option smartUnfolding false in conv => whnf
  refine br_intro (fun g => ?_) (fun g => ?_) <;> set_option smartUnfolding false in conv => whnf
  · refine acall_det (ps := [.lst 3 (Dt.pvL D), V.ag k n ts, .int .i64 0]) h2 ?_
    set_option smartUnfolding false in conv => whnf
    exact rdB (by rw [g]; rfl)
  · exact rdB (by rw [g]; rfl)
end Go.AM

set_option linter.all false
set_option maxRecDepth 20000
set_option maxHeartbeats 2000000
namespace Go.AM
open Go.Proofs

/-! ### The type of a value -/
def V.knd : V → Int | .mk k _ _ => k
def V.hd (t : V) : V := t.kids.headD (.mk 0 0 [])
mutual
def V.has (D : List Dt) : V → V → Bool
  | .mk k n ks, t =>
    if k = 1 then decide (t.knd = 3) && decide (n = 0) && decide ((ks.length : Int) = 0)
    else if k = 2 then decide (t.knd = 2) && (decide (n = 0) || decide (n = 1)) && decide ((ks.length : Int) = 0)
    else if k = 3 then decide (t.knd = 1) && decide (-1099511627776 ≤ n) && decide (n ≤ 1099511627776) && decide ((ks.length : Int) = 0)
    else if k = 8 then decide (t.knd = 9) && decide (0 ≤ n) && decide (n < 64) && decide ((ks.length : Int) = 0)
    else if k = 4 then decide (t.knd = 6) && decide (n = 0) && V.hasE D ks t.kids
    else if k = 5 then decide (t.knd = 5) && (match fieldsS D t n with | some fs => V.hasE D ks fs | Option.none => false)
    else if k = 6 then decide (t.knd = 7) && decide (n = 0) && decide ((ks.length : Int) ≤ 4096) && V.hasA D ks t.hd
    else if k = 7 then decide (t.knd = 8) && decide (n = 0) && V.hasE D ks t.kids
    else false
def V.hasE (D : List Dt) : List V → List V → Bool
  | v :: l, ts => match ts with
    | t :: m => V.has D v t && V.hasE D l m
    | [] => false
  | [], ts => ts.isEmpty
def V.hasA (D : List Dt) : List V → V → Bool
  | [], _ => true
  | v :: l, t => V.has D v t && V.hasA D l t
end
theorem V.has_mk (D : List Dt) (k n : Int) (ks : List V) (t : V) : V.has D (.mk k n ks) t =
    if k = 1 then decide (t.knd = 3) && decide (n = 0) && decide ((ks.length : Int) = 0)
    else if k = 2 then decide (t.knd = 2) && (decide (n = 0) || decide (n = 1)) && decide ((ks.length : Int) = 0)
    else if k = 3 then decide (t.knd = 1) && decide (-1099511627776 ≤ n) && decide (n ≤ 1099511627776) && decide ((ks.length : Int) = 0)
    else if k = 8 then decide (t.knd = 9) && decide (0 ≤ n) && decide (n < 64) && decide ((ks.length : Int) = 0)
    else if k = 4 then decide (t.knd = 6) && decide (n = 0) && V.hasE D ks t.kids
    else if k = 5 then decide (t.knd = 5) && (match fieldsS D t n with | some fs => V.hasE D ks fs | Option.none => false)
    else if k = 6 then decide (t.knd = 7) && decide (n = 0) && decide ((ks.length : Int) ≤ 4096) && V.hasA D ks t.hd
    else if k = 7 then decide (t.knd = 8) && decide (n = 0) && V.hasE D ks t.kids
    else false := by rw [V.has]
theorem V.hasE_cons (D : List Dt) (v t : V) (l m : List V) : V.hasE D (v :: l) (t :: m) = (V.has D v t && V.hasE D l m) := by rw [V.hasE]
theorem V.hasE_nil (D : List Dt) : V.hasE D [] [] = true := by simp [V.hasE]
theorem V.hasA_cons (D : List Dt) (v t : V) (l : List V) : V.hasA D (v :: l) t = (V.has D v t && V.hasA D l t) := by rw [V.hasA]
theorem V.hasA_nil (D : List Dt) (t : V) : V.hasA D [] t = true := by rw [V.hasA]
theorem V.hasE_eq (D : List Dt) : ∀ l m : List V, eqL (V.has D) l m = V.hasE D l m
  | [], [] => by rw [eqL_nil, V.hasE_nil]
  | [], t :: m => by rw [eqL_len _ _ _ (by simp), V.hasE]; rfl
  | v :: l, [] => by rw [eqL_len _ _ _ (by simp), V.hasE]
  | v :: l, t :: m => by rw [eqL_cons, V.hasE_cons, V.hasE_eq D l m]
theorem V.hasA_eq (D : List Dt) (t : V) : ∀ l : List V, (!l.any fun v => !V.has D v t) = V.hasA D l t
  | [] => by rw [V.hasA_nil]; rfl
  | v :: l => by rw [V.hasA_cons, ← V.hasA_eq D t l]; simp
attribute [irreducible] V.has V.hasE V.hasA V.hd
end Go.AM

set_option linter.all false
set_option maxRecDepth 20000
set_option maxHeartbeats 4000000
namespace Go.AM
open Go.Proofs

theorem V.has_mk2 (D : List Dt) (k n : Int) (ks : List V) (tk tn : Int) (ts : List V) : V.has D (.mk k n ks) (.mk tk tn ts) =
    if k = 1 then decide (tk = 3) && decide (n = 0) && decide ((ks.length : Int) = 0)
    else if k = 2 then decide (tk = 2) && (decide (n = 0) || decide (n = 1)) && decide ((ks.length : Int) = 0)
    else if k = 3 then decide (tk = 1) && decide (-1099511627776 ≤ n) && decide (n ≤ 1099511627776) && decide ((ks.length : Int) = 0)
    else if k = 8 then decide (tk = 9) && decide (0 ≤ n) && decide (n < 64) && decide ((ks.length : Int) = 0)
    else if k = 4 then decide (tk = 6) && decide (n = 0) && V.hasE D ks ts
    else if k = 5 then decide (tk = 5) && (match fieldsS D (.mk tk tn ts) n with | some fs => V.hasE D ks fs | Option.none => false)
    else if k = 6 then decide (tk = 7) && decide (n = 0) && decide ((ks.length : Int) ≤ 4096) && V.hasA D ks (V.hd (.mk tk tn ts))
    else if k = 7 then decide (tk = 8) && decide (n = 0) && V.hasE D ks ts
    else false := V.has_mk D k n ks (.mk tk tn ts)
theorem V.hd_one (k n : Int) (u : V) : V.hd (.mk k n [u]) = u := by unfold V.hd; rfl

theorem each1_of (D : List Dt) (v t : V) {q : Bool} (h : Det Tryz.prog 28 [.lst 3 (Dt.pvL D), v.pv, t.pv] (.bool q)) : Det Tryz.prog 87 [v.pv, t.pv, .cp [.lst 3 (Dt.pvL D)]] (.bool q) := by
  obtain ⟨k, n, ks⟩ := v
  obtain ⟨tk, tn, ts⟩ := t
  rw [V.pv_mk, V.pv_mk] at h ⊢
  refine det_of_vc' (E := S.E 0) rfl fol Tryz.func87 rfl rfl (slots := [5]) rfl rfl fun hw => ?_
  set_option smartUnfolding false in conv => whnf
  refine acall_det (ps := [.lst 3 (Dt.pvL D), V.ag k n ks, V.ag tk tn ts]) h ?_
  set_option smartUnfolding false in conv => whnf
  exact rdB rfl
theorem each_of (D : List Dt) (ks ts : List V) (hq : ∀ (i : Nat) v t, ks[i]? = some v → ts[i]? = some t → Det Tryz.prog 28 [.lst 3 (Dt.pvL D), v.pv, t.pv] (.bool (V.has D v t))) :
    Det Tryz.prog 50 [.lst 3 (Dt.pvL D), .lst 3 (V.pvL ks), .lst 3 (V.pvL ts)] (.bool (V.hasE D ks ts)) := by
  have h := eqVT_det ks ts 87 [.cp [.lst 3 (Dt.pvL D)]] (V.has D) fun i v t h1 h2 => each1_of D v t (hq i v t h1 h2)
  rw [V.hasE_eq] at h
  refine det_of_vc' (E := S.E 0) rfl fol Tryz.func50 rfl rfl (slots := [6]) rfl rfl fun hw => ?_
  set_option smartUnfolding false in conv => whnf
  refine acall_intro (adet_read (S := [0]) h (.cons (.pv _) (.cons (.pv _) (.cons (.fn (.cons (.bp (.head _) rfl (.cons (.pv _) .nil)) .nil)) .nil))) rfl) ?_
  set_option smartUnfolding false in conv => whnf
  exact rdB rfl
theorem has1_of (D : List Dt) (v u : V) (tk tn : Int) {q : Bool} (h : Det Tryz.prog 28 [.lst 3 (Dt.pvL D), v.pv, u.pv] (.bool q)) : Det Tryz.prog 53 [v.pv, .cp [.lst 3 (Dt.pvL D)], .cp [.int .i64 tk, .int .i64 tn, .lst 3 (V.pvL [u])]] (.bool (!q)) := by
  obtain ⟨k, n, ks⟩ := v
  obtain ⟨uk, un, us⟩ := u
  rw [V.pvL_cons, V.pvL_nil]
  rw [V.pv_mk, V.pv_mk] at h
  rw [V.pv_mk, V.pv_mk]
  refine det_of_vc' (E := S.E 0) rfl fol Tryz.func53 rfl rfl (slots := [4]) rfl rfl fun hw => ?_
  set_option smartUnfolding false in conv => whnf
  refine ⟨V.ag uk un us, ⟨by omega, rfl⟩, ?_⟩
  set_option smartUnfolding false in conv => whnf
  refine acall_det (ps := [.lst 3 (Dt.pvL D), V.ag k n ks, V.ag uk un us]) h ?_
  set_option smartUnfolding false in conv => whnf
  exact rdB rfl

theorem has_det {D : List Dt} (hD : DOK D) (hv : dvalid D = true) (v : V) : ∀ t, Good D t → Det Tryz.prog 28 [.lst 3 (Dt.pvL D), v.pv, t.pv] (.bool (V.has D v t)) := by
  refine V.recOn' (p := fun v => ∀ t, Good D t → Det Tryz.prog 28 [.lst 3 (Dt.pvL D), v.pv, t.pv] (.bool (V.has D v t))) (fun k n ks ih t hg => ?_) v
  obtain ⟨tk, tn, ts⟩ := t
  have hE : ∀ us : List V, (∀ u ∈ us, Good D u) → Det Tryz.prog 50 [.lst 3 (Dt.pvL D), .lst 3 (V.pvL ks), .lst 3 (V.pvL us)] (.bool (V.hasE D ks us)) := fun us hus => each_of D ks us fun i v t h1 h2 => ih v (List.mem_of_getElem? h1) t (hus t (List.mem_of_getElem? h2))
  have hF := tfields_det hD (.mk tk tn ts) (by have := hg.cnt; omega)
  have hFg : ∀ fs, fieldsS D (.mk tk tn ts) n = some fs → ∀ f ∈ fs, Good D f := fun fs hf => hg.fields hv hf
  generalize hR : V.has D (.mk k n ks) (.mk tk tn ts) = R
  rw [V.has_mk2] at hR
  rw [V.pv_mk] at hF
  rw [V.pv_mk, V.pv_mk]
  refine det_of_vc' (E := S.E 0) rfl fol Tryz.func28 rfl rfl (slots := [6]) rfl rfl fun hw => ?_
  set_option smartUnfolding false in conv => whnf
  refine br_intro (fun h1 => ?_) (fun h1 => ?_) <;> set_option smartUnfolding false in conv => whnf
  · rw [if_pos (dT h1)] at hR
    refine br_intro (fun g1 => ?_) (fun g1 => ?_) <;> set_option smartUnfolding false in conv => whnf
    · refine br_intro (fun g2 => ?_) (fun g2 => ?_) <;> set_option smartUnfolding false in conv => whnf
      · refine rdB ?_
        rw [V.pvL_len, ← hR]
        rw [g1, g2]; rfl
      · exact rdB (by rw [← hR, g2]; simp)
    · exact rdB (by rw [← hR, g1]; rfl)
  rw [if_neg (dF h1)] at hR
  refine br_intro (fun h2 => ?_) (fun h2 => ?_) <;> set_option smartUnfolding false in conv => whnf
  · rw [if_pos (dT h2)] at hR
    refine br_intro (fun g1 => ?_) (fun g1 => ?_) <;> set_option smartUnfolding false in conv => whnf
    · refine br_intro (fun g2 => ?_) (fun g2 => ?_) <;> set_option smartUnfolding false in conv => whnf
      · refine rdB ?_
        rw [V.pvL_len, ← hR]
        rw [g1, g2]; rfl
      · refine br_intro (fun g3 => ?_) (fun g3 => ?_) <;> set_option smartUnfolding false in conv => whnf
        · refine rdB ?_
          rw [V.pvL_len, ← hR]
          rw [g1, g2, g3]; rfl
        · exact rdB (by rw [← hR, g2, g3]; simp)
    · exact rdB (by rw [← hR, g1]; rfl)
  rw [if_neg (dF h2)] at hR
  refine br_intro (fun h3 => ?_) (fun h3 => ?_) <;> set_option smartUnfolding false in conv => whnf
  · rw [if_pos (dT h3)] at hR
    refine br_intro (fun g1 => ?_) (fun g1 => ?_) <;> set_option smartUnfolding false in conv => whnf
    · refine br_intro (fun g2 => ?_) (fun g2 => ?_) <;> set_option smartUnfolding false in conv => whnf
      · refine br_intro (fun g3 => ?_) (fun g3 => ?_) <;> set_option smartUnfolding false in conv => whnf
        · refine rdB ?_
          rw [V.pvL_len, ← hR]
          rw [g1, g2, g3]; rfl
        · exact rdB (by rw [← hR, g3]; simp)
      · exact rdB (by rw [← hR, g2]; simp)
    · exact rdB (by rw [← hR, g1]; rfl)
  rw [if_neg (dF h3)] at hR
  refine br_intro (fun h4 => ?_) (fun h4 => ?_) <;> set_option smartUnfolding false in conv => whnf
  · rw [if_pos (dT h4)] at hR
    refine br_intro (fun g1 => ?_) (fun g1 => ?_) <;> set_option smartUnfolding false in conv => whnf
    · refine br_intro (fun g2 => ?_) (fun g2 => ?_) <;> set_option smartUnfolding false in conv => whnf
      · refine br_intro (fun g3 => ?_) (fun g3 => ?_) <;> set_option smartUnfolding false in conv => whnf
        · refine rdB ?_
          rw [V.pvL_len, ← hR]
          rw [g1, g2, g3]; rfl
        · exact rdB (by rw [← hR, g3]; simp)
      · exact rdB (by rw [← hR, g2]; simp)
    · exact rdB (by rw [← hR, g1]; rfl)
  rw [if_neg (dF h4)] at hR
  refine br_intro (fun h5 => ?_) (fun h5 => ?_) <;> set_option smartUnfolding false in conv => whnf
  · rw [if_pos (dT h5)] at hR
    refine br_intro (fun g1 => ?_) (fun g1 => ?_) <;> set_option smartUnfolding false in conv => whnf
    · refine br_intro (fun g2 => ?_) (fun g2 => ?_) <;> set_option smartUnfolding false in conv => whnf
      · refine acall_det (ps := [.lst 3 (Dt.pvL D), .lst 3 (V.pvL ks), .lst 3 (V.pvL ts)]) (hE ts fun u hu => hg.kid hu) ?_
        set_option smartUnfolding false in conv => whnf
        exact rdB (by rw [← hR, g1, g2]; rfl)
      · exact rdB (by rw [← hR, g2]; simp)
    · exact rdB (by rw [← hR, g1]; rfl)
  rw [if_neg (dF h5)] at hR
  refine br_intro (fun h6 => ?_) (fun h6 => ?_) <;> set_option smartUnfolding false in conv => whnf
  · rw [if_pos (dT h6)] at hR
    refine br_intro (fun g1 => ?_) (fun g1 => ?_) <;> set_option smartUnfolding false in conv => whnf
    · have g1 : ¬ tk = 5 := by simpa using g1
      exact rdB (by rw [← hR, decide_eq_false g1]; rfl)
    have g1 : tk = 5 := by simpa using g1
    subst g1
    have hd := hg.decl
    rw [decide_eq_true rfl, Bool.true_and] at hR
    refine br_intro (fun g2 => ?_) (fun g2 => ?_) <;> set_option smartUnfolding false in conv => whnf
    · have g2 := dT g2
      have e : fieldsS D (.mk 5 tn ts) n = Option.none := by unfold fieldsS conOf; simp only; rw [if_neg (by omega)]
      rw [e] at hR
      exact rdB hR
    have g2 := dF g2
    refine Dt.get_elim (l := D) (i := tn.toNat) (by omega) fun nm vs cs hmem hdg hdg2 _ => ?_
    refine ⟨Dt.ag nm vs cs, ⟨by omega, hdg⟩, ?_⟩
    set_option smartUnfolding false in conv => whnf
    refine br_intro (fun g3 => ?_) (fun g3 => ?_) <;> set_option smartUnfolding false in conv => whnf
    · have g3 := dT g3
      rw [Cn.pvL_len] at g3
      have e : fieldsS D (.mk 5 tn ts) n = Option.none := by
        unfold fieldsS conOf; simp only; rw [hdg2]; simp only; rw [List.getElem?_eq_none (l := cs) (by omega)]; simp
      rw [e] at hR
      exact rdB hR
    have g3 := dF g3
    rw [Cn.pvL_len] at g3
    have hFn := hF n
    have hcl := hD.cons _ hmem
    simp only at hcl
    cases hfs : fieldsS D (.mk 5 tn ts) n with
    | none =>
      rw [hfs, optP_none] at hFn
      rw [hfs] at hR
      refine acall_det (ps := [.lst 3 (Dt.pvL D), V.ag 5 tn ts, .int .i64 n]) hFn ?_
      set_option smartUnfolding false in conv => whnf
      exact rdB hR
    | some fs =>
      rw [hfs, optP_some, List.nil_append] at hFn
      rw [hfs] at hR
      refine acall_det (ps := [.lst 3 (Dt.pvL D), V.ag 5 tn ts, .int .i64 n]) hFn ?_
      set_option smartUnfolding false in conv => whnf
      refine acall_det (ps := [.lst 3 (Dt.pvL D), .lst 3 (V.pvL ks), .lst 3 (V.pvL fs)]) (hE fs (hFg fs hfs)) ?_
      set_option smartUnfolding false in conv => whnf
      exact rdB hR
  rw [if_neg (dF h6)] at hR
  refine br_intro (fun h7 => ?_) (fun h7 => ?_) <;> set_option smartUnfolding false in conv => whnf
  · rw [if_pos (dT h7)] at hR
    refine br_intro (fun g1 => ?_) (fun g1 => ?_) <;> set_option smartUnfolding false in conv => whnf
    · have g1 : ¬ tk = 7 := by simpa using g1
      exact rdB (by rw [← hR, decide_eq_false g1]; rfl)
    have g1 : tk = 7 := by simpa using g1
    subst g1
    refine br_intro (fun g2 => ?_) (fun g2 => ?_) <;> set_option smartUnfolding false in conv => whnf
    · have g2 : ¬ n = 0 := by simpa using g2
      exact rdB (by rw [← hR, decide_eq_false g2]; simp)
    have g2 : n = 0 := by simpa using g2
    refine br_intro (fun g3 => ?_) (fun g3 => ?_) <;> set_option smartUnfolding false in conv => whnf
    · have g3 := dT g3
      rw [V.pvL_len] at g3
      exact rdB (by rw [← hR, decide_eq_false (p := (ks.length : Int) ≤ 4096) (by omega)]; simp)
    have g3 := dF g3
    rw [V.pvL_len] at g3
    rw [decide_eq_true g2, decide_eq_true (p := (ks.length : Int) ≤ 4096) (by omega), decide_eq_true rfl] at hR
    simp only [Bool.true_and] at hR
    obtain ⟨u, hu⟩ := hg.one (.inl rfl)
    have hgu : Good D u := hg.kid (by rw [hu]; simp)
    have hc := hasV_det ks 53 [.cp [.lst 3 (Dt.pvL D)], .cp [.int .i64 7, .int .i64 tn, .lst 3 (V.pvL [u])]] (fun v => !V.has D v u) fun v hvm => has1_of D v u 7 tn (ih v hvm u hgu)
    rw [hu, V.hd_one] at hR
    refine acall_intro (adet_read (S := [0, 2]) hc (.cons (.pv _) (.cons (.fn (.cons (.bp (.head _) rfl (.cons (.pv _) .nil)) (.cons (.bp (cs := [.pv (.int .i64 7), .pv (.int .i64 tn), .pv (.lst 3 (V.pvL [u]))]) (.tail _ (.head _)) (by rw [← hu]; rfl) (.cons (.pv _) (.cons (.pv _) (.cons (.pv _) .nil)))) .nil))) .nil)) rfl) ?_
    set_option smartUnfolding false in conv => whnf
    exact rdB (by rw [V.hasA_eq]; exact hR)
  rw [if_neg (dF h7)] at hR
  refine br_intro (fun h8 => ?_) (fun h8 => ?_) <;> set_option smartUnfolding false in conv => whnf
  · rw [if_pos (dT h8)] at hR
    refine br_intro (fun g1 => ?_) (fun g1 => ?_) <;> set_option smartUnfolding false in conv => whnf
    · refine br_intro (fun g2 => ?_) (fun g2 => ?_) <;> set_option smartUnfolding false in conv => whnf
      · refine acall_det (ps := [.lst 3 (Dt.pvL D), .lst 3 (V.pvL ks), .lst 3 (V.pvL ts)]) (hE ts fun u hu => hg.kid hu) ?_
        set_option smartUnfolding false in conv => whnf
        exact rdB (by rw [← hR, g1, g2]; rfl)
      · exact rdB (by rw [← hR, g2]; simp)
    · exact rdB (by rw [← hR, g1]; rfl)
  rw [if_neg (dF h8)] at hR
  exact rdB hR
end Go.AM

set_option linter.all false
set_option maxRecDepth 20000
set_option maxHeartbeats 4000000
namespace Go.AM
open Go.Proofs

/-! ### ref10.all, ref10.hasType -/
theorem rall_of (D : List Dt) (ks ts : List V) (hq : ∀ (i : Nat) v t, ks[i]? = some v → ts[i]? = some t → Det Tryz.prog 33 [.lst 3 (Dt.pvL D), v.pv, t.pv] (.bool (V.has D v t))) :
    Det Tryz.prog 59 [.lst 3 (Dt.pvL D), .lst 3 (V.pvL ks), .lst 3 (V.pvL ts)] (.bool (V.hasE D ks ts)) := by
  rw [← V.hasE_eq]
  generalize hqd : V.has D = q at hq ⊢
  refine det_of_vc' (E := S.E 0) rfl fol Tryz.func59 rfl rfl (slots := [6]) rfl rfl fun hw => ?_
  have hl : ks.length ≤ 9223372036854775807 := by have := hw.2.1.1; rwa [V.pvL_len] at this
  set_option smartUnfolding false in conv => whnf
  refine br_intro (fun h => ?_) (fun h => ?_) <;> set_option smartUnfolding false in conv => whnf
  · have h : ¬ ks.length = ts.length := by simp [V.pvL_len] at h; omega
    exact rdB (by rw [eqL_len q ks ts h])
  have hlen : ks.length = ts.length := by simp [V.pvL_len] at h; omega
  refine vloop_intro (σ := Nat) (fun i => i ≤ ks.length ∧ eqL q (ks.drop i) (ts.drop i) = eqL q ks ts)
    (fun i => [(0, .pv (.lst 3 (Dt.pvL D))), (1, .pv (.lst 3 (V.pvL ks))), (2, .pv (.lst 3 (V.pvL ts))), (7, .pv (.int .i64 i))])
    (fun _ => []) (fun i => ks.length - i) 0 ⟨by simp, by simp⟩ (weak_bare rfl ⟨(by kernel_rfl), (by kernel_rfl), (by kernel_rfl), (by kernel_rfl), trivial⟩) ?_
  rintro i ⟨hi, hs⟩
  set_option smartUnfolding false in conv => whnf
  refine br_intro (fun h => ?_) (fun h => ?_) <;> set_option smartUnfolding false in conv => whnf
  · replace h : i < ks.length := by have := dT h; rw [V.pvL_len] at this; simpa using this
    refine V.get_elim h fun k1 n1 ks1 hv hg hg0 hd => ?_
    refine V.get_elim (l := ts) (i := i) (by omega) fun k2 n2 ks2 hv2 hg2 hg20 hd2 => ?_
    rw [hd, hd2, eqL_cons] at hs
    have hq1 := hq i _ _ hg0 hg20
    rw [V.pv_mk, V.pv_mk] at hq1
    refine ⟨V.ag k1 n1 ks1, ⟨by simp, by simpa using hg⟩, ?_⟩
    set_option smartUnfolding false in conv => whnf
    refine ⟨V.ag k2 n2 ks2, ⟨by simp, by simpa using hg2⟩, ?_⟩
    set_option smartUnfolding false in conv => whnf
    refine acall_det (ps := [.lst 3 (Dt.pvL D), V.ag k1 n1 ks1, V.ag k2 n2 ks2]) hq1 ?_
    set_option smartUnfolding false in conv => whnf
    refine br_intro (fun h2 => ?_) (fun h2 => ?_) <;> set_option smartUnfolding false in conv => whnf
    · have h2 : q (.mk k1 n1 ks1) (.mk k2 n2 ks2) = false := by simpa using h2
      exact rdB (by rw [← hs, h2]; rfl)
    · have h2 : q (.mk k1 n1 ks1) (.mk k2 n2 ks2) = true := by simpa using h2
      rw [h2, Bool.true_and] at hs
      exact ⟨i + 1, ⟨h, hs⟩, weak_bare rfl ⟨(by kernel_rfl), (by kernel_rfl), (by kernel_rfl), sUp h hl, trivial⟩, subUp h⟩
  · replace h : ¬ i < ks.length := by have := dF h; rw [V.pvL_len] at this; simpa using this
    rw [List.drop_of_length_le (by omega), List.drop_of_length_le (by omega), eqL_nil] at hs
    exact rdB hs

theorem V.hasA_one (D : List Dt) (u : V) : ∀ ks : List V, ks.length = 1 → V.hasA D ks u = V.hasE D ks [u]
  | [v], _ => by rw [V.hasA_cons, V.hasE_cons, V.hasA_nil, V.hasE_nil]
theorem V.hasE_none (D : List Dt) (u : V) (ks : List V) (h : ¬ ks.length = 1) : V.hasE D ks [u] = false := by
  rw [← V.hasE_eq, eqL_len _ _ _ (by simpa using h)]
theorem V.has_t7 (D : List Dt) (k n : Int) (ks : List V) (tn : Int) (u : V) : V.has D (.mk k n ks) (.mk 7 tn [u]) = (decide (k = 6) && decide (n = 0) && decide ((ks.length : Int) ≤ 4096) && V.hasA D ks u) := by
  rw [V.has_mk2, V.hd_one]
  repeat' split
  all_goals (first | (simp_all; done) | (subst_vars; simp; done))
theorem V.has_t8 (D : List Dt) (k n : Int) (ks : List V) (tn : Int) (u : V) : V.has D (.mk k n ks) (.mk 8 tn [u]) = (decide (k = 7) && decide (n = 0) && V.hasE D ks [u]) := by
  rw [V.has_mk2, V.hd_one]
  repeat' split
  all_goals (first | (simp_all; done) | (subst_vars; simp; done))
theorem V.has_t1 (D : List Dt) (k n : Int) (ks : List V) (tn : Int) (ts : List V) : V.has D (.mk k n ks) (.mk 1 tn ts) = (decide (k = 3) && decide (-1099511627776 ≤ n) && decide (n ≤ 1099511627776) && decide ((ks.length : Int) = 0)) := by
  rw [V.has_mk2]
  repeat' split
  all_goals (first | (simp_all; done) | (subst_vars; simp; done))
theorem V.has_t2 (D : List Dt) (k n : Int) (ks : List V) (tn : Int) (ts : List V) : V.has D (.mk k n ks) (.mk 2 tn ts) = (decide (k = 2) && (decide (n = 0) || decide (n = 1)) && decide ((ks.length : Int) = 0)) := by
  rw [V.has_mk2]
  repeat' split
  all_goals (first | (simp_all; done) | (subst_vars; simp; done))
theorem V.has_t3 (D : List Dt) (k n : Int) (ks : List V) (tn : Int) (ts : List V) : V.has D (.mk k n ks) (.mk 3 tn ts) = (decide (k = 1) && decide (n = 0) && decide ((ks.length : Int) = 0)) := by
  rw [V.has_mk2]
  repeat' split
  all_goals (first | (simp_all; done) | (subst_vars; simp; done))
theorem V.has_t6 (D : List Dt) (k n : Int) (ks : List V) (tn : Int) (ts : List V) : V.has D (.mk k n ks) (.mk 6 tn ts) = (decide (k = 4) && decide (n = 0) && V.hasE D ks ts) := by
  rw [V.has_mk2]
  repeat' split
  all_goals (first | (simp_all; done) | (subst_vars; simp; done))
theorem V.has_t9 (D : List Dt) (k n : Int) (ks : List V) (tn : Int) (ts : List V) : V.has D (.mk k n ks) (.mk 9 tn ts) = (decide (k = 8) && decide (0 ≤ n) && decide (n < 64) && decide ((ks.length : Int) = 0)) := by
  rw [V.has_mk2]
  repeat' split
  all_goals (first | (simp_all; done) | (subst_vars; simp; done))
theorem V.has_t5 (D : List Dt) (k n : Int) (ks : List V) (tn : Int) (ts : List V) : V.has D (.mk k n ks) (.mk 5 tn ts) = (decide (k = 5) && (match fieldsS D (.mk 5 tn ts) n with | some fs => V.hasE D ks fs | Option.none => false)) := by
  rw [V.has_mk2]
  by_cases h5 : k = 5
  · subst h5; rfl
  · rw [decide_eq_false h5, Bool.false_and]
    repeat' split
    all_goals (first | rfl | (simp_all; done) | (subst_vars; simp; done))
theorem Good.kind {D : List Dt} {k n : Int} {ts : List V} (h : Good D (.mk k n ts)) : k = 1 ∨ k = 2 ∨ k = 3 ∨ k = 5 ∨ k = 6 ∨ k = 7 ∨ k = 8 ∨ k = 9 := by
  have h1 := h.ok
  rw [V.okT_mk] at h1
  unfold V.shape at h1
  by_cases h4 : k = 4
  · subst h4
    rw [if_neg (by omega), if_pos rfl] at h1
    simp only [Bool.and_eq_true, decide_eq_true_eq] at h1
    omega
  · apply Classical.byContradiction
    intro hn
    rw [if_neg (by omega), if_neg (by omega), if_neg (by omega), if_neg (by omega), if_neg (by omega), if_neg (by omega)] at h1
    cases h1


theorem rhas7 (D : List Dt) (k n : Int) (ks : List V) (tn uk un : Int) (us : List V) (hq : ∀ v ∈ ks, Det Tryz.prog 33 [.lst 3 (Dt.pvL D), v.pv, V.ag uk un us] (.bool (V.has D v (.mk uk un us)))) :
    Det Tryz.prog 33 [.lst 3 (Dt.pvL D), V.ag k n ks, .agg [.int .i64 7, .int .i64 tn, .lst 3 [V.ag uk un us]]] (.bool (V.has D (.mk k n ks) (.mk 7 tn [.mk uk un us]))) := by
  generalize hR : V.has D (.mk k n ks) (.mk 7 tn [.mk uk un us]) = R
  rw [V.has_t7] at hR
  refine det_of_vc' (E := S.E 0) rfl fol Tryz.func33 rfl rfl (slots := [6]) rfl rfl fun hw => ?_
  have hl := V.lenle hw.2.1
  set_option smartUnfolding false in conv => whnf
  refine br_intro (fun g1 => ?_) (fun g1 => ?_) <;> set_option smartUnfolding false in conv => whnf
  · have g1 : ¬ k = 6 := by simpa using g1
    exact rdB (by rw [← hR, decide_eq_false g1]; rfl)
  have g1 : k = 6 := by simpa using g1
  refine br_intro (fun g2 => ?_) (fun g2 => ?_) <;> set_option smartUnfolding false in conv => whnf
  · have g2 := dT g2
    rw [V.pvL_len] at g2
    exact rdB (by rw [← hR, decide_eq_false (p := (ks.length : Int) ≤ 4096) (by omega)]; simp)
  have g2 := dF g2
  rw [V.pvL_len] at g2
  refine br_intro (fun g3 => ?_) (fun g3 => ?_) <;> set_option smartUnfolding false in conv => whnf
  · have g3 : ¬ n = 0 := by simpa using g3
    exact rdB (by rw [← hR, decide_eq_false g3]; simp)
  have g3 : n = 0 := by simpa using g3
  rw [decide_eq_true g1, decide_eq_true g3, decide_eq_true (p := (ks.length : Int) ≤ 4096) (by omega), Bool.true_and, Bool.true_and, Bool.true_and] at hR
  refine vloop_intro (σ := Nat) (fun i => i ≤ ks.length ∧ V.hasA D (ks.drop i) (.mk uk un us) = R)
    (fun i => [(0, .pv (.lst 3 (Dt.pvL D))), (4, .bp 0 0), (5, .bp 1 0), (7, .pv (.int .i64 (V.pvL ks).length)), (10, .pv (.int .i64 i))])
    (fun _ => [.box 28 [.pv (.int .i64 k), .pv (.int .i64 n), .pv (.lst 3 (V.pvL ks))], .box 25 [.pv (.int .i64 7), .pv (.int .i64 tn), .pv (.lst 3 [V.ag uk un us])]]) (fun i => ks.length - i) 0 ⟨by simp, by simpa using hR⟩ (weak_sub ⟨(by kernel_rfl), (by kernel_rfl), (by kernel_rfl), (by kernel_rfl), (by kernel_rfl), trivial⟩) ?_
  rintro i ⟨hi, hs⟩
  set_option smartUnfolding false in conv => whnf
  refine br_intro (fun h => ?_) (fun h => ?_) <;> set_option smartUnfolding false in conv => whnf
  · replace h : i < ks.length := by have := dT h; rw [V.pvL_len] at this; simpa using this
    refine V.get_elim h fun k1 n1 ks1 hv hg hg0 hd => ?_
    rw [hd, V.hasA_cons] at hs
    have hq1 := hq _ hv
    rw [V.pv_mk] at hq1
    refine ⟨V.ag k1 n1 ks1, ⟨by simp, by simpa using hg⟩, ?_⟩
    set_option smartUnfolding false in conv => whnf
    refine ⟨V.ag uk un us, ⟨by omega, rfl⟩, ?_⟩
    set_option smartUnfolding false in conv => whnf
    refine acall_det (ps := [.lst 3 (Dt.pvL D), V.ag k1 n1 ks1, V.ag uk un us]) hq1 ?_
    set_option smartUnfolding false in conv => whnf
    refine br_intro (fun h2 => ?_) (fun h2 => ?_) <;> set_option smartUnfolding false in conv => whnf
    · have h2 : V.has D (.mk k1 n1 ks1) (.mk uk un us) = false := by simpa using h2
      exact rdB (by rw [← hs, h2]; rfl)
    · have h2 : V.has D (.mk k1 n1 ks1) (.mk uk un us) = true := by simpa using h2
      rw [h2, Bool.true_and] at hs
      exact ⟨i + 1, ⟨h, hs⟩, weak_sub ⟨(by kernel_rfl), (by kernel_rfl), (by kernel_rfl), (by kernel_rfl), sUp h hl, trivial⟩, subUp h⟩
  · replace h : ¬ i < ks.length := by have := dF h; rw [V.pvL_len] at this; simpa using this
    rw [List.drop_of_length_le (by omega), V.hasA_nil] at hs
    exact rdB hs

theorem rhas8 (D : List Dt) (k n : Int) (ks : List V) (tn uk un : Int) (us : List V) (hq : ∀ v ∈ ks, Det Tryz.prog 33 [.lst 3 (Dt.pvL D), v.pv, V.ag uk un us] (.bool (V.has D v (.mk uk un us)))) :
    Det Tryz.prog 33 [.lst 3 (Dt.pvL D), V.ag k n ks, .agg [.int .i64 8, .int .i64 tn, .lst 3 [V.ag uk un us]]] (.bool (V.has D (.mk k n ks) (.mk 8 tn [.mk uk un us]))) := by
  generalize hR : V.has D (.mk k n ks) (.mk 8 tn [.mk uk un us]) = R
  rw [V.has_t8] at hR
  refine det_of_vc' (E := S.E 0) rfl fol Tryz.func33 rfl rfl (slots := [6]) rfl rfl fun hw => ?_
  have hl := V.lenle hw.2.1
  set_option smartUnfolding false in conv => whnf
  refine br_intro (fun g1 => ?_) (fun g1 => ?_) <;> set_option smartUnfolding false in conv => whnf
  · have g1 : ¬ k = 7 := by simpa using g1
    exact rdB (by rw [← hR, decide_eq_false g1]; rfl)
  have g1 : k = 7 := by simpa using g1
  refine br_intro (fun g2 => ?_) (fun g2 => ?_) <;> set_option smartUnfolding false in conv => whnf
  · have g2 : ¬ ((V.pvL ks).length : Int) = 1 := by simpa using g2
    rw [V.pvL_len] at g2
    exact rdB (by rw [← hR, V.hasE_none D _ ks (by omega)]; simp)
  have g2 : ((V.pvL ks).length : Int) = 1 := by simpa using g2
  rw [V.pvL_len] at g2
  refine br_intro (fun g3 => ?_) (fun g3 => ?_) <;> set_option smartUnfolding false in conv => whnf
  · have g3 : ¬ n = 0 := by simpa using g3
    exact rdB (by rw [← hR, decide_eq_false g3]; simp)
  have g3 : n = 0 := by simpa using g3
  rw [decide_eq_true g1, decide_eq_true g3, Bool.true_and, Bool.true_and, ← V.hasA_one D _ ks (by omega)] at hR
  refine vloop_intro (σ := Nat) (fun i => i ≤ ks.length ∧ V.hasA D (ks.drop i) (.mk uk un us) = R)
    (fun i => [(0, .pv (.lst 3 (Dt.pvL D))), (4, .bp 0 0), (5, .bp 1 0), (7, .pv (.int .i64 (V.pvL ks).length)), (10, .pv (.int .i64 i))])
    (fun _ => [.box 28 [.pv (.int .i64 k), .pv (.int .i64 n), .pv (.lst 3 (V.pvL ks))], .box 25 [.pv (.int .i64 8), .pv (.int .i64 tn), .pv (.lst 3 [V.ag uk un us])]]) (fun i => ks.length - i) 0 ⟨by simp, by simpa using hR⟩ (weak_sub ⟨(by kernel_rfl), (by kernel_rfl), (by kernel_rfl), (by kernel_rfl), (by kernel_rfl), trivial⟩) ?_
  rintro i ⟨hi, hs⟩
  set_option smartUnfolding false in conv => whnf
  refine br_intro (fun h => ?_) (fun h => ?_) <;> set_option smartUnfolding false in conv => whnf
  · replace h : i < ks.length := by have := dT h; rw [V.pvL_len] at this; simpa using this
    refine V.get_elim h fun k1 n1 ks1 hv hg hg0 hd => ?_
    rw [hd, V.hasA_cons] at hs
    have hq1 := hq _ hv
    rw [V.pv_mk] at hq1
    refine ⟨V.ag k1 n1 ks1, ⟨by simp, by simpa using hg⟩, ?_⟩
    set_option smartUnfolding false in conv => whnf
    refine ⟨V.ag uk un us, ⟨by omega, rfl⟩, ?_⟩
    set_option smartUnfolding false in conv => whnf
    refine acall_det (ps := [.lst 3 (Dt.pvL D), V.ag k1 n1 ks1, V.ag uk un us]) hq1 ?_
    set_option smartUnfolding false in conv => whnf
    refine br_intro (fun h2 => ?_) (fun h2 => ?_) <;> set_option smartUnfolding false in conv => whnf
    · have h2 : V.has D (.mk k1 n1 ks1) (.mk uk un us) = false := by simpa using h2
      exact rdB (by rw [← hs, h2]; rfl)
    · have h2 : V.has D (.mk k1 n1 ks1) (.mk uk un us) = true := by simpa using h2
      rw [h2, Bool.true_and] at hs
      exact ⟨i + 1, ⟨h, hs⟩, weak_sub ⟨(by kernel_rfl), (by kernel_rfl), (by kernel_rfl), (by kernel_rfl), sUp h hl, trivial⟩, subUp h⟩
  · replace h : ¬ i < ks.length := by have := dF h; rw [V.pvL_len] at this; simpa using this
    rw [List.drop_of_length_le (by omega), V.hasA_nil] at hs
    exact rdB hs

end Go.AM

set_option linter.all false
set_option maxRecDepth 20000
set_option maxHeartbeats 4000000
namespace Go.AM
open Go.Proofs

theorem rhas1 (D : List Dt) (k n : Int) (ks : List V) (tn : Int) (ts : List V) :
    Det Tryz.prog 33 [.lst 3 (Dt.pvL D), V.ag k n ks, V.ag 1 tn ts] (.bool (V.has D (.mk k n ks) (.mk 1 tn ts))) := by
  generalize hR : V.has D (.mk k n ks) (.mk 1 tn ts) = R
  rw [V.has_t1] at hR
  refine det_of_vc' (E := S.E 0) rfl fol Tryz.func33 rfl rfl (slots := [6]) rfl rfl fun hw => ?_
  have hl := V.lenle hw.2.1
  set_option smartUnfolding false in conv => whnf
  refine br_intro (fun g1 => ?_) (fun g1 => ?_) <;> set_option smartUnfolding false in conv => whnf
  · refine br_intro (fun g2 => ?_) (fun g2 => ?_) <;> set_option smartUnfolding false in conv => whnf
    · refine br_intro (fun g3 => ?_) (fun g3 => ?_) <;> set_option smartUnfolding false in conv => whnf
      · refine rdB ?_
        rw [V.pvL_len, ← hR]
        rw [g1, g2, g3]; rfl
      · exact rdB (by rw [← hR, g3]; simp)
    · exact rdB (by rw [← hR, g2]; simp)
  · exact rdB (by rw [← hR, g1]; rfl)
theorem rhas2 (D : List Dt) (k n : Int) (ks : List V) (tn : Int) (ts : List V) :
    Det Tryz.prog 33 [.lst 3 (Dt.pvL D), V.ag k n ks, V.ag 2 tn ts] (.bool (V.has D (.mk k n ks) (.mk 2 tn ts))) := by
  generalize hR : V.has D (.mk k n ks) (.mk 2 tn ts) = R
  rw [V.has_t2] at hR
  refine det_of_vc' (E := S.E 0) rfl fol Tryz.func33 rfl rfl (slots := [6]) rfl rfl fun hw => ?_
  have hl := V.lenle hw.2.1
  set_option smartUnfolding false in conv => whnf
  refine br_intro (fun g1 => ?_) (fun g1 => ?_) <;> set_option smartUnfolding false in conv => whnf
  · refine br_intro (fun g2 => ?_) (fun g2 => ?_) <;> set_option smartUnfolding false in conv => whnf
    · refine rdB ?_
      rw [V.pvL_len, ← hR]
      rw [g1, g2]; rfl
    · refine br_intro (fun g3 => ?_) (fun g3 => ?_) <;> set_option smartUnfolding false in conv => whnf
      · refine rdB ?_
        rw [V.pvL_len, ← hR]
        rw [g1, g2, g3]; rfl
      · exact rdB (by rw [← hR, g2, g3]; simp)
  · exact rdB (by rw [← hR, g1]; rfl)
theorem rhas3 (D : List Dt) (k n : Int) (ks : List V) (tn : Int) (ts : List V) :
    Det Tryz.prog 33 [.lst 3 (Dt.pvL D), V.ag k n ks, V.ag 3 tn ts] (.bool (V.has D (.mk k n ks) (.mk 3 tn ts))) := by
  generalize hR : V.has D (.mk k n ks) (.mk 3 tn ts) = R
  rw [V.has_t3] at hR
  refine det_of_vc' (E := S.E 0) rfl fol Tryz.func33 rfl rfl (slots := [6]) rfl rfl fun hw => ?_
  have hl := V.lenle hw.2.1
  set_option smartUnfolding false in conv => whnf
  refine br_intro (fun g1 => ?_) (fun g1 => ?_) <;> set_option smartUnfolding false in conv => whnf
  · refine br_intro (fun g2 => ?_) (fun g2 => ?_) <;> set_option smartUnfolding false in conv => whnf
    · refine rdB ?_
      rw [V.pvL_len, ← hR]
      rw [g1, g2]; rfl
    · exact rdB (by rw [← hR, g2]; simp)
  · exact rdB (by rw [← hR, g1]; rfl)
theorem rhas6 (D : List Dt) (k n : Int) (ks : List V) (tn : Int) (ts : List V) (hE : Det Tryz.prog 59 [.lst 3 (Dt.pvL D), .lst 3 (V.pvL ks), .lst 3 (V.pvL ts)] (.bool (V.hasE D ks ts))) :
    Det Tryz.prog 33 [.lst 3 (Dt.pvL D), V.ag k n ks, V.ag 6 tn ts] (.bool (V.has D (.mk k n ks) (.mk 6 tn ts))) := by
  generalize hR : V.has D (.mk k n ks) (.mk 6 tn ts) = R
  rw [V.has_t6] at hR
  refine det_of_vc' (E := S.E 0) rfl fol Tryz.func33 rfl rfl (slots := [6]) rfl rfl fun hw => ?_
  have hl := V.lenle hw.2.1
  set_option smartUnfolding false in conv => whnf
  refine br_intro (fun g1 => ?_) (fun g1 => ?_) <;> set_option smartUnfolding false in conv => whnf
  · refine br_intro (fun g2 => ?_) (fun g2 => ?_) <;> set_option smartUnfolding false in conv => whnf
    · refine acall_det (ps := [.lst 3 (Dt.pvL D), .lst 3 (V.pvL ks), .lst 3 (V.pvL ts)]) hE ?_
      set_option smartUnfolding false in conv => whnf
      exact rdB (by rw [← hR, g1, g2]; rfl)
    · exact rdB (by rw [← hR, g2]; simp)
  · exact rdB (by rw [← hR, g1]; rfl)
theorem rhas9 (D : List Dt) (k n : Int) (ks : List V) (tn : Int) (ts : List V) :
    Det Tryz.prog 33 [.lst 3 (Dt.pvL D), V.ag k n ks, V.ag 9 tn ts] (.bool (V.has D (.mk k n ks) (.mk 9 tn ts))) := by
  generalize hR : V.has D (.mk k n ks) (.mk 9 tn ts) = R
  rw [V.has_t9] at hR
  refine det_of_vc' (E := S.E 0) rfl fol Tryz.func33 rfl rfl (slots := [6]) rfl rfl fun hw => ?_
  have hl := V.lenle hw.2.1
  set_option smartUnfolding false in conv => whnf
  refine br_intro (fun g1 => ?_) (fun g1 => ?_) <;> set_option smartUnfolding false in conv => whnf
  · refine br_intro (fun g2 => ?_) (fun g2 => ?_) <;> set_option smartUnfolding false in conv => whnf
    · refine br_intro (fun g3 => ?_) (fun g3 => ?_) <;> set_option smartUnfolding false in conv => whnf
      · refine rdB ?_
        rw [V.pvL_len, ← hR]
        rw [g1, g2, g3]; rfl
      · exact rdB (by rw [← hR, g3]; simp)
    · exact rdB (by rw [← hR, g2]; simp)
  · exact rdB (by rw [← hR, g1]; rfl)
theorem rhas5 {D : List Dt} (hv : dvalid D = true) (k n : Int) (ks : List V) (tn : Int) (ts : List V)
    (hF : Det Tryz.prog 60 [.lst 3 (Dt.pvL D), V.ag 5 tn ts, .int .i64 n] (optP [] (fieldsS D (.mk 5 tn ts) n)))
    (hE : ∀ fs, fieldsS D (.mk 5 tn ts) n = some fs → Det Tryz.prog 59 [.lst 3 (Dt.pvL D), .lst 3 (V.pvL ks), .lst 3 (V.pvL fs)] (.bool (V.hasE D ks fs))) :
    Det Tryz.prog 33 [.lst 3 (Dt.pvL D), V.ag k n ks, V.ag 5 tn ts] (.bool (V.has D (.mk k n ks) (.mk 5 tn ts))) := by
  generalize hR : V.has D (.mk k n ks) (.mk 5 tn ts) = R
  rw [V.has_t5] at hR
  refine det_of_vc' (E := S.E 0) rfl fol Tryz.func33 rfl rfl (slots := [6]) rfl rfl fun hw => ?_
  have hl := V.lenle hw.2.1
  set_option smartUnfolding false in conv => whnf
  refine br_intro (fun g1 => ?_) (fun g1 => ?_) <;> set_option smartUnfolding false in conv => whnf
  · have g1 : ¬ k = 5 := by simpa using g1
    exact rdB (by rw [← hR, decide_eq_false g1]; rfl)
  have g1 : k = 5 := by simpa using g1
  rw [decide_eq_true g1, Bool.true_and] at hR
  refine br_intro (fun g2 => ?_) (fun g2 => ?_) <;> set_option smartUnfolding false in conv => whnf
  · rw [conOf_big hv (.inl (dT g2))] at hR
    exact rdB hR
  refine br_intro (fun g3 => ?_) (fun g3 => ?_) <;> set_option smartUnfolding false in conv => whnf
  · rw [conOf_big hv (.inr (dT g3))] at hR
    exact rdB hR
  cases hfs : fieldsS D (.mk 5 tn ts) n with
  | none =>
    rw [hfs, optP_none] at hF
    rw [hfs] at hR
    refine acall_det (ps := [.lst 3 (Dt.pvL D), V.ag 5 tn ts, .int .i64 n]) hF ?_
    set_option smartUnfolding false in conv => whnf
    exact rdB hR
  | some fs =>
    rw [hfs, optP_some, List.nil_append] at hF
    rw [hfs] at hR
    refine acall_det (ps := [.lst 3 (Dt.pvL D), V.ag 5 tn ts, .int .i64 n]) hF ?_
    set_option smartUnfolding false in conv => whnf
    refine acall_det (ps := [.lst 3 (Dt.pvL D), .lst 3 (V.pvL ks), .lst 3 (V.pvL fs)]) (hE fs hfs) ?_
    set_option smartUnfolding false in conv => whnf
    exact rdB hR

theorem rhas_det {D : List Dt} (hD : DOK D) (hv : dvalid D = true) (v : V) : ∀ t, Good D t → Det Tryz.prog 33 [.lst 3 (Dt.pvL D), v.pv, t.pv] (.bool (V.has D v t)) := by
  refine V.recOn' (p := fun v => ∀ t, Good D t → Det Tryz.prog 33 [.lst 3 (Dt.pvL D), v.pv, t.pv] (.bool (V.has D v t))) (fun k n ks ih t hg => ?_) v
  obtain ⟨tk, tn, ts⟩ := t
  have hE : ∀ us : List V, (∀ u ∈ us, Good D u) → Det Tryz.prog 59 [.lst 3 (Dt.pvL D), .lst 3 (V.pvL ks), .lst 3 (V.pvL us)] (.bool (V.hasE D ks us)) := fun us hus => rall_of D ks us fun i v t h1 h2 => ih v (List.mem_of_getElem? h1) t (hus t (List.mem_of_getElem? h2))
  have hF := rfields_det hD (.mk tk tn ts) (by have := hg.cnt; omega)
  have hFg : ∀ fs, fieldsS D (.mk tk tn ts) n = some fs → ∀ f ∈ fs, Good D f := fun fs hf => hg.fields hv hf
  rw [V.pv_mk] at hF
  rw [V.pv_mk, V.pv_mk]
  rcases hg.kind with rfl | rfl | rfl | rfl | rfl | rfl | rfl | rfl
  · exact rhas1 D k n ks tn ts
  · exact rhas2 D k n ks tn ts
  · exact rhas3 D k n ks tn ts
  · exact rhas5 hv k n ks tn ts (hF n) fun fs hfs => hE fs (hFg fs hfs)
  · exact rhas6 D k n ks tn ts (hE ts fun u hu => hg.kid hu)
  · obtain ⟨u, rfl⟩ := hg.one (.inl rfl)
    have hgu : Good D u := hg.kid (by simp)
    obtain ⟨uk, un, us⟩ := u
    have h := rhas7 D k n ks tn uk un us fun v hvm => by have := ih v hvm _ hgu; rwa [V.pv_mk (k := uk)] at this
    have e : V.pvL [V.mk uk un us] = [V.ag uk un us] := by rw [V.pvL_cons, V.pvL_nil, V.pv_mk]
    rw [← e] at h
    exact h
  · obtain ⟨u, rfl⟩ := hg.one (.inr rfl)
    have hgu : Good D u := hg.kid (by simp)
    obtain ⟨uk, un, us⟩ := u
    have h := rhas8 D k n ks tn uk un us fun v hvm => by have := ih v hvm _ hgu; rwa [V.pv_mk (k := uk)] at this
    have e : V.pvL [V.mk uk un us] = [V.ag uk un us] := by rw [V.pvL_cons, V.pvL_nil, V.pv_mk]
    rw [← e] at h
    exact h
  · exact rhas9 D k n ks tn ts

/-! ### Both HasType -/
theorem wrap_dec' {n : Int} (h1 : -1000000 ≤ n) (h2 : n ≤ 1000000) : IntKind.wrap .i64 (n - 1) = n - 1 := wrapI (by omega) (by omega)
mutual
theorem V.val_iff : ∀ (v : V) (n : Int), 0 ≤ n → n ≤ 100000 → (V.val v n).1 = decide ((v.cnt : Int) ≤ n) ∧ ((V.val v n).1 = true → (V.val v n).2 = n - v.cnt)
  | .mk k m ks, n, h0, h1 => by
    rw [V.val_mk, wrap_dec' (by omega) (by omega), V.cnt_mk]
    by_cases h : n - 1 < 0
    · rw [if_pos h]
      exact ⟨by rw [decide_eq_false (by omega)], fun h => by cases h⟩
    · rw [if_neg h]
      have := V.valL_iff ks (n - 1) (by omega) (by omega)
      refine ⟨by rw [this.1]; exact decide_eq_decide.2 (by omega), fun h' => by rw [this.2 h']; omega⟩
theorem V.valL_iff : ∀ (l : List V) (n : Int), 0 ≤ n → n ≤ 100000 → (V.valL l n).1 = decide ((V.cntL l : Int) ≤ n) ∧ ((V.valL l n).1 = true → (V.valL l n).2 = n - V.cntL l)
  | [], n, h0, h1 => by rw [V.valL_nil, V.cntL_nil]; exact ⟨by rw [decide_eq_true (by omega)], fun _ => by simp⟩
  | v :: l, n, h0, h1 => by
    rw [V.valL_cons, V.cntL_cons]
    have hv := V.val_iff v n h0 h1
    have hp := V.cnt_pos v
    cases hx : V.val v n with
    | mk b n' =>
      rw [hx] at hv
      cases b with
      | false =>
        simp only at hv ⊢
        have := of_decide_eq_false hv.1.symm
        exact ⟨by rw [decide_eq_false (by omega)], fun h => by cases h⟩
      | true =>
        simp only at hv ⊢
        have h1' := of_decide_eq_true hv.1.symm
        have e := hv.2 trivial
        subst e
        have := V.valL_iff l (n - v.cnt) (by omega) (by omega)
        exact ⟨by rw [this.1]; exact decide_eq_decide.2 (by omega), fun h' => by rw [this.2 h']; omega⟩
end

/-- What both answer. -/
noncomputable def hasS (D : List Dt) (v t : V) : Bool := known D t && decide (v.cnt ≤ 5000) && V.has D v t
theorem hasType_det {D : List Dt} (hD : DOK D) (hN : DN D) (v t : V) : Det Tryz.prog 13 [.lst 3 (Dt.pvL D), v.pv, t.pv] (.bool (hasS D v t)) := by
  have h1 := known_det hD hN t
  have h2 := vnodes_det v 5001 (by omega) (by omega)
  have h3 : known D t = true → Det Tryz.prog 28 [.lst 3 (Dt.pvL D), v.pv, t.pv] (.bool (V.has D v t)) := fun h => has_det hD (known_good h).1 v t (known_good h).2
  have hc : decide (min (v.cnt : Int) 5001 ≤ 5000) = decide (v.cnt ≤ 5000) := decide_eq_decide.2 (by omega)
  generalize hm : min (v.cnt : Int) 5001 = m at h2 hc
  generalize hR : hasS D v t = R
  unfold hasS at hR
  rw [← hc] at hR
  generalize V.has D v t = q at h3 hR
  generalize hkk : known D t = kk at h1 h3 hR
  obtain ⟨k, n, ks⟩ := v
  obtain ⟨tk, tn, ts⟩ := t
  rw [V.pv_mk] at h1 h2 h3
  rw [V.pv_mk] at h3
  rw [V.pv_mk, V.pv_mk]
  refine det_of_vc' (E := S.E 0) rfl fol Tryz.func13 rfl rfl (slots := [6]) rfl rfl fun hw => ?_
  set_option smartUnfolding false in conv => whnf
  refine acall_det (ps := [.lst 3 (Dt.pvL D), V.ag tk tn ts]) h1 ?_
  set_option smartUnfolding false in conv => whnf
  refine br_intro (fun g => ?_) (fun g => ?_) <;> set_option smartUnfolding false in conv => whnf
  · refine acall_det (ps := [V.ag k n ks, .int .i64 5001]) h2 ?_
    set_option smartUnfolding false in conv => whnf
    refine br_intro (fun g2 => ?_) (fun g2 => ?_) <;> set_option smartUnfolding false in conv => whnf
    · refine acall_det (ps := [.lst 3 (Dt.pvL D), V.ag k n ks, V.ag tk tn ts]) (h3 g) ?_
      set_option smartUnfolding false in conv => whnf
      exact rdB (by rw [← hR, g, g2]; rfl)
    · exact rdB (by rw [← hR, g2]; simp)
  · exact rdB (by rw [← hR, g]; rfl)
theorem rhasType_det {D : List Dt} (hD : DOK D) (hN : DN D) (v t : V) (ht : t.cnt ≤ 1000000) : Det Tryz.prog 17 [.lst 3 (Dt.pvL D), v.pv, t.pv] (.bool (hasS D v t)) := by
  have h1 := validData_r hD hN
  have h2 := rValid_det D 0 t ht
  have h4 := few_hdet v 5000
  have h3 : known D t = true → Det Tryz.prog 33 [.lst 3 (Dt.pvL D), v.pv, t.pv] (.bool (V.has D v t)) := fun h => rhas_det hD (known_good h).1 v t (known_good h).2
  have hc : (V.val v 5000).1 = decide (v.cnt ≤ 5000) := by rw [(V.val_iff v 5000 (by omega) (by omega)).1]; exact decide_eq_decide.2 (by omega)
  generalize hR : hasS D v t = R
  unfold hasS at hR
  rw [← hc] at hR
  generalize V.has D v t = q at h3 hR
  unfold known at h3 hR
  generalize dvalid D = dv at h1 h3 hR
  generalize V.okW D 0 t = ow at h2 h3 hR
  generalize V.val v 5000 = vv at h4 hR
  obtain ⟨k, n, ks⟩ := v
  obtain ⟨tk, tn, ts⟩ := t
  rw [V.pv_mk] at h2 h3 h4
  rw [V.pv_mk] at h3
  rw [V.pv_mk, V.pv_mk]
  refine det_of_vc' (E := S.E 0) rfl fol Tryz.func17 rfl rfl (slots := [6]) rfl rfl fun hw => ?_
  set_option smartUnfolding false in conv => whnf
  refine acall_det (ps := [.lst 3 (Dt.pvL D)]) h1 ?_
  set_option smartUnfolding false in conv => whnf
  refine br_intro (fun g => ?_) (fun g => ?_) <;> set_option smartUnfolding false in conv => whnf
  · refine acall_det (ps := [.lst 3 (Dt.pvL D), V.ag tk tn ts, .int .i64 0]) h2 ?_
    set_option smartUnfolding false in conv => whnf
    refine br_intro (fun g2 => ?_) (fun g2 => ?_) <;> set_option smartUnfolding false in conv => whnf
    · refine acall_hdet h4 [2] 3 rfl rfl ⟨rfl, trivial⟩ ?_
      set_option smartUnfolding false in conv => whnf
      refine br_intro (fun g3 => ?_) (fun g3 => ?_) <;> set_option smartUnfolding false in conv => whnf
      · refine acall_det (ps := [.lst 3 (Dt.pvL D), V.ag k n ks, V.ag tk tn ts]) (h3 (by rw [g, g2]; rfl)) ?_
        set_option smartUnfolding false in conv => whnf
        exact rdB (by rw [← hR, g, g2, g3]; rfl)
      · exact rdB (by rw [← hR, g3]; simp)
    · exact rdB (by rw [← hR, g2]; simp)
  · exact rdB (by rw [← hR, g]; rfl)
end Go.AM

set_option linter.all false
set_option maxRecDepth 20000
set_option maxHeartbeats 4000000
namespace Go.AM
open Go.Proofs

/-! ### The nodes of a value of a data type -/
mutual
def V.pre (D : List Dt) (d : Int) : V → List V
  | .mk k n ks => .mk k n ks :: V.preL D d ks (recS D d n)
def V.preL (D : List Dt) (d : Int) : List V → List Bool → List V
  | [], _ => []
  | v :: l, bs => match bs with
    | b :: bs => (if b then V.pre D d v else []) ++ V.preL D d l bs
    | [] => []
end
theorem V.pre_mk (D : List Dt) (d k n : Int) (ks : List V) : V.pre D d (.mk k n ks) = .mk k n ks :: V.preL D d ks (recS D d n) := by rw [V.pre]
theorem V.preL_nil (D : List Dt) (d : Int) (bs : List Bool) : V.preL D d [] bs = [] := by rw [V.preL]
theorem V.preL_cons (D : List Dt) (d : Int) (v : V) (l : List V) (b : Bool) (bs : List Bool) : V.preL D d (v :: l) (b :: bs) = (if b then V.pre D d v else []) ++ V.preL D d l bs := by rw [V.preL]
mutual
theorem V.pre_len (D : List Dt) (d : Int) : ∀ v : V, (V.pre D d v).length ≤ v.cnt
  | .mk k n ks => by
    rw [V.pre_mk, V.cnt_mk, List.length_cons]
    have := V.preL_len D d ks (recS D d n); omega
theorem V.preL_len (D : List Dt) (d : Int) : ∀ (l : List V) (bs : List Bool), (V.preL D d l bs).length ≤ V.cntL l
  | [], bs => by rw [V.preL_nil]; simp
  | v :: l, [] => by rw [V.preL]; simp
  | v :: l, b :: bs => by
    rw [V.preL_cons, V.cntL_cons, List.length_append]
    have h1 := V.pre_len D d v
    have h2 := V.preL_len D d l bs
    cases b <;> simp <;> omega
end
attribute [irreducible] V.pre V.preL
theorem V.hasE_get {D : List Dt} : ∀ {ks fs : List V}, V.hasE D ks fs = true → ks.length = fs.length ∧ ∀ (i : Nat) v f, ks[i]? = some v → fs[i]? = some f → V.has D v f = true
  | [], [], _ => ⟨rfl, by simp⟩
  | [], f :: fs, h => by rw [← V.hasE_eq, eqL_len _ _ _ (by simp)] at h; cases h
  | v :: ks, [], h => by rw [← V.hasE_eq, eqL_len _ _ _ (by simp)] at h; cases h
  | v :: ks, f :: fs, h => by
    rw [V.hasE_cons, Bool.and_eq_true] at h
    have := V.hasE_get h.2
    refine ⟨by simp [this.1], fun i v' f' h1 h2 => ?_⟩
    cases i with
    | zero => simp at h1 h2; subst h1; subst h2; exact h.1
    | succ i => exact this.2 i v' f' (by simpa using h1) (by simpa using h2)
/-- The recursive arguments of a value of a data type are such values. -/
theorem has_rec {D : List Dt} {k n d : Int} {ks ts : List V} (h : V.has D (.mk k n ks) (.mk 5 d ts) = true) : (recS D d n).length = ks.length ∧ ∀ (i : Nat) v, ks[i]? = some v → (recS D d n)[i]? = some true → V.has D v (.mk 5 d ts) = true := by
  rw [V.has_t5, Bool.and_eq_true] at h
  have h := h.2
  cases hf : fieldsS D (.mk 5 d ts) n with
  | none => rw [hf] at h; cases h
  | some fs =>
    rw [hf] at h
    have hE := V.hasE_get h
    unfold fieldsS at hf
    cases hc : conOf D (.mk 5 d ts) n with
    | none => rw [hc] at hf; cases hf
    | some c =>
      rw [hc] at hf
      have hf := flds_map (ts := ts) hf
      unfold conOf at hc
      simp only at hc
      by_cases hk : True ∧ 0 ≤ d ∧ 0 ≤ n
      · rw [if_pos hk] at hc
        cases hx : D[d.toNat]? with
        | none => rw [hx] at hc; cases hc
        | some x =>
          rw [hx] at hc
          simp only at hc
          by_cases hl : (ts.length : Int) = x.vars
          · rw [if_pos hl] at hc
            have er : recS D d n = c.args.map (isSelf d x.vars) := by
              unfold recS conAt
              rw [if_pos ⟨hk.2.1, hk.2.2⟩, hx]
              simp only [hc]
            rw [er]
            refine ⟨by rw [List.length_map, hE.1, hf, List.length_map], fun i v h1 h2 => ?_⟩
            rw [List.getElem?_map] at h2
            cases ha : c.args[i]? with
            | none => rw [ha] at h2; cases h2
            | some a =>
              rw [ha] at h2
              have hs : isSelf d x.vars a = true := by simpa using h2
              rw [← hl] at hs
              refine hE.2 i v _ h1 ?_
              rw [hf, List.getElem?_map, ha, Option.map_some, sub_self hs]
          · rw [if_neg hl] at hc; cases hc
      · rw [if_neg hk] at hc; cases hc

/-! ### Rows -/
theorem sRow {ρ : Nat → Nat} {k0 k n n' : Nat} (h : ρ k0 = k) (e : n = n') : some (AV.row k n) = some (renA ρ (.row k0 n')) := by subst h; subst e; rfl
theorem blkR_row {ρ : Nat → Nat} {H : Heap} {k t sz : Nat} {xs : List AV} {ps : List PV} {l : Heap} (h : hget H (ρ k) = .row t sz xs) (e : xs = pvs ps) (hl : BlkR ρ H (k + 1) l) : BlkR ρ H k (.row t sz (pvs ps) :: l) := by
  refine ⟨?_, hl⟩
  show renB ρ (.row t sz (pvs ps)) = _
  rw [h, e]
  simp only [renB, renL_pvs]
theorem app_any {ps : List PV} {y : PV} {n : Nat} (hn : n = ps.length) : appL n (pvs ps) 1 [.pv y] = pvs (ps ++ [y]) := by
  subst hn
  simp only [appL, pvs_map, List.map_append, List.map_cons, List.map_nil, List.take_succ_cons, List.take_nil]
  rw [List.take_of_length_le (by simp)]

end Go.AM

set_option linter.all false
set_option maxRecDepth 20000
set_option maxHeartbeats 4000000
namespace Go.AM
open Go.Proofs

/-- The rest of a preorder. -/
def restP (D : List Dt) (d n : Int) (ks : List V) (i : Nat) : List PV := V.pvL (V.preL D d (ks.drop i) ((recS D d n).drop i))
theorem restP_end (D : List Dt) (d n : Int) (ks : List V) (i : Nat) (h : ks.length ≤ i) : restP D d n ks i = [] := by
  unfold restP; rw [List.drop_of_length_le h, V.preL_nil, V.pvL_nil]
theorem pvL_app (l m : List V) : V.pvL (l ++ m) = V.pvL l ++ V.pvL m := by simp [V.pvL_eq]
theorem restP_step {D : List Dt} {d n : Int} {ks : List V} {i : Nat} {v : V} {b : Bool} (hd : ks.drop i = v :: ks.drop (i + 1)) (hb : (recS D d n).drop i = b :: (recS D d n).drop (i + 1)) :
    restP D d n ks i = (if b then V.pvL (V.pre D d v) else []) ++ restP D d n ks (i + 1) := by
  unfold restP
  rw [hd, hb, V.preL_cons, pvL_app]
  cases b <;> simp [V.pvL_nil]
theorem restP_zero (D : List Dt) (d k n : Int) (ks : List V) : V.pvL (V.pre D d (.mk k n ks)) = V.ag k n ks :: restP D d n ks 0 := by
  rw [V.pre_mk, V.pvL_cons, V.pv_mk]; unfold restP; simp
attribute [irreducible] restP
theorem cnt_drop {l : List V} {i : Nat} {v : V} (h : l.drop i = v :: l.drop (i + 1)) : V.cntL (l.drop i) = v.cnt + V.cntL (l.drop (i + 1)) := by rw [h, V.cntL_cons]

theorem eqRow {Hc : Heap} {ρ : Nat → Nat} {k t sz : Nat} {ps : List PV} (h : hget Hc k = .row t sz (pvs ps)) : hget Hc k = renB ρ (.row t sz (pvs ps)) := by
  rw [h]; simp only [renB, renL_pvs]
/-- What both Preorder answer. -/
noncomputable def preS (D : List Dt) (v : V) : V → List V
  | .mk tk tn ts => if tk = 5 ∧ hasS D v (.mk tk tn ts) = true then V.pre D tn v else []
theorem preS_no {D : List Dt} {v : V} {tk tn : Int} {ts : List V} (h : ¬ (tk = 5 ∧ hasS D v (.mk tk tn ts) = true)) : preS D v (.mk tk tn ts) = [] := by show (if _ then _ else _) = _; rw [if_neg h]
theorem preS_yes {D : List Dt} {v : V} {tn : Int} {ts : List V} (h : hasS D v (.mk 5 tn ts) = true) : preS D v (.mk 5 tn ts) = V.pre D tn v := by show (if _ then _ else _) = _; rw [if_pos ⟨rfl, h⟩]
theorem hasS_has {D : List Dt} {v t : V} (h : hasS D v t = true) : V.has D v t = true ∧ v.cnt ≤ 5000 := by
  unfold hasS at h
  simp only [Bool.and_eq_true, decide_eq_true_eq] at h
  exact ⟨h.2, h.1.2⟩
end Go.AM

set_option linter.all false
set_option maxRecDepth 20000
set_option maxHeartbeats 4000000
namespace Go.AM
open Go.Proofs

theorem rpre_of {D : List Dt} (hD : DOK D) (d : Int) (v : V) : ∀ ts : List V, V.has D v (.mk 5 d ts) = true → ∀ ps : List PV, ps.length + v.cnt ≤ 1000000 →
    HDet Tryz.prog 34 [.pv (.lst 3 (Dt.pvL D)), .pv v.pv, .pv (.int .i64 d), .row 0 ps.length] [.row 28 3 (pvs ps)] (.row 1 (ps ++ V.pvL (V.pre D d v)).length) [.dead, .row 28 3 (pvs (ps ++ V.pvL (V.pre D d v)))] := by
  refine V.recOn' (p := fun v => ∀ ts : List V, V.has D v (.mk 5 d ts) = true → ∀ ps : List PV, ps.length + v.cnt ≤ 1000000 →
    HDet Tryz.prog 34 [.pv (.lst 3 (Dt.pvL D)), .pv v.pv, .pv (.int .i64 d), .row 0 ps.length] [.row 28 3 (pvs ps)] (.row 1 (ps ++ V.pvL (V.pre D d v)).length) [.dead, .row 28 3 (pvs (ps ++ V.pvL (V.pre D d v)))]) (fun k n ks ih ts hh ps hps => ?_) v
  have hr := has_rec hh
  have hrl := hr.1
  have hk := fun (i : Nat) v (h1 : ks[i]? = some v) h2 => ih v (List.mem_of_getElem? h1) ts (hr.2 i v h1 h2)
  clear ih hr hh
  rw [V.cnt_mk] at hps
  have hlc := V.len_cntL ks
  generalize htot : ps ++ V.pvL (V.pre D d (.mk k n ks)) = total
  rw [restP_zero, ← List.singleton_append, ← List.append_assoc] at htot
  rw [V.pv_mk]
  refine hdet_of_vc' (E := S.E 1) fol Tryz.func34 rfl rfl (slots := [8]) rfl rfl ?_ ?_ ?_ fun hw => ?_
  · exact Nat.le_refl 1
  · exact ⟨trivial, trivial, trivial, rfl, trivial⟩
  · exact fun i => by cases i <;> first | exact idsInL_pvs _ _ | (rw [hget_ge (by simp [hlen])]; exact trivial)
  have hl : ks.length ≤ 9223372036854775807 := by omega
  set_option smartUnfolding false in conv => whnf
  refine ⟨Nat.le_refl 1, ?_⟩
  set_option smartUnfolding false in conv => whnf
  refine ⟨⟨⟨by simp [pvs_len], by omega⟩, by rw [show ((S.E 1).te 28).bytes = 40 from rfl]; omega⟩, ?_⟩
  set_option smartUnfolding false in conv => whnf
  refine acall_det (ps := [.lst 3 (Dt.pvL D), .int .i64 d, .int .i64 n]) (rrec_det hD d n) ?_
  set_option smartUnfolding false in conv => whnf
  refine vloop_intro (σ := Nat × List PV) (fun x => x.1 ≤ ks.length ∧ x.2 ++ restP D d n ks x.1 = total ∧ x.2.length + V.cntL (ks.drop x.1) ≤ 1000000)
    (fun x => [(0, .pv (.lst 3 (Dt.pvL D))), (2, .pv (.int .i64 d)), (3, .row 2 x.2.length), (5, .bp 1 0), (9, .pv (.lst 1 (boolsP (recS D d n)))), (20, .pv (.lst 1 (boolsP (recS D d n)))), (21, .pv (.int .i64 (boolsP (recS D d n)).length)), (22, .pv (.int .i64 x.1))])
    (fun x => [.dead, .box 28 [.pv (.int .i64 k), .pv (.int .i64 n), .pv (.lst 3 (V.pvL ks))], .row 28 3 (pvs x.2)]) (fun x => ks.length - x.1) (0, ps ++ [V.ag k n ks]) ⟨by simp, htot, by simp only [List.length_append, List.length_cons, List.length_nil, List.drop_zero]; omega⟩ (weak_ren [0, 1, 3] 4 (by kernel_rfl) (blkD (blk (by kernel_rfl) (blkR_row (xs := appL ps.length (pvs ps) 1 [.pv (V.ag k n ks)]) (by kernel_rfl) (app_any (by kernel_rfl)) trivial))) ⟨(by kernel_rfl), (by kernel_rfl), sRow (by kernel_rfl) (by simp), (by kernel_rfl), (by kernel_rfl), (by kernel_rfl), (by kernel_rfl), (by kernel_rfl), trivial⟩) ?_
  rintro ⟨i, qs⟩ ⟨hi, hs, hcn⟩
  simp only at hi hs hcn
  set_option smartUnfolding false in conv => whnf
  refine br_intro (fun h => ?_) (fun h => ?_) <;> set_option smartUnfolding false in conv => whnf
  · replace h : i < ks.length := by have := dT h; rw [boolsP_len, hrl] at this; simpa using this
    obtain ⟨b, hb0, hb1, hb2⟩ := drop_bool (l := recS D d n) (i := i) (by omega)
    refine V.get_elim h fun k1 n1 ks1 hv hg hg0 hd => ?_
    have hcd := cnt_drop hd
    rw [restP_step hd hb2] at hs
    refine ⟨.bool b, ⟨by simp, by simpa using hb1⟩, ?_⟩
    set_option smartUnfolding false in conv => whnf
    refine br_intro (fun g => ?_) (fun g => ?_) <;> set_option smartUnfolding false in conv => whnf
    · subst g
      rw [if_pos rfl, ← List.append_assoc] at hs
      have hq := hk i _ hg0 hb0 qs (by omega)
      rw [V.pv_mk] at hq
      refine ⟨V.ag k1 n1 ks1, ⟨by simp, by simpa using hg⟩, ?_⟩
      set_option smartUnfolding false in conv => whnf
      refine acall_hdet hq [2] 3 rfl rfl ⟨eqRow rfl, trivial⟩ ?_
      set_option smartUnfolding false in conv => whnf
      refine ⟨(i + 1, qs ++ V.pvL (V.pre D d (.mk k1 n1 ks1))), ⟨h, hs, ?_⟩, ?_, subUp h⟩
      · have := V.pre_len D d (.mk k1 n1 ks1)
        simp only [List.length_append, V.pvL_len]; omega
      · exact weak_ren [0, 1, 3] 4 (by kernel_rfl) (blkD (blk (by kernel_rfl) (blkR_row (xs := renL (imp [2] 3) (pvs (qs ++ V.pvL (V.pre D d (.mk k1 n1 ks1))))) (by kernel_rfl) (renL_pvs _ _) trivial))) ⟨(by kernel_rfl), (by kernel_rfl), sRow (by kernel_rfl) (by simp), (by kernel_rfl), (by kernel_rfl), (by kernel_rfl), (by kernel_rfl), sUp h hl, trivial⟩
    · subst g
      rw [if_neg (by simp), List.nil_append] at hs
      exact ⟨(i + 1, qs), ⟨h, hs, by simp only; omega⟩, weak_ren [0, 1, 2] 3 (by kernel_rfl) (blkD (blk (by kernel_rfl) (blkR_row (xs := pvs qs) (by kernel_rfl) (by kernel_rfl) trivial))) ⟨(by kernel_rfl), (by kernel_rfl), sRow (by kernel_rfl) (by kernel_rfl), (by kernel_rfl), (by kernel_rfl), (by kernel_rfl), (by kernel_rfl), sUp h hl, trivial⟩, subUp h⟩
  · replace h : ¬ i < ks.length := by have := dF h; rw [boolsP_len, hrl] at this; simpa using this
    rw [restP_end D d n ks i (by omega), List.append_nil] at hs
    subst hs
    exact weak_ren [0, 2] 3 (by kernel_rfl) (blkD (blkR_row (xs := pvs qs) (by kernel_rfl) (by kernel_rfl) trivial)) ⟨sRow (by kernel_rfl) (by kernel_rfl), trivial⟩
end Go.AM

set_option linter.all false
set_option maxRecDepth 20000
set_option maxHeartbeats 4000000
namespace Go.AM
open Go.Proofs


theorem rpre_nil {D : List Dt} (hD : DOK D) (d : Int) (v : V) (ts : List V) (hh : V.has D v (.mk 5 d ts) = true) (hc : v.cnt ≤ 1000000) :
    Det Tryz.prog 34 [.lst 3 (Dt.pvL D), v.pv, .int .i64 d, .nils] (.lst 3 (V.pvL (V.pre D d v))) := by
  obtain ⟨k, n, ks⟩ := v
  have hr := has_rec hh
  have hrl := hr.1
  have hk := fun (i : Nat) v (h1 : ks[i]? = some v) h2 => rpre_of hD d v ts (hr.2 i v h1 h2)
  clear hr hh
  rw [V.cnt_mk] at hc
  have hlc := V.len_cntL ks
  generalize htot : V.pvL (V.pre D d (.mk k n ks)) = total
  rw [restP_zero, ← List.singleton_append] at htot
  rw [V.pv_mk]
  refine det_of_vc' (E := S.E 0) rfl fol Tryz.func34 rfl rfl (slots := [8]) rfl rfl fun hw => ?_
  have hl : ks.length ≤ 9223372036854775807 := by omega
  set_option smartUnfolding false in conv => whnf
  refine ⟨Nat.le_refl 1, ?_⟩
  set_option smartUnfolding false in conv => whnf
  refine ⟨⟨⟨by decide, by decide⟩, by decide⟩, ?_⟩
  set_option smartUnfolding false in conv => whnf
  refine acall_det (ps := [.lst 3 (Dt.pvL D), .int .i64 d, .int .i64 n]) (rrec_det hD d n) ?_
  set_option smartUnfolding false in conv => whnf
  refine vloop_intro (σ := Nat × List PV) (fun x => x.1 ≤ ks.length ∧ x.2 ++ restP D d n ks x.1 = total ∧ x.2.length + V.cntL (ks.drop x.1) ≤ 1000000)
    (fun x => [(0, .pv (.lst 3 (Dt.pvL D))), (2, .pv (.int .i64 d)), (3, .row 1 x.2.length), (5, .bp 0 0), (9, .pv (.lst 1 (boolsP (recS D d n)))), (20, .pv (.lst 1 (boolsP (recS D d n)))), (21, .pv (.int .i64 (boolsP (recS D d n)).length)), (22, .pv (.int .i64 x.1))])
    (fun x => [ .box 28 [.pv (.int .i64 k), .pv (.int .i64 n), .pv (.lst 3 (V.pvL ks))], .row 28 3 (pvs x.2)]) (fun x => ks.length - x.1) (0, [V.ag k n ks]) ⟨by simp, htot, by simp only [List.length_append, List.length_cons, List.length_nil, List.drop_zero]; omega⟩ (weak_ren [0, 2] 3 (by kernel_rfl) (blk (by kernel_rfl) (blkR_row (xs := appL 0 [] 1 [.pv (V.ag k n ks)]) (by kernel_rfl) (by kernel_rfl) trivial)) ⟨(by kernel_rfl), (by kernel_rfl), sRow (by kernel_rfl) (by kernel_rfl), (by kernel_rfl), (by kernel_rfl), (by kernel_rfl), (by kernel_rfl), (by kernel_rfl), trivial⟩) ?_
  rintro ⟨i, qs⟩ ⟨hi, hs, hcn⟩
  simp only at hi hs hcn
  set_option smartUnfolding false in conv => whnf
  refine br_intro (fun h => ?_) (fun h => ?_) <;> set_option smartUnfolding false in conv => whnf
  · replace h : i < ks.length := by have := dT h; rw [boolsP_len, hrl] at this; simpa using this
    obtain ⟨b, hb0, hb1, hb2⟩ := drop_bool (l := recS D d n) (i := i) (by omega)
    refine V.get_elim h fun k1 n1 ks1 hv hg hg0 hd => ?_
    have hcd := cnt_drop hd
    rw [restP_step hd hb2] at hs
    refine ⟨.bool b, ⟨by simp, by simpa using hb1⟩, ?_⟩
    set_option smartUnfolding false in conv => whnf
    refine br_intro (fun g => ?_) (fun g => ?_) <;> set_option smartUnfolding false in conv => whnf
    · subst g
      rw [if_pos rfl, ← List.append_assoc] at hs
      have hq := hk i _ hg0 hb0 qs (by omega)
      rw [V.pv_mk] at hq
      refine ⟨V.ag k1 n1 ks1, ⟨by simp, by simpa using hg⟩, ?_⟩
      set_option smartUnfolding false in conv => whnf
      refine acall_hdet hq [1] 2 rfl rfl ⟨eqRow rfl, trivial⟩ ?_
      set_option smartUnfolding false in conv => whnf
      refine ⟨(i + 1, qs ++ V.pvL (V.pre D d (.mk k1 n1 ks1))), ⟨h, hs, ?_⟩, ?_, subUp h⟩
      · have := V.pre_len D d (.mk k1 n1 ks1)
        simp only [List.length_append, V.pvL_len]; omega
      · exact weak_ren [ 0, 2] 3 (by kernel_rfl) (blk (by kernel_rfl) (blkR_row (xs := renL (imp [1] 2) (pvs (qs ++ V.pvL (V.pre D d (.mk k1 n1 ks1))))) (by kernel_rfl) (renL_pvs _ _) trivial)) ⟨(by kernel_rfl), (by kernel_rfl), sRow (by kernel_rfl) (by simp), (by kernel_rfl), (by kernel_rfl), (by kernel_rfl), (by kernel_rfl), sUp h hl, trivial⟩
    · subst g
      rw [if_neg (by simp), List.nil_append] at hs
      exact ⟨(i + 1, qs), ⟨h, hs, by simp only; omega⟩, weak_ren [ 0, 1] 2 (by kernel_rfl) (blk (by kernel_rfl) (blkR_row (xs := pvs qs) (by kernel_rfl) (by kernel_rfl) trivial)) ⟨(by kernel_rfl), (by kernel_rfl), sRow (by kernel_rfl) (by kernel_rfl), (by kernel_rfl), (by kernel_rfl), (by kernel_rfl), (by kernel_rfl), sUp h hl, trivial⟩, subUp h⟩
  · replace h : ¬ i < ks.length := by have := dF h; rw [boolsP_len, hrl] at this; simpa using this
    rw [restP_end D d n ks i (by omega), List.append_nil] at hs
    subst hs
    exact rd_row (H := [_, _]) trivial rfl rfl

theorem rPre_det {D : List Dt} (hD : DOK D) (hN : DN D) (v t : V) (ht : t.cnt ≤ 1000000) : Det Tryz.prog 18 [.lst 3 (Dt.pvL D), v.pv, t.pv] (.lst 3 (V.pvL (preS D v t))) := by
  have h1 := rhasType_det hD hN v t ht
  obtain ⟨k, n, ks⟩ := v
  obtain ⟨tk, tn, ts⟩ := t
  generalize hb : hasS D (.mk k n ks) (.mk tk tn ts) = b at h1
  generalize hR : preS D (.mk k n ks) (.mk tk tn ts) = R
  rw [V.pv_mk, V.pv_mk] at h1
  rw [V.pv_mk, V.pv_mk]
  refine det_of_vc' (E := S.E 0) rfl fol Tryz.func18 rfl rfl (slots := [6]) rfl rfl fun hw => ?_
  set_option smartUnfolding false in conv => whnf
  refine br_intro (fun g1 => ?_) (fun g1 => ?_) <;> set_option smartUnfolding false in conv => whnf
  · have g1 : ¬ tk = 5 := by simpa using g1
    rw [preS_no (fun h => g1 h.1)] at hR
    subst hR
    rw [V.pvL_nil]
    exact .le (.nils 3)
  have g1 : tk = 5 := by simpa using g1
  refine acall_det (ps := [.lst 3 (Dt.pvL D), V.ag k n ks, V.ag tk tn ts]) h1 ?_
  set_option smartUnfolding false in conv => whnf
  refine br_intro (fun g2 => ?_) (fun g2 => ?_) <;> set_option smartUnfolding false in conv => whnf
  · have g2 : b = false := by simpa using g2
    rw [preS_no (fun h => by rw [hb, g2] at h; simp at h)] at hR
    subst hR
    rw [V.pvL_nil]
    exact .le (.nils 3)
  have g2 : b = true := by simpa using g2
  subst g1
  rw [g2] at hb
  have hh := hasS_has hb
  have h3 := rpre_nil hD tn (.mk k n ks) ts hh.1 (by omega)
  rw [V.pv_mk] at h3
  rw [preS_yes hb] at hR
  refine acall_det (ps := [.lst 3 (Dt.pvL D), V.ag k n ks, .int .i64 tn, .nils]) h3 ?_
  set_option smartUnfolding false in conv => whnf
  rw [hR]
  exact .pv _
end Go.AM

set_option linter.all false
set_option maxRecDepth 20000
set_option maxHeartbeats 4000000
namespace Go.AM
open Go.Proofs

theorem fine_det {D : List Dt} (hD : DOK D) (hN : DN D) (t : V) (ht : t.cnt ≤ 1000000) : Det Tryz.prog 16 [.lst 3 (Dt.pvL D), t.pv] (.bool (known D t)) := by
  have h1 := validData_r hD hN
  have h2 := rValid_det D 0 t ht
  obtain ⟨k, n, ts⟩ := t
  rw [V.pv_mk] at h2 ⊢
  unfold known
  refine det_of_vc' (E := S.E 0) rfl fol Tryz.func16 rfl rfl (slots := [4]) rfl rfl fun hw => ?_
  set_option smartUnfolding false in conv => whnf
  refine acall_det (ps := [.lst 3 (Dt.pvL D)]) h1 ?_
  set_option smartUnfolding false in conv => whnf
  refine br_intro (fun g => ?_) (fun g => ?_) <;> set_option smartUnfolding false in conv => whnf
  · refine acall_det (ps := [.lst 3 (Dt.pvL D), V.ag k n ts, .int .i64 0]) h2 ?_
    set_option smartUnfolding false in conv => whnf
    exact rdB (by rw [g]; rfl)
  · exact rdB (by rw [g]; rfl)
end Go.AM

set_option linter.all false
set_option maxRecDepth 20000
set_option maxHeartbeats 8000000
namespace Go.AM
open Go.Proofs

/-! ### How many nodes of a constructor -/
def cntC (c : Int) : List V → Nat
  | [] => 0
  | .mk _ n _ :: l => (if n = c then 1 else 0) + cntC c l
theorem cntC_nil (c : Int) : cntC c [] = 0 := rfl
theorem cntC_cons (c k n : Int) (ks l : List V) : cntC c (.mk k n ks :: l) = (if n = c then 1 else 0) + cntC c l := rfl
theorem cntC_app (c : Int) : ∀ l m : List V, cntC c (l ++ m) = cntC c l + cntC c m
  | [], m => by rw [List.nil_append, cntC_nil]; omega
  | .mk k n ks :: l, m => by rw [List.cons_append, cntC_cons, cntC_cons, cntC_app c l m]; omega
theorem cntC_le (c : Int) : ∀ l : List V, cntC c l ≤ l.length
  | [] => Nat.le_refl _
  | .mk k n ks :: l => by
    have := cntC_le c l
    rw [cntC_cons, List.length_cons]; split <;> omega
attribute [irreducible] cntC
abbrev cH (c : Int) (m : Nat) : Heap := [.box 3 [.pv (.int .i64 c)], .box 3 [.pv (.int .i64 m)]]
theorem cH_ids (c : Int) (m : Nat) (i : Nat) : idsInB (fun j => (hget (cH c m) j).isNone = false) (hget (cH c m) i) := by
  rcases i with _ | _ | i
  · exact ⟨trivial, trivial⟩
  · exact ⟨trivial, trivial⟩
  · rw [hget_ge (by simp [hlen])]; exact trivial
theorem count1_hdet (c : Int) (k n : Int) (ks : List V) (rec : PV) (m : Nat) (hm : m ≤ 1000000) : HDet Tryz.prog 15 [.pv (V.ag k n ks), .pv rec, .bp 0 0, .bp 1 0] (cH c m) (.pv (.tuple [])) (cH c (m + (if n = c then 1 else 0))) := by
  generalize hR : m + (if n = c then 1 else 0) = R
  refine hdet_of_vc' (E := S.E 2) fol Tryz.func15 rfl rfl (slots := []) rfl rfl ?_ ?_ ?_ fun hw => ?_
  · exact Nat.le_refl 2
  · exact ⟨trivial, trivial, rfl, rfl, trivial⟩
  · exact cH_ids c m
  set_option smartUnfolding false in conv => whnf
  refine br_intro (fun g => ?_) (fun g => ?_) <;> set_option smartUnfolding false in conv => whnf
  · have g := dT g
    rw [if_pos g] at hR
    subst hR
    have ew : IntKind.wrap .i64 ((m : Int) + 1) = ((m + 1 : Nat) : Int) := by rw [wrapI (by omega) (by omega)]; rfl
    refine weak_ren [0, 1] 3 (by kernel_rfl) (blk (by kernel_rfl) (blk (?_) trivial)) ⟨(by kernel_rfl), trivial⟩
    show AB.box _ _ = AB.box _ _
    rw [← ew]
    rfl
  · have g := dF g
    rw [if_neg g] at hR
    subst hR
    exact weak_ren [0, 1] 3 (by kernel_rfl) (blk (by kernel_rfl) (blk (by kernel_rfl) trivial)) ⟨(by kernel_rfl), trivial⟩
/-- The rest of a preorder, counted. -/
def restC (D : List Dt) (d n c : Int) (ks : List V) (i : Nat) : Nat := cntC c (V.preL D d (ks.drop i) ((recS D d n).drop i))
theorem restC_end (D : List Dt) (d n c : Int) (ks : List V) (i : Nat) (h : ks.length ≤ i) : restC D d n c ks i = 0 := by
  unfold restC; rw [List.drop_of_length_le h, V.preL_nil, cntC_nil]
theorem restC_step {D : List Dt} {d n c : Int} {ks : List V} {i : Nat} {v : V} {b : Bool} (hd : ks.drop i = v :: ks.drop (i + 1)) (hb : (recS D d n).drop i = b :: (recS D d n).drop (i + 1)) :
    restC D d n c ks i = (if b then cntC c (V.pre D d v) else 0) + restC D d n c ks (i + 1) := by
  unfold restC
  rw [hd, hb, V.preL_cons, cntC_app]
  cases b <;> simp [cntC_nil]
theorem restC_zero (D : List Dt) (d c k n : Int) (ks : List V) : cntC c (V.pre D d (.mk k n ks)) = (if n = c then 1 else 0) + restC D d n c ks 0 := by
  rw [V.pre_mk, cntC_cons]; unfold restC; simp
attribute [irreducible] restC
theorem pre_hdet {D : List Dt} (hD : DOK D) (c : Int) (tn : Int) (ts : List V) (v : V) : V.has D v (.mk 5 tn ts) = true → ∀ m : Nat, m + v.cnt ≤ 1000000 →
    HDet Tryz.prog 14 [.pv (.lst 3 (Dt.pvL D)), .pv (V.ag 5 tn ts), .pv v.pv, .fn 15 [.bp 0 0, .bp 1 0]] (cH c m) (.pv (.tuple [])) (cH c (m + cntC c (V.pre D tn v))) := by
  refine V.recOn' (p := fun v => V.has D v (.mk 5 tn ts) = true → ∀ m : Nat, m + v.cnt ≤ 1000000 →
    HDet Tryz.prog 14 [.pv (.lst 3 (Dt.pvL D)), .pv (V.ag 5 tn ts), .pv v.pv, .fn 15 [.bp 0 0, .bp 1 0]] (cH c m) (.pv (.tuple [])) (cH c (m + cntC c (V.pre D tn v)))) (fun k n ks ih hh m hm => ?_) v
  have hr := has_rec hh
  have hrl := hr.1
  have hk := fun (i : Nat) v (h1 : ks[i]? = some v) h2 => ih v (List.mem_of_getElem? h1) (hr.2 i v h1 h2)
  clear ih hr hh
  rw [V.cnt_mk] at hm
  have hlc := V.len_cntL ks
  have hRc := trec_det hD tn n
  have hC := count1_hdet c k n ks (.lst 1 (boolsP (recS D tn n))) m (by omega)
  generalize htot : m + cntC c (V.pre D tn (.mk k n ks)) = total
  rw [restC_zero, ← Nat.add_assoc] at htot
  have hif : (if n = c then 1 else 0) ≤ 1 := by split <;> omega
  generalize (if n = c then 1 else 0) = one at hC htot hif
  rw [V.pv_mk]
  refine hdet_of_vc' (E := S.E 2) fol Tryz.func14 rfl rfl (slots := []) rfl rfl ?_ ?_ ?_ fun hw => ?_
  · exact Nat.le_refl 2
  · exact ⟨trivial, trivial, trivial, ⟨rfl, rfl, trivial⟩, trivial⟩
  · exact cH_ids c m
  have hl : ks.length ≤ 9223372036854775807 := by omega
  set_option smartUnfolding false in conv => whnf
  refine acall_det (ps := [.lst 3 (Dt.pvL D), .int .i64 tn, .int .i64 n]) hRc ?_
  set_option smartUnfolding false in conv => whnf
  refine acall_hdet hC [0, 1] 4 rfl rfl ⟨rfl, rfl, trivial⟩ ?_
  set_option smartUnfolding false in conv => whnf
  refine vloop_intro (σ := Nat × Nat) (fun x => x.1 ≤ ks.length ∧ x.2 + restC D tn n c ks x.1 = total ∧ x.2 + V.cntL (ks.drop x.1) ≤ 1000000)
    (fun x => [(0, .pv (.lst 3 (Dt.pvL D))), (3, .fn 15 [.bp 0 0, .bp 1 0]), (5, .bp 2 0), (6, .bp 3 0), (21, .pv (.lst 1 (boolsP (recS D tn n)))), (22, .pv (.int .i64 (boolsP (recS D tn n)).length)), (23, .pv (.int .i64 x.1))])
    (fun x => [.box 3 [.pv (.int .i64 c)], .box 3 [.pv (.int .i64 (x.2 : Nat))], .box 25 [.pv (.int .i64 5), .pv (.int .i64 tn), .pv (.lst 3 (V.pvL ts))], .box 28 [.pv (.int .i64 k), .pv (.int .i64 n), .pv (.lst 3 (V.pvL ks))]]) (fun x => ks.length - x.1) (0, m + one) ⟨by simp, htot, by simp only [List.drop_zero]; omega⟩
    (weak_ren [0, 1, 2, 3] 4 (by kernel_rfl) (blk (by kernel_rfl) (blk (by kernel_rfl) (blk (by kernel_rfl) (blk (by kernel_rfl) trivial)))) ⟨(by kernel_rfl), (by kernel_rfl), (by kernel_rfl), (by kernel_rfl), (by kernel_rfl), (by kernel_rfl), (by kernel_rfl), trivial⟩) ?_
  rintro ⟨i, s⟩ ⟨hi, hs, hcn⟩
  simp only at hi hs hcn
  set_option smartUnfolding false in conv => whnf
  refine br_intro (fun h => ?_) (fun h => ?_) <;> set_option smartUnfolding false in conv => whnf
  · replace h : i < ks.length := by have := dT h; rw [boolsP_len, hrl] at this; simpa using this
    obtain ⟨b, hb0, hb1, hb2⟩ := drop_bool (l := recS D tn n) (i := i) (by omega)
    refine V.get_elim h fun k1 n1 ks1 hv hg hg0 hd => ?_
    have hcd := cnt_drop hd
    rw [restC_step hd hb2] at hs
    refine ⟨.bool b, ⟨by simp, by simpa using hb1⟩, ?_⟩
    set_option smartUnfolding false in conv => whnf
    refine br_intro (fun g => ?_) (fun g => ?_) <;> set_option smartUnfolding false in conv => whnf
    · subst g
      rw [if_pos rfl, ← Nat.add_assoc] at hs
      have hq := hk i _ hg0 hb0 s (by omega)
      rw [V.pv_mk] at hq
      refine ⟨V.ag k1 n1 ks1, ⟨by simp, by simpa using hg⟩, ?_⟩
      set_option smartUnfolding false in conv => whnf
      refine acall_hdet hq [0, 1] 4 rfl rfl ⟨rfl, rfl, trivial⟩ ?_
      set_option smartUnfolding false in conv => whnf
      refine ⟨(i + 1, s + cntC c (V.pre D tn (.mk k1 n1 ks1))), ⟨h, hs, ?_⟩, weak_ren [0, 1, 2, 3] 4 (by kernel_rfl) (blk (by kernel_rfl) (blk (by kernel_rfl) (blk (by kernel_rfl) (blk (by kernel_rfl) trivial)))) ⟨(by kernel_rfl), (by kernel_rfl), (by kernel_rfl), (by kernel_rfl), (by kernel_rfl), (by kernel_rfl), sUp h hl, trivial⟩, subUp h⟩
      have h1 := V.pre_len D tn (.mk k1 n1 ks1)
      have h2 := cntC_le c (V.pre D tn (.mk k1 n1 ks1))
      simp only; omega
    · subst g
      rw [if_neg (by simp), Nat.zero_add] at hs
      exact ⟨(i + 1, s), ⟨h, hs, by simp only; omega⟩, weak_ren [0, 1, 2, 3] 4 (by kernel_rfl) (blk (by kernel_rfl) (blk (by kernel_rfl) (blk (by kernel_rfl) (blk (by kernel_rfl) trivial)))) ⟨(by kernel_rfl), (by kernel_rfl), (by kernel_rfl), (by kernel_rfl), (by kernel_rfl), (by kernel_rfl), sUp h hl, trivial⟩, subUp h⟩
  · replace h : ¬ i < ks.length := by have := dF h; rw [boolsP_len, hrl] at this; simpa using this
    rw [restC_end D tn n c ks i (by omega), Nat.add_zero] at hs
    subst hs
    exact weak_ren [0, 1] 4 (by kernel_rfl) (blk (by kernel_rfl) (blk (by kernel_rfl) trivial)) ⟨(by kernel_rfl), trivial⟩
end Go.AM

set_option linter.all false
set_option maxRecDepth 20000
set_option maxHeartbeats 4000000
namespace Go.AM
open Go.Proofs

theorem bknown_det {D : List Dt} (hD : DOK D) (hN : DN D) (t : V) : Det Tryz.prog 12 [.lst 3 (Dt.pvL D), t.pv] (.bool (known D t)) := by
  have h1 := coreValid_det hD hN
  have h2 := tValid_det D 0 t
  unfold coreP at h1
  obtain ⟨k, n, ts⟩ := t
  rw [V.pv_mk] at h2 ⊢
  unfold known
  refine det_of_vc' (E := S.E 0) rfl fol Tryz.func12 rfl rfl (slots := [4]) rfl rfl fun hw => ?_
  set_option smartUnfolding false in conv => whnf
  refine acall_det (ps := [.agg [.lst 3 (Dt.pvL D), .nils, .nils, .nils]]) h1 ?_
  set_option smartUnfolding false in conv => whnf
  refine br_intro (fun g => ?_) (fun g => ?_) <;> set_option smartUnfolding false in conv => whnf
  · refine acall_det (ps := [.lst 3 (Dt.pvL D), V.ag k n ts, .int .i64 0]) h2 ?_
    set_option smartUnfolding false in conv => whnf
    exact rdB (by rw [g]; rfl)
  · exact rdB (by rw [g]; rfl)
end Go.AM

set_option linter.all false
set_option maxRecDepth 20000
set_option maxHeartbeats 8000000
namespace Go.AM
open Go.Proofs

/-! ### Count, both -/
noncomputable def cntS (D : List Dt) : V → V → Int → Int × Int
  | .mk tk tn ts, v, c =>
    if known D (.mk tk tn ts) = true then
      if tk = 5 then
        match conAt D tn c with
        | some _ => if hasS D v (.mk tk tn ts) = true then ((cntC c (V.pre D tn v) : Int), 0) else (0, 11)
        | Option.none => (0, 1)
      else (0, 1)
    else (0, 1)
theorem cntS_mk (D : List Dt) (tk tn : Int) (ts : List V) (v : V) (c : Int) : cntS D (.mk tk tn ts) v c =
    (if known D (.mk tk tn ts) = true then
      if tk = 5 then
        match conAt D tn c with
        | some _ => if hasS D v (.mk tk tn ts) = true then ((cntC c (V.pre D tn v) : Int), 0) else (0, 11)
        | Option.none => (0, 1)
      else (0, 1)
    else (0, 1) : Int × Int) := rfl
attribute [irreducible] cntS
def cntP (x : Int × Int) : PV := .tuple [.int .i64 x.1, .int .i64 x.2]
theorem rd_cnt {S : Nat → Prop} {H : Heap} {n e : Int} {x : Int × Int} (h : (n, e) = x) : Rd S H (.pv (.tuple [.int .i64 n, .int .i64 e])) (cntP x) := by
  subst h
  exact .pv _
theorem bcount_det {D : List Dt} (hD : DOK D) (hN : DN D) (t v : V) (c : Int) : Det Tryz.prog 5 [.lst 3 (Dt.pvL D), t.pv, v.pv, .int .i64 c] (cntP (cntS D t v c)) := by
  have hKn := bknown_det hD hN t
  have hHas := hasType_det hD hN v t
  generalize hS : cntS D t v c = r
  obtain ⟨tk, tn, ts⟩ := t
  obtain ⟨vk, vn, vs⟩ := v
  rw [V.pv_mk] at hKn
  rw [V.pv_mk, V.pv_mk] at hHas
  rw [V.pv_mk, V.pv_mk]
  rw [cntS_mk] at hS
  cases hk : known D (.mk tk tn ts) with
  | false =>
    rw [hk] at hKn
    rw [hk, if_neg (by simp)] at hS
    refine det_of_vc' (E := S.E 0) rfl fol Tryz.func5 rfl rfl (slots := [8, 9]) rfl rfl fun hw => ?_
    set_option smartUnfolding false in conv => whnf
    refine acall_det (ps := [.lst 3 (Dt.pvL D), V.ag tk tn ts]) hKn ?_
    set_option smartUnfolding false in conv => whnf
    exact rd_cnt hS
  | true =>
  rw [hk] at hKn
  rw [hk, if_pos rfl] at hS
  obtain ⟨hv, hg⟩ := known_good hk
  refine det_of_vc' (E := S.E 0) rfl fol Tryz.func5 rfl rfl (slots := [8, 9]) rfl rfl fun hw => ?_
  set_option smartUnfolding false in conv => whnf
  refine acall_det (ps := [.lst 3 (Dt.pvL D), V.ag tk tn ts]) hKn ?_
  set_option smartUnfolding false in conv => whnf
  refine br_intro (fun h5 => ?_) (fun h5 => ?_) <;> set_option smartUnfolding false in conv => whnf
  · have h5 : ¬ tk = 5 := by simpa using h5
    rw [if_neg h5] at hS
    exact rd_cnt hS
  have h5 : tk = 5 := by simpa using h5
  subst h5
  rw [if_pos rfl] at hS
  have hdecl := hg.decl
  refine br_intro (fun h2 => ?_) (fun h2 => ?_) <;> set_option smartUnfolding false in conv => whnf
  · have h2 := dT h2
    have hca : conAt D tn c = Option.none := by unfold conAt; rw [if_neg (by omega)]
    rw [hca] at hS
    exact rd_cnt hS
  have h2 := dF h2
  refine Dt.get_elim (l := D) (i := tn.toNat) (by omega) fun nm dvs cs hmem hdg1 hdg2 _ => ?_
  refine ⟨Dt.ag nm dvs cs, ⟨by omega, hdg1⟩, ?_⟩
  set_option smartUnfolding false in conv => whnf
  refine br_intro (fun h3 => ?_) (fun h3 => ?_) <;> set_option smartUnfolding false in conv => whnf
  · have h3 := dT h3
    rw [Cn.pvL_len] at h3
    have hca : conAt D tn c = Option.none := by unfold conAt; rw [if_pos (by omega), hdg2]; simp only; rw [List.getElem?_eq_none (l := cs) (by omega)]
    rw [hca] at hS
    exact rd_cnt hS
  have h3 := dF h3
  rw [Cn.pvL_len] at h3
  have hca : ∃ p, conAt D tn c = some p := by
    unfold conAt
    rw [if_pos (by omega), hdg2]
    simp only
    rw [List.getElem?_eq_getElem (l := cs) (by omega)]
    exact ⟨_, rfl⟩
  obtain ⟨p, hca⟩ := hca
  rw [hca] at hS
  simp only at hS
  cases hh : hasS D (.mk vk vn vs) (.mk 5 tn ts) with
  | false =>
    rw [hh] at hHas
    rw [hh, if_neg (by simp)] at hS
    refine acall_det (ps := [.lst 3 (Dt.pvL D), V.ag vk vn vs, V.ag 5 tn ts]) hHas ?_
    set_option smartUnfolding false in conv => whnf
    exact rd_cnt hS
  | true =>
  rw [hh] at hHas
  rw [hh, if_pos rfl] at hS
  have hhas := hasS_has hh
  refine acall_det (ps := [.lst 3 (Dt.pvL D), V.ag vk vn vs, V.ag 5 tn ts]) hHas ?_
  set_option smartUnfolding false in conv => whnf
  have hp := pre_hdet hD c tn ts (.mk vk vn vs) hhas.1 0 (by omega)
  rw [V.pv_mk, Nat.zero_add] at hp
  generalize cntC c (V.pre D tn (.mk vk vn vs)) = tot at hp hS
  refine acall_hdet hp [2, 3] 4 rfl rfl ⟨rfl, rfl, trivial⟩ ?_
  set_option smartUnfolding false in conv => whnf
  exact rd_cnt hS
theorem cntC_drop {c : Int} {l : List V} {i : Nat} {k n : Int} {ks : List V} (h : l.drop i = .mk k n ks :: l.drop (i + 1)) : cntC c (l.drop i) = (if n = c then 1 else 0) + cntC c (l.drop (i + 1)) := by rw [h, cntC_cons]
theorem rcount_det {D : List Dt} (hD : DOK D) (hN : DN D) (t v : V) (ht : t.cnt ≤ 1000000) (c : Int) : Det Tryz.prog 6 [.lst 3 (Dt.pvL D), t.pv, v.pv, .int .i64 c] (cntP (cntS D t v c)) := by
  have hKn := fine_det hD hN t ht
  have hHas := rhasType_det hD hN v t ht
  have hPre := rPre_det hD hN v t ht
  generalize hS : cntS D t v c = r
  rw [show v.pv = v.pv from rfl] at hPre
  obtain ⟨tk, tn, ts⟩ := t
  obtain ⟨vk, vn, vs⟩ := v
  rw [V.pv_mk] at hKn
  rw [V.pv_mk, V.pv_mk] at hHas
  rw [V.pv_mk, V.pv_mk]
  rw [cntS_mk] at hS
  cases hk : known D (.mk tk tn ts) with
  | false =>
    rw [hk] at hKn
    rw [hk, if_neg (by simp)] at hS
    refine det_of_vc' (E := S.E 0) rfl fol Tryz.func6 rfl rfl (slots := [8, 9]) rfl rfl fun hw => ?_
    set_option smartUnfolding false in conv => whnf
    refine acall_det (ps := [.lst 3 (Dt.pvL D), V.ag tk tn ts]) hKn ?_
    set_option smartUnfolding false in conv => whnf
    exact rd_cnt hS
  | true =>
  rw [hk] at hKn
  rw [hk, if_pos rfl] at hS
  obtain ⟨hv, hg⟩ := known_good hk
  refine det_of_vc' (E := S.E 0) rfl fol Tryz.func6 rfl rfl (slots := [8, 9]) rfl rfl fun hw => ?_
  set_option smartUnfolding false in conv => whnf
  refine acall_det (ps := [.lst 3 (Dt.pvL D), V.ag tk tn ts]) hKn ?_
  set_option smartUnfolding false in conv => whnf
  refine br_intro (fun h5 => ?_) (fun h5 => ?_) <;> set_option smartUnfolding false in conv => whnf
  · have h5 : ¬ tk = 5 := by simpa using h5
    rw [if_neg h5] at hS
    exact rd_cnt hS
  have h5 : tk = 5 := by simpa using h5
  subst h5
  rw [if_pos rfl] at hS
  have hdecl := hg.decl
  refine br_intro (fun h2 => ?_) (fun h2 => ?_) <;> set_option smartUnfolding false in conv => whnf
  · have h2 := dT h2
    have hca : conAt D tn c = Option.none := by unfold conAt; rw [if_neg (by omega)]
    rw [hca] at hS
    exact rd_cnt hS
  have h2 := dF h2
  refine Dt.get_elim (l := D) (i := tn.toNat) (by omega) fun nm dvs cs hmem hdg1 hdg2 _ => ?_
  refine ⟨Dt.ag nm dvs cs, ⟨by omega, hdg1⟩, ?_⟩
  set_option smartUnfolding false in conv => whnf
  refine br_intro (fun h3 => ?_) (fun h3 => ?_) <;> set_option smartUnfolding false in conv => whnf
  · have h3 := dT h3
    rw [Cn.pvL_len] at h3
    have hca : conAt D tn c = Option.none := by unfold conAt; rw [if_pos (by omega), hdg2]; simp only; rw [List.getElem?_eq_none (l := cs) (by omega)]
    rw [hca] at hS
    exact rd_cnt hS
  have h3 := dF h3
  rw [Cn.pvL_len] at h3
  have hca : ∃ p, conAt D tn c = some p := by
    unfold conAt
    rw [if_pos (by omega), hdg2]
    simp only
    rw [List.getElem?_eq_getElem (l := cs) (by omega)]
    exact ⟨_, rfl⟩
  obtain ⟨p, hca⟩ := hca
  rw [hca] at hS
  simp only at hS
  cases hh : hasS D (.mk vk vn vs) (.mk 5 tn ts) with
  | false =>
    rw [hh] at hHas
    rw [hh, if_neg (by simp)] at hS
    refine acall_det (ps := [.lst 3 (Dt.pvL D), V.ag vk vn vs, V.ag 5 tn ts]) hHas ?_
    set_option smartUnfolding false in conv => whnf
    exact rd_cnt hS
  | true =>
  rw [hh] at hHas
  rw [hh, if_pos rfl] at hS
  have hhas := hasS_has hh
  refine acall_det (ps := [.lst 3 (Dt.pvL D), V.ag vk vn vs, V.ag 5 tn ts]) hHas ?_
  set_option smartUnfolding false in conv => whnf
  rw [V.pv_mk, V.pv_mk, preS_yes hh] at hPre
  have hlen := V.pre_len D tn (.mk vk vn vs)
  generalize V.pre D tn (.mk vk vn vs) = L at hPre hS hlen
  have hl : L.length ≤ 9223372036854775807 := by omega
  refine acall_det (ps := [.lst 3 (Dt.pvL D), V.ag vk vn vs, V.ag 5 tn ts]) hPre ?_
  set_option smartUnfolding false in conv => whnf
  refine vloop_intro (σ := Nat × Nat) (fun x => x.1 ≤ L.length ∧ x.2 + cntC c (L.drop x.1) = cntC c L ∧ x.2 ≤ x.1) (fun x => [(3, .pv (.int .i64 c)), (10, .pv (.int .i64 (x.2 : Nat))), (45, .pv (.lst 3 (V.pvL L))), (46, .pv (.int .i64 (V.pvL L).length)), (47, .pv (.int .i64 x.1))])
    (fun _ => []) (fun x => L.length - x.1) (0, 0) ⟨by simp, by simp, by simp⟩ (weak_bare rfl ⟨(by kernel_rfl), (by kernel_rfl), (by kernel_rfl), (by kernel_rfl), (by kernel_rfl), trivial⟩) ?_
  rintro ⟨i, s⟩ ⟨hi, hs, hsi⟩
  simp only at hi hs hsi
  set_option smartUnfolding false in conv => whnf
  refine br_intro (fun h => ?_) (fun h => ?_) <;> set_option smartUnfolding false in conv => whnf
  · replace h : i < L.length := by have := dT h; rw [V.pvL_len] at this; simpa using this
    refine V.get_elim h fun k1 n1 ks1 hv hg hg0 hd => ?_
    rw [cntC_drop hd, ← Nat.add_assoc] at hs
    refine ⟨V.ag k1 n1 ks1, ⟨by simp, by simpa using hg⟩, ?_⟩
    set_option smartUnfolding false in conv => whnf
    refine br_intro (fun g => ?_) (fun g => ?_) <;> set_option smartUnfolding false in conv => whnf
    · have g := dT g
      rw [if_pos g] at hs
      have ew : IntKind.wrap .i64 ((s : Int) + 1) = ((s + 1 : Nat) : Int) := by rw [wrapI (by omega) (by omega)]; rfl
      exact ⟨(i + 1, s + 1), ⟨h, hs, by simp only; omega⟩, weak_bare rfl ⟨(by kernel_rfl), sI ew, (by kernel_rfl), (by kernel_rfl), sUp h hl, trivial⟩, subUp h⟩
    · have g := dF g
      rw [if_neg g, Nat.add_zero] at hs
      exact ⟨(i + 1, s), ⟨h, hs, by simp only; omega⟩, weak_bare rfl ⟨(by kernel_rfl), (by kernel_rfl), (by kernel_rfl), (by kernel_rfl), sUp h hl, trivial⟩, subUp h⟩
  · replace h : ¬ i < L.length := by have := dF h; rw [V.pvL_len] at this; simpa using this
    rw [List.drop_of_length_le (by omega), cntC_nil, Nat.add_zero] at hs
    rw [← hs] at hS
    exact rd_cnt hS
end Go.AM

set_option linter.all false
namespace Go.AM
open Go.Proofs

/-! ### A callee reads what was built; after that it is let go of -/
theorem gupd_dead : ∀ (S : List Nat) (G : Own) (id : Nat), gupd G (S.map fun i => (i, AB.dead)) id = if id ∈ S then AB.dead else G id
  | [], G, id => by simp [gupd]
  | i :: S, G, id => by
    simp only [List.map_cons, gupd]
    rw [gupd_dead S]
    by_cases h : id ∈ S
    · simp [h]
    · by_cases h2 : id = i
      · subst h2; simp [h, gset]
      · simp [h, h2, gset]
theorem adet_eat {P : Program} {f : FuncId} {ps : List PV} {r : PV} {H : Heap} {vs : List AV} {S : List Nat} (h : Det P f ps r) (hr : RdL (· ∈ S) H vs ps) : ADet P f vs H (.pv r) (S.map fun i => (i, AB.dead)) S where
  enters := h.enters
  ids := fun p hp => by simp only [List.mem_map] at hp; obtain ⟨i, hi, rfl⟩ := hp; exact hi
  calls := fun w X ι G us hC hS hT => Calls.mono (h.calls w (offS X ι G (· ∈ S)) us (fun b hb => off_lt hC (offS_off hb)) hC.laid (TR_of hr.len (hr.sound hC hS) hT)) (by
    rintro e w' ⟨v, rfl, hv, hP⟩
    have hg : ∀ id, gupd G (S.map fun i => (i, AB.dead)) id = if id ∈ S then AB.dead else G id := gupd_dead S G
    generalize gupd G (S.map fun i => (i, AB.dead)) = G' at hg
    have hlive : ∀ id, (G' id).live = true → id ∉ S ∧ (G id).live = true := fun id hl => by
      rw [hg] at hl
      split at hl
      · simp [AB.live] at hl
      · rename_i hn; exact ⟨hn, hl⟩
    have hown : ∀ b, own ι G' b → own ι G b := fun b ⟨id, h1, h2⟩ => ⟨id, (hlive id h1).2, h2⟩
    have hoff : ∀ b, off X ι G' b → off X ι G b := fun b hb => hb.elim (fun h => .inl (hown b h)) .inr
    have hC' := hP.conc hC
    have hsome : ∀ id, (G id).isNone = false → (G' id).isNone = false := fun id hi => by
      rw [hg]; split
      · rfl
      · exact hi
    have hbox : ∀ id, (G' id).isBox = true → (G id).isBox = true := fun id hb => by
      rw [hg] at hb
      split at hb
      · simp [AB.isBox] at hb
      · exact hb
    have hrow : ∀ id, (G' id).isRow = true → (G id).isRow = true ∧ (G' id).sz = (G id).sz := fun id hb => by
      rw [hg] at hb ⊢
      split at hb
      · simp [AB.isRow] at hb
      · rename_i hn; rw [if_neg hn]; exact ⟨hb, rfl⟩
    have hN : Next w' X ι G w' ι G' := ⟨⟨Nat.le_refl _, fun _ _ _ => rfl, fun b _ hb => hoff b hb⟩, fun _ _ => rfl, hsome, fun id _ hb => hbox id hb, fun id _ hb => hrow id hb⟩
    refine ⟨v, ι, rfl, ?_, ⟨?_, ?_, hC'.xlt, ?_, hC'.laid, fun p hp i hi => hC'.free p hp i (hlive i hi).2⟩, ?_⟩
    · simp only [VR]
      refine hv.less fun b hb => ?_
      rcases hb with ⟨id, h1, h2⟩ | hx
      · exact .inr ⟨id, (hlive id h1).1, (hlive id h1).2, h2⟩
      · exact .inl hx
    · exact fun i j hi hj he => hC'.inj i j (hlive i hi).2 (hlive j hj).2 he
    · exact fun i hi => hC'.dis i (hlive i hi).2
    · intro id
      rw [hg]
      split
      · trivial
      · cases hn : (G id).isNone with
        | true => exact BR_none hn
        | false => exact (hC'.br id).next hN hn fun _ => rfl
    · exact ⟨hP.size, hP.os, hP.tape, hP.output, fun b hb _ => hP.heap b hb, fun b _ hb => hown b hb, fun _ _ => rfl, hsome, fun id _ hb => hbox id hb, fun id _ hb => hrow id hb⟩)
end Go.AM
