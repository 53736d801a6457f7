import Derived.Test.YteepjclmedmbgaaIdxA
import Derived.Test.YteepjclmedmbgaaOrdC
set_option linter.all false
set_option maxRecDepth 4000
namespace Go.AM
open Go.Proofs

mutual
/-- The order of indices. -/
def Ix.cmp : Ix → Ix → Int
  | .mk n ks, .mk n' ks' => if cmpI n n' = 0 then (if cmpI ks.length ks'.length = 0 then Ix.cmpL ks ks' else cmpI ks.length ks'.length) else cmpI n n'
def Ix.cmpL : List Ix → List Ix → Int
  | v :: l, ws => match ws with
    | [] => 0
    | w :: m => if Ix.cmp v w = 0 then Ix.cmpL l m else Ix.cmp v w
  | [], _ => 0
end
theorem Ix.cmp_mk (n : Int) (ks : List Ix) (n' : Int) (ks' : List Ix) : Ix.cmp (.mk n ks) (.mk n' ks') = if cmpI n n' = 0 then (if cmpI ks.length ks'.length = 0 then Ix.cmpL ks ks' else cmpI ks.length ks'.length) else cmpI n n' := by rw [Ix.cmp]
theorem Ix.cmpL_nil (m : List Ix) : Ix.cmpL [] m = 0 := by rw [Ix.cmpL]
theorem Ix.cmpL_cons (v w : Ix) (l m : List Ix) : Ix.cmpL (v :: l) (w :: m) = if Ix.cmp v w = 0 then Ix.cmpL l m else Ix.cmp v w := by rw [Ix.cmpL]
theorem Ix.cmpL_nil' (l : List Ix) : Ix.cmpL l [] = 0 := by
  cases l with
  | nil => rw [Ix.cmpL_nil]
  | cons v l => rw [Ix.cmpL]
attribute [irreducible] Ix.cmp Ix.cmpL

theorem order_det (b : Bool) : Det Try.prog 25 [.bool b] (.int .i64 (if b then -1 else 1)) := by
  refine det_of_vc' (E := S.E 0) rfl folC Try.func25 rfl rfl (slots := [2]) rfl rfl fun hw => ?_
  set_option smartUnfolding false in conv => whnf
  refine br_intro (fun h => ?_) (fun h => ?_) <;> set_option smartUnfolding false in conv => whnf
  · exact rdI (by simp [h])
  · exact rdI (by simp [h])

theorem icmp_det (v : Ix) : ∀ w : Ix, Det Try.prog 15 [v.pv, w.pv] (.int .i64 (v.cmp w)) := by
  refine Ix.recOn' (p := fun v => ∀ w : Ix, Det Try.prog 15 [v.pv, w.pv] (.int .i64 (v.cmp w))) (fun n ks ih w => ?_) v
  obtain ⟨n', ks'⟩ := w
  have o := or_int [cmpI n n', cmpI ks.length ks'.length]
  have e : (Ix.mk n ks).cmp (.mk n' ks') = if orI [cmpI n n', cmpI ks.length ks'.length] = 0 then Ix.cmpL ks ks' else orI [cmpI n n', cmpI ks.length ks'.length] := by
    by_cases h2 : cmpI n n' = 0 <;> by_cases h3 : cmpI ks.length ks'.length = 0 <;> simp [Ix.cmp_mk, orI_cons, orI_nil, h2, h3]
  have el : orI [cmpI n n', cmpI ks.length ks'.length] = 0 → ks.length = ks'.length := by
    simp only [orI_cons, orI_nil]
    intro h
    by_cases h2 : cmpI n n' = 0 <;> by_cases h3 : cmpI ks.length ks'.length = 0 <;> simp_all
    have := cmpI_zero.1 h3; omega
  simp only [intsP, List.map] at o
  rw [Ix.pv_mk, Ix.pv_mk]
  refine det_of_vc' (E := S.E 0) rfl folC Try.func15 rfl rfl (slots := [4]) rfl rfl fun hw => ?_
  have hl := Ix.lenle hw.1
  set_option smartUnfolding false in conv => whnf
  refine acall_det (ps := [.int .i64 n, .int .i64 n']) (cmp_int n n') ?_
  set_option smartUnfolding false in conv => whnf
  refine acall_det (ps := [.int .i64 (Ix.pvL ks).length, .int .i64 (Ix.pvL ks').length]) (cmp_int _ _) ?_
  rw [Ix.pvL_len, Ix.pvL_len]
  set_option smartUnfolding false in conv => whnf
  refine acall_intro (adet_read (S := [2]) o (.cons (.row (.head _) rfl (Nat.le_refl 2) (.cons (.pv _) (.cons (.pv _) .nil))) .nil) rfl) ?_
  set_option smartUnfolding false in conv => whnf
  refine vloop_intro (σ := Nat × Int) (fun x => x.1 ≤ ks.length ∧ (if x.2 = 0 then Ix.cmpL (ks.drop x.1) (ks'.drop x.1) else x.2) = Ix.cmp (.mk n ks) (.mk n' ks') ∧ (x.2 = 0 → ks.length = ks'.length))
    (fun x => [(2, .bp 0 0), (3, .bp 1 0), (5, .pv (.int .i64 x.2)), (6, .pv (.int .i64 x.1))])
    (fun _ => [.box 32 [.pv (.int .i64 n), .pv (.lst 2 (Ix.pvL ks))], .box 32 [.pv (.int .i64 n'), .pv (.lst 2 (Ix.pvL ks'))]])
    (fun x => ks.length - x.1) (0, orI [cmpI n n', cmpI ks.length ks'.length]) ⟨by simp, by simp [e], el⟩ (weak_ren [0, 1] 3 rfl ⟨rfl, rfl, trivial⟩ ⟨rfl, rfl, rfl, rfl, trivial⟩) ?_
  rintro ⟨i, c⟩ ⟨hi, hs, hc⟩
  simp only at hi hs hc
  set_option smartUnfolding false in conv => whnf
  refine br_intro (fun h => ?_) (fun h => ?_) <;> set_option smartUnfolding false in conv => whnf
  · have h := dT h
    subst h
    have hc := hc rfl
    rw [if_pos rfl] at hs
    refine br_intro (fun h => ?_) (fun h => ?_) <;> set_option smartUnfolding false in conv => whnf
    · replace h : i < ks.length := by have := dT h; rw [Ix.pvL_len] at this; simpa using this
      obtain ⟨⟨n1, ks1⟩, hv, hg, _, hd⟩ := Ix.get_pvL h
      obtain ⟨⟨n2, ks2⟩, hv2, hg2, _, hd2⟩ := Ix.get_pvL (l := ks') (i := i) (by omega)
      rw [Ix.pv_mk] at hg hg2
      rw [hd, hd2, Ix.cmpL_cons] at hs
      refine ⟨Ix.ag n1 ks1, ⟨by simp, by simpa using hg⟩, ?_⟩
      set_option smartUnfolding false in conv => whnf
      refine ⟨Ix.ag n2 ks2, ⟨by simp, by simpa using hg2⟩, ?_⟩
      set_option smartUnfolding false in conv => whnf
      refine acall_det (ps := [Ix.ag n1 ks1, Ix.ag n2 ks2]) (Ix.pv_mk n1 ks1 ▸ Ix.pv_mk n2 ks2 ▸ ih _ hv (.mk n2 ks2)) ?_
      set_option smartUnfolding false in conv => whnf
      refine ⟨(i + 1, Ix.cmp (.mk n1 ks1) (.mk n2 ks2)), ⟨h, hs, fun _ => hc⟩, weak_sub ⟨rfl, rfl, rfl, sUp h hl, trivial⟩, subUp h⟩
    · replace h : ¬ i < ks.length := by have := dF h; rw [Ix.pvL_len] at this; simpa using this
      rw [List.drop_of_length_le (by omega), Ix.cmpL_nil] at hs
      exact rdI hs
  · have h := dF h
    rw [if_neg h] at hs
    exact rdI hs

/-- ref15.Compare, ref15.CompareAll. -/
theorem ircmp_of (v w : Ix) (h : ∀ (n : Int) (ks : List Ix) (n' : Int) (ks' : List Ix), v = .mk n ks → w = .mk n' ks' → Det Try.prog 26 [.lst 2 (Ix.pvL ks), .lst 2 (Ix.pvL ks')] (.int .i64 (if cmpI ks.length ks'.length = 0 then Ix.cmpL ks ks' else cmpI ks.length ks'.length))) :
    Det Try.prog 16 [v.pv, w.pv] (.int .i64 (v.cmp w)) := by
  obtain ⟨n, ks⟩ := v
  obtain ⟨n', ks'⟩ := w
  have h := h _ _ _ _ rfl rfl
  have e : Ix.cmp (.mk n ks) (.mk n' ks') = _ := Ix.cmp_mk n ks n' ks'
  rw [e, Ix.pv_mk, Ix.pv_mk]
  refine det_of_vc' (E := S.E 0) rfl folC Try.func16 rfl rfl (slots := [4]) rfl rfl fun hw => ?_
  set_option smartUnfolding false in conv => whnf
  refine br_intro (fun h1 => ?_) (fun h1 => ?_) <;> set_option smartUnfolding false in conv => whnf
  · refine acall_det (ps := [.bool (decide (n < n'))]) (order_det _) ?_
    set_option smartUnfolding false in conv => whnf
    have h1 : ¬ n = n' := by simpa using h1
    exact rdI (by rw [cmpI_ne h1, if_neg (fun h' => h1 (cmpI_zero.1 h'))])
  · refine acall_det (ps := [.lst 2 (Ix.pvL ks), .lst 2 (Ix.pvL ks')]) h ?_
    set_option smartUnfolding false in conv => whnf
    have h1 : n = n' := by simpa using h1
    exact rdI (by rw [h1, cmpI_self, if_pos rfl])

theorem ircmpL_of (ks ks' : List Ix) (ih : ∀ v ∈ ks, ∀ w : Ix, Det Try.prog 16 [v.pv, w.pv] (.int .i64 (v.cmp w))) :
    Det Try.prog 26 [.lst 2 (Ix.pvL ks), .lst 2 (Ix.pvL ks')] (.int .i64 (if cmpI ks.length ks'.length = 0 then Ix.cmpL ks ks' else cmpI ks.length ks'.length)) := by
  refine det_of_vc' (E := S.E 0) rfl folC Try.func26 rfl rfl (slots := [4]) rfl rfl fun hw => ?_
  have hl : ks.length ≤ 9223372036854775807 := by have := hw.1.1; rwa [Ix.pvL_len] at this
  set_option smartUnfolding false in conv => whnf
  refine br_intro (fun h => ?_) (fun h => ?_) <;> set_option smartUnfolding false in conv => whnf
  · refine acall_det (ps := [.bool (decide (((Ix.pvL ks).length : Int) < (Ix.pvL ks').length))]) (order_det _) ?_
    set_option smartUnfolding false in conv => whnf
    rw [Ix.pvL_len, Ix.pvL_len] at h
    have h : ¬ (ks.length : Int) = ks'.length := by simpa using h
    exact rdI (by rw [Ix.pvL_len, Ix.pvL_len, cmpI_ne h, if_neg (fun h' => h (cmpI_zero.1 h'))])
  have hlen : ks.length = ks'.length := by simp [Ix.pvL_len] at h; omega
  rw [hlen, cmpI_self, if_pos rfl]
  generalize hR : Ix.cmpL ks ks' = R
  refine vloop_intro (σ := Nat) (fun i => i ≤ ks.length ∧ Ix.cmpL (ks.drop i) (ks'.drop i) = R)
    (fun i => [(0, .pv (.lst 2 (Ix.pvL ks))), (1, .pv (.lst 2 (Ix.pvL ks'))), (19, .pv (.int .i64 (Ix.pvL ks).length)), (20, .pv (.int .i64 i))])
    (fun _ => []) (fun i => ks.length - i) 0 ⟨by simp, by simpa using hR⟩ (weak_bare rfl ⟨rfl, rfl, rfl, rfl, trivial⟩) ?_
  rintro i ⟨hi, hs⟩
  set_option smartUnfolding false in conv => whnf
  refine br_intro (fun h => ?_) (fun h => ?_) <;> set_option smartUnfolding false in conv => whnf
  · replace h : i < ks.length := by have := dT h; rw [Ix.pvL_len] at this; simpa using this
    obtain ⟨⟨n1, ks1⟩, hv, hg, _, hd⟩ := Ix.get_pvL h
    obtain ⟨⟨n2, ks2⟩, hv2, hg2, _, hd2⟩ := Ix.get_pvL (l := ks') (i := i) (by omega)
    rw [Ix.pv_mk] at hg hg2
    rw [hd, hd2, Ix.cmpL_cons] at hs
    refine ⟨Ix.ag n1 ks1, ⟨by simp, by simpa using hg⟩, ?_⟩
    set_option smartUnfolding false in conv => whnf
    refine ⟨Ix.ag n2 ks2, ⟨by simp, by simpa using hg2⟩, ?_⟩
    set_option smartUnfolding false in conv => whnf
    refine acall_det (ps := [Ix.ag n1 ks1, Ix.ag n2 ks2]) (Ix.pv_mk n1 ks1 ▸ Ix.pv_mk n2 ks2 ▸ ih _ hv (.mk n2 ks2)) ?_
    set_option smartUnfolding false in conv => whnf
    refine br_intro (fun h2 => ?_) (fun h2 => ?_) <;> set_option smartUnfolding false in conv => whnf
    · rw [if_neg (by simpa using h2)] at hs
      exact rdI hs
    · rw [if_pos (by simpa using h2)] at hs
      refine ⟨i + 1, ⟨h, hs⟩, weak_bare rfl ⟨rfl, rfl, rfl, sUp h hl, trivial⟩, subUp h⟩
  · replace h : ¬ i < ks.length := by have := dF h; rw [Ix.pvL_len] at this; simpa using this
    rw [List.drop_of_length_le (by omega), Ix.cmpL_nil] at hs
    exact rdI hs

theorem ircmp_det (v : Ix) : ∀ w : Ix, Det Try.prog 16 [v.pv, w.pv] (.int .i64 (v.cmp w)) := by
  refine Ix.recOn' (p := fun v => ∀ w : Ix, Det Try.prog 16 [v.pv, w.pv] (.int .i64 (v.cmp w))) (fun n ks ih w => ircmp_of _ _ ?_) v
  rintro n0 ks0 n' ks' h rfl
  cases h
  exact ircmpL_of ks ks' ih

theorem Ix.cmpL_zero_cons (v w : Ix) (l m : List Ix) : decide (Ix.cmpL (v :: l) (w :: m) = 0) = (decide (Ix.cmp v w = 0) && decide (Ix.cmpL l m = 0)) := by
  rw [Ix.cmpL_cons]; split <;> simp_all

/-- keep.SameIndex and keep.SameIndices. -/
theorem sameI_of (v w : Ix) (h : ∀ (n : Int) (ks : List Ix) (n' : Int) (ks' : List Ix), v = .mk n ks → w = .mk n' ks' → Det Try.prog 27 [.lst 2 (Ix.pvL ks), .lst 2 (Ix.pvL ks')] (.bool (decide (ks.length = ks'.length ∧ Ix.cmpL ks ks' = 0)))) :
    Det Try.prog 17 [v.pv, w.pv] (.bool (decide (v.cmp w = 0))) := by
  obtain ⟨n, ks⟩ := v
  obtain ⟨n', ks'⟩ := w
  have h := h _ _ _ _ rfl rfl
  have e : decide (Ix.cmp (.mk n ks) (.mk n' ks') = 0) = _ := congrArg (fun x => decide (x = 0)) (Ix.cmp_mk n ks n' ks')
  rw [e, Ix.pv_mk, Ix.pv_mk]
  refine det_of_vc' (E := S.E 0) rfl folC Try.func17 rfl rfl (slots := [4]) rfl rfl fun hw => ?_
  set_option smartUnfolding false in conv => whnf
  refine br_intro (fun h2 => ?_) (fun h2 => ?_) <;> set_option smartUnfolding false in conv => whnf
  · have h2 := dT h2
    refine acall_det (ps := [.lst 2 (Ix.pvL ks), .lst 2 (Ix.pvL ks')]) h ?_
    set_option smartUnfolding false in conv => whnf
    refine rdB ?_
    rw [h2, cmpI_self]
    by_cases h3 : cmpI (ks.length : Int) ks'.length = 0
    · have := cmpI_zero.1 h3
      rw [h3]; simp; intro _; omega
    · have h4 : ¬ ks.length = ks'.length := fun h => h3 (cmpI_zero.2 (by rw [h]))
      simp [h3, h4]
  · have h2 := dF h2
    have h2' : ¬ cmpI n n' = 0 := fun h => h2 (cmpI_zero.1 h)
    exact rdB (by simp [h2'])

theorem sameIs_of (ks ks' : List Ix) (ih : ∀ v ∈ ks, ∀ w : Ix, Det Try.prog 17 [v.pv, w.pv] (.bool (decide (v.cmp w = 0)))) :
    Det Try.prog 27 [.lst 2 (Ix.pvL ks), .lst 2 (Ix.pvL ks')] (.bool (decide (ks.length = ks'.length ∧ Ix.cmpL ks ks' = 0))) := by
  refine det_of_vc' (E := S.E 0) rfl folC Try.func27 rfl rfl (slots := [4]) rfl rfl fun hw => ?_
  have hl : ks.length ≤ 9223372036854775807 := by have := hw.1.1; rwa [Ix.pvL_len] at this
  set_option smartUnfolding false in conv => whnf
  refine br_intro (fun h => ?_) (fun h => ?_) <;> set_option smartUnfolding false in conv => whnf
  · have h : ¬ ks.length = ks'.length := by simp [Ix.pvL_len] at h; omega
    exact rdB (by simp [h])
  have hlen : ks.length = ks'.length := by simp [Ix.pvL_len] at h; omega
  generalize hR : decide (ks.length = ks'.length ∧ Ix.cmpL ks ks' = 0) = R
  have hR : decide (Ix.cmpL ks ks' = 0) = R := by rw [← hR]; simp [hlen]
  refine vloop_intro (σ := Nat) (fun i => i ≤ ks.length ∧ decide (Ix.cmpL (ks.drop i) (ks'.drop i) = 0) = R)
    (fun i => [(0, .pv (.lst 2 (Ix.pvL ks))), (1, .pv (.lst 2 (Ix.pvL ks'))), (12, .pv (.int .i64 (Ix.pvL ks).length)), (13, .pv (.int .i64 i))])
    (fun _ => []) (fun i => ks.length - i) 0 ⟨by simp, by simpa using hR⟩ (weak_bare rfl ⟨rfl, rfl, rfl, rfl, trivial⟩) ?_
  rintro i ⟨hi, hs⟩
  set_option smartUnfolding false in conv => whnf
  refine br_intro (fun h => ?_) (fun h => ?_) <;> set_option smartUnfolding false in conv => whnf
  · replace h : i < ks.length := by have := dT h; rw [Ix.pvL_len] at this; simpa using this
    obtain ⟨⟨n1, ks1⟩, hv, hg, _, hd⟩ := Ix.get_pvL h
    obtain ⟨⟨n2, ks2⟩, hv2, hg2, _, hd2⟩ := Ix.get_pvL (l := ks') (i := i) (by omega)
    rw [Ix.pv_mk] at hg hg2
    rw [hd, hd2, Ix.cmpL_zero_cons] at hs
    refine ⟨Ix.ag n1 ks1, ⟨by simp, by simpa using hg⟩, ?_⟩
    set_option smartUnfolding false in conv => whnf
    refine ⟨Ix.ag n2 ks2, ⟨by simp, by simpa using hg2⟩, ?_⟩
    set_option smartUnfolding false in conv => whnf
    refine acall_det (ps := [Ix.ag n1 ks1, Ix.ag n2 ks2]) (Ix.pv_mk n1 ks1 ▸ Ix.pv_mk n2 ks2 ▸ ih _ hv (.mk n2 ks2)) ?_
    set_option smartUnfolding false in conv => whnf
    refine br_intro (fun h2 => ?_) (fun h2 => ?_) <;> set_option smartUnfolding false in conv => whnf
    · have h2 : decide (Ix.cmp (.mk n1 ks1) (.mk n2 ks2) = 0) = false := by simpa using h2
      exact rdB (by rw [← hs, h2]; rfl)
    · have h2 : decide (Ix.cmp (.mk n1 ks1) (.mk n2 ks2) = 0) = true := by simpa using h2
      rw [h2, Bool.true_and] at hs
      refine ⟨i + 1, ⟨h, hs⟩, weak_bare rfl ⟨rfl, rfl, rfl, sUp h hl, trivial⟩, subUp h⟩
  · replace h : ¬ i < ks.length := by have := dF h; rw [Ix.pvL_len] at this; simpa using this
    rw [List.drop_of_length_le (by omega), Ix.cmpL_nil] at hs
    exact rdB hs

theorem sameI_det (v : Ix) : ∀ w : Ix, Det Try.prog 17 [v.pv, w.pv] (.bool (decide (v.cmp w = 0))) := by
  refine Ix.recOn' (p := fun v => ∀ w : Ix, Det Try.prog 17 [v.pv, w.pv] (.bool (decide (v.cmp w = 0)))) (fun n ks ih w => sameI_of _ _ ?_) v
  rintro n0 ks0 n' ks' h rfl
  cases h
  exact sameIs_of ks ks' ih
theorem sameIs_det (ks ks' : List Ix) : Det Try.prog 27 [.lst 2 (Ix.pvL ks), .lst 2 (Ix.pvL ks')] (.bool (decide (ks.length = ks'.length ∧ Ix.cmpL ks ks' = 0))) := sameIs_of ks ks' fun v _ => sameI_det v
end Go.AM
