import Derived.Test.YtfkkfgeepiopaaaGreatPreE
import Derived.Test.YtfkkfgeepiopaaaGreatSame
import Derived.Test.YtfkkfgeepiopaaaGreatKpD
import Derived.Test.YtfkkfgeepiopaaaGreatEat
set_option linter.all false
set_option maxRecDepth 20000
set_option maxHeartbeats 4000000
namespace Go.AM
open Go.Proofs

/-! ### The smallest data type -/
def D0 : List Dt := [⟨⟨#[68]⟩, 0, [⟨⟨#[67]⟩, []⟩]⟩]
def leaf0 : V := .mk 5 0 []
theorem upName_one {b : UInt8} (h1 : 65 ≤ b.toNat) (h2 : b.toNat ≤ 90) : upName ⟨#[b]⟩ = true := by
  have e : bt ⟨#[b]⟩ 0 = (b.toNat : Int) := rfl
  have hg : bGr (bt ⟨#[b]⟩ 0) = true := by rw [e]; unfold bGr; rw [decide_eq_true (by omega), decide_eq_true (by omega)]; rfl
  have hu : UpN ⟨#[b]⟩ := by
    refine ⟨by show 1 ≤ 1; omega, by show 1 ≤ 24; omega, hg, fun k hk => ?_⟩
    have hk : k < 1 := hk
    have : k = 0 := by omega
    subst this
    unfold bPt
    rw [hg]; simp
  simp [upName, hu]
theorem D0_ok : DOK D0 ∧ DN D0 := by
  refine ⟨⟨by decide, ?_, ?_, ?_⟩, ⟨?_, ?_⟩⟩
  · intro d hd; simp [D0] at hd; subst hd; decide
  · intro d hd c hc; simp [D0] at hd; subst hd; simp at hc; subst hc; decide
  · intro d hd c hc a ha; simp [D0] at hd; subst hd; simp at hc; subst hc; simp at ha
  · intro d hd; simp [D0] at hd; subst hd; decide
  · intro d hd c hc; simp [D0] at hd; subst hd; simp at hc; subst hc; decide
theorem D0_valid : dvalid D0 = true := by
  unfold dvalid
  have h1 : ndup (namesOf D0) = true := ndup_iff.2 (by simp [namesOf, D0])
  have h2 : ndup (cnamesOf D0) = true := ndup_iff.2 (by simp [cnamesOf, D0])
  rw [h1, h2]
  have h3 : decsR D0 0 D0 = true := by
    unfold D0
    rw [decsR_cons, decsR_nil, consR_cons, consR_nil, argsR_nil]
    simp only
    rw [upName_one (b := 68) (by decide) (by decide), upName_one (b := 67) (by decide) (by decide)]
    rfl
  rw [h3]; rfl
theorem leaf0_cnt : leaf0.cnt = 1 := by unfold leaf0; rw [V.cnt_mk, V.cntL_nil]
theorem leaf0_known : known D0 leaf0 = true := by
  unfold known V.okW
  rw [D0_valid, leaf0_cnt]
  have : V.okT D0 0 leaf0 = true := by
    unfold leaf0
    rw [V.okT_mk]
    have : V.shape D0 0 5 0 = some (true, 0, 0) := by unfold V.shape; rw [if_neg (by omega), if_neg (by omega), if_pos rfl]; rfl
    rw [this]
    simp [V.okTL_nil]
  rw [this]; rfl
theorem leaf0_has : hasS D0 leaf0 leaf0 = true := by
  unfold hasS
  rw [leaf0_known, leaf0_cnt]
  have : V.has D0 leaf0 leaf0 = true := by
    unfold leaf0
    rw [V.has_t5]
    have : fieldsS D0 (.mk 5 0 []) 0 = some [] := rfl
    rw [this]
    simp [V.hasE_nil]
  rw [this]; rfl
theorem leaf0_pre : (V.pvL (preS D0 leaf0 leaf0)).length = 1 := by
  have h : preS D0 leaf0 leaf0 = V.pre D0 0 leaf0 := preS_yes leaf0_has
  rw [h, V.pvL_len]
  unfold leaf0
  rw [V.pre_mk, V.preL_nil]; rfl
theorem D0_pv : Dt.pvL D0 = [.agg [.str ⟨#[68]⟩, .int .i64 0, .lst 2 [.agg [.str ⟨#[67]⟩, .lst 3 []]]]] := by
  unfold D0 Dt.pvL
  simp only [List.map_cons, List.map_nil]
  unfold Dt.pv
  simp only [Dt.ag]
  unfold Cn.pvL
  simp only [List.map_cons, List.map_nil]
  unfold Cn.pv
  simp only [Cn.ag, V.pvL_nil]
theorem leaf0_pv : leaf0.pv = .agg [.int .i64 5, .int .i64 0, .lst 3 []] := by unfold leaf0; rw [V.pv_mk]; simp only [V.ag, V.pvL_nil]

theorem keepT_cnt {v : V} (h : (v.val 250).1 = true) : v.cnt ≤ 250 := by
  have := (V.val_spec v 250 (by omega) (by omega)).1 h; omega
theorem valuePreorders_det (D : List Dt) (v t : V) : Det Tryz.prog 3 [.lst 3 (Dt.pvL D), v.pv, t.pv] (.bool true) := by
  have k1 := keepData_det D
  have k2 := keepV_det v
  have k3 := keepT_det t
  have p1 := fun h : keepD D = true => Pre_det (keepD_ok h).1 (keepD_ok h).2 v t
  have p2 := fun (h : keepD D = true) (h2 : (t.val 250).1 = true) => rPre_det (keepD_ok h).1 (keepD_ok h).2 v t (by have := keepT_cnt h2; omega)
  have p3 := sameVs_det (preS D v t) (preS D v t)
  rw [V.sameL_self] at p3
  have p4 := Pre_det D0_ok.1 D0_ok.2 leaf0 leaf0
  have p5 := leaf0_pre
  generalize V.pvL (preS D0 leaf0 leaf0) = L0 at p4 p5
  rw [D0_pv, leaf0_pv] at p4
  generalize V.pvL (preS D v t) = L at p1 p2 p3
  generalize keepD D = b1 at k1 p1 p2
  generalize (v.val 400).1 = b2 at k2
  generalize (t.val 250).1 = b3 at k3 p2
  obtain ⟨k, n, ks⟩ := v
  obtain ⟨tk, tn, ts⟩ := t
  rw [V.pv_mk] at k2 k3 p1 p2
  rw [V.pv_mk] at p1 p2
  rw [V.pv_mk, V.pv_mk]
  refine det_of_vc' (E := S.E 0) rfl fol Tryz.func3 rfl rfl (slots := [6]) rfl rfl fun hw => ?_
  set_option smartUnfolding false in conv => whnf
  refine acall_det (ps := [.lst 3 (Dt.pvL D)]) k1 ?_
  set_option smartUnfolding false in conv => whnf
  refine br_intro (fun h1 => ?_) (fun h1 => ?_) <;> set_option smartUnfolding false in conv => whnf
  · exact rdB rfl
  have h1 : b1 = true := by simpa using h1
  refine acall_det (ps := [V.ag k n ks]) k2 ?_
  set_option smartUnfolding false in conv => whnf
  refine br_intro (fun h2 => ?_) (fun h2 => ?_) <;> set_option smartUnfolding false in conv => whnf
  · exact rdB rfl
  refine acall_det (ps := [V.ag tk tn ts]) k3 ?_
  set_option smartUnfolding false in conv => whnf
  refine br_intro (fun h3 => ?_) (fun h3 => ?_) <;> set_option smartUnfolding false in conv => whnf
  · exact rdB rfl
  have h3 : b3 = true := by simpa using h3
  refine acall_det (ps := [.lst 3 (Dt.pvL D), V.ag k n ks, V.ag tk tn ts]) (p1 h1) ?_
  set_option smartUnfolding false in conv => whnf
  refine acall_det (ps := [.lst 3 (Dt.pvL D), V.ag k n ks, V.ag tk tn ts]) (p2 h1 h3) ?_
  set_option smartUnfolding false in conv => whnf
  refine acall_det (ps := [.lst 3 L, .lst 3 L]) p3 ?_
  set_option smartUnfolding false in conv => whnf
  refine acall_intro (adet_eat (S := [3, 2]) p4 (.cons (Rd.row (id := 3) (n := 1) (t := 36) (sz := 3) (xs := [.mix [.pv (.str ⟨#[68]⟩), .pv (.int .i64 0), .row 2 1]]) (ps := [.agg [.str ⟨#[68]⟩, .int .i64 0, .lst 2 [.agg [.str ⟨#[67]⟩, .lst 3 []]]]]) (.head _) (by kernel_rfl) (Nat.le_refl 1)
    (.cons (.mix (.cons (.pv _) (.cons (.pv _) (.cons (Rd.row (id := 2) (n := 1) (t := 33) (sz := 2) (xs := [.pv (.agg [.str ⟨#[67]⟩, .nils])]) (ps := [.agg [.str ⟨#[67]⟩, .lst 3 []]]) (.tail _ (.head _)) (by kernel_rfl) (Nat.le_refl 1) (.cons (.le (.agg (.cons (.refl _) (.cons (.nils 3) .nil)))) .nil)) .nil)))) .nil))
    (.cons (.le (.agg (.cons (.refl _) (.cons (.refl _) (.cons (.nils 3) .nil))))) (.cons (.le (.agg (.cons (.refl _) (.cons (.refl _) (.cons (.nils 3) .nil))))) .nil)))) ?_
  set_option smartUnfolding false in conv => whnf
  exact rdB (by rw [p5]; rfl)
end Go.AM
