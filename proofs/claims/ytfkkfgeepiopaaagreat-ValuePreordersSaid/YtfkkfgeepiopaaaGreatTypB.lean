import Derived.Test.YtfkkfgeepiopaaaGreatTypA
import Derived.Test.YtfkkfgeepiopaaaGreatValD
set_option linter.all false
set_option maxRecDepth 4000
namespace Go.AM
open Go.Proofs

/-! ### Data types -/
structure Cn where
  name : ByteArray
  args : List V
structure Dt where
  name : ByteArray
  vars : Int
  cons : List Cn
abbrev Cn.ag (nm : ByteArray) (ts : List V) : PV := .agg [.str nm, .lst 3 (V.pvL ts)]
def Cn.pv (c : Cn) : PV := Cn.ag c.name c.args
def Cn.pvL (l : List Cn) : List PV := l.map Cn.pv
abbrev Dt.ag (nm : ByteArray) (vs : Int) (cs : List Cn) : PV := .agg [.str nm, .int .i64 vs, .lst 2 (Cn.pvL cs)]
def Dt.pv (d : Dt) : PV := Dt.ag d.name d.vars d.cons
def Dt.pvL (l : List Dt) : List PV := l.map Dt.pv
theorem Cn.pvL_len (l : List Cn) : (Cn.pvL l).length = l.length := by simp [Cn.pvL]
theorem Dt.pvL_len (l : List Dt) : (Dt.pvL l).length = l.length := by simp [Dt.pvL]
theorem Cn.get_pvL {l : List Cn} {i : Nat} (h : i < l.length) : ∃ nm ts, Cn.mk nm ts ∈ l ∧ (Cn.pvL l)[i]? = some (Cn.ag nm ts) ∧ l[i]? = some ⟨nm, ts⟩ ∧ l.drop i = ⟨nm, ts⟩ :: l.drop (i + 1) :=
  ⟨l[i].name, l[i].args, List.getElem_mem h, by simp [Cn.pvL, h]; rfl, by simp [h], (List.drop_eq_getElem_cons h)⟩
theorem Dt.get_pvL {l : List Dt} {i : Nat} (h : i < l.length) : ∃ nm vs cs, Dt.mk nm vs cs ∈ l ∧ (Dt.pvL l)[i]? = some (Dt.ag nm vs cs) ∧ l[i]? = some ⟨nm, vs, cs⟩ ∧ l.drop i = ⟨nm, vs, cs⟩ :: l.drop (i + 1) :=
  ⟨l[i].name, l[i].vars, l[i].cons, List.getElem_mem h, by simp [Dt.pvL, h]; rfl, by simp [h], (List.drop_eq_getElem_cons h)⟩
attribute [irreducible] Cn.pvL Dt.pvL Cn.pv Dt.pv

theorem V.get_elim {P : Prop} {l : List V} {i : Nat} (h : i < l.length) (k : ∀ k n us, V.mk k n us ∈ l → (V.pvL l)[i]? = some (V.ag k n us) → l[i]? = some (.mk k n us) → l.drop i = .mk k n us :: l.drop (i + 1) → P) : P := by
  obtain ⟨⟨k', n', us'⟩, h1, h2, h3, h4⟩ := V.get_pvL h
  rw [V.pv_mk] at h2
  exact k k' n' us' h1 h2 h3 h4
theorem Cn.get_elim {P : Prop} {l : List Cn} {i : Nat} (h : i < l.length) (k : ∀ nm us, Cn.mk nm us ∈ l → (Cn.pvL l)[i]? = some (Cn.ag nm us) → l[i]? = some ⟨nm, us⟩ → l.drop i = ⟨nm, us⟩ :: l.drop (i + 1) → P) : P := by
  obtain ⟨nm, us, h1, h2, h3, h4⟩ := Cn.get_pvL h
  exact k nm us h1 h2 h3 h4
theorem Dt.get_elim {P : Prop} {l : List Dt} {i : Nat} (h : i < l.length) (k : ∀ nm vs cs, Dt.mk nm vs cs ∈ l → (Dt.pvL l)[i]? = some (Dt.ag nm vs cs) → l[i]? = some ⟨nm, vs, cs⟩ → l.drop i = ⟨nm, vs, cs⟩ :: l.drop (i + 1) → P) : P := by
  obtain ⟨nm, vs, cs, h1, h2, h3, h4⟩ := Dt.get_pvL h
  exact k nm vs cs h1 h2 h3 h4
/-! ### Nodes of a type -/
theorem V.cnt_mk (k n : Int) (ts : List V) : V.cnt (.mk k n ts) = 1 + V.cntL ts := by simp [V.cnt]
theorem V.cntL_nil : V.cntL [] = 0 := by simp [V.cntL]
theorem V.cntL_cons (v : V) (l : List V) : V.cntL (v :: l) = v.cnt + V.cntL l := by simp [V.cntL]
theorem V.cnt_mem {v : V} {l : List V} (h : v ∈ l) : v.cnt ≤ V.cntL l := by
  induction l with
  | nil => simp at h
  | cons a l ih =>
    rw [V.cntL_cons]
    rcases List.mem_cons.1 h with rfl | h
    · omega
    · have := ih h; omega
theorem V.cntL_drop (l : List V) (i : Nat) : V.cntL (l.drop i) ≤ V.cntL l := by
  induction i generalizing l with
  | zero => simp
  | succ i ih => cases l with
    | nil => simp
    | cons a l => rw [List.drop_succ_cons, V.cntL_cons]; have := ih l; omega
theorem V.len_cntL (l : List V) : l.length ≤ V.cntL l := by
  induction l with
  | nil => simp
  | cons a l ih => rw [V.cntL_cons]; have := V.cnt_pos a; simp; omega

theorem tsize_det (t : V) : ∀ m : Int, 1 ≤ m → m ≤ 1000000 → Det Tryz.prog 48 [t.pv, .int .i64 m] (.int .i64 (min (t.cnt : Int) m)) := by
  refine V.recOn' (p := fun t => ∀ m : Int, 1 ≤ m → m ≤ 1000000 → Det Tryz.prog 48 [t.pv, .int .i64 m] (.int .i64 (min (t.cnt : Int) m))) (fun k n ts ih m m1 m2 => ?_) t
  rw [V.pv_mk]
  generalize hR : min ((V.mk k n ts).cnt : Int) m = R
  rw [V.cnt_mk] at hR
  refine det_of_vc' (E := S.E 0) rfl fol Tryz.func48 rfl rfl (slots := [4]) rfl rfl fun hw => ?_
  have hl := V.lenle hw.1
  set_option smartUnfolding false in conv => whnf
  refine vloop_intro (σ := Nat × Int) (fun x => x.1 ≤ ts.length ∧ min (x.2 + V.cntL (ts.drop x.1)) m = R ∧ 1 ≤ x.2 ∧ x.2 ≤ m) (fun x => [(1, .pv (.int .i64 m)), (5, .pv (.int .i64 x.2)), (9, .pv (.lst 3 (V.pvL ts))), (10, .pv (.int .i64 (V.pvL ts).length)), (11, .pv (.int .i64 x.1))])
    (fun _ => []) (fun x => ts.length - x.1) (0, 1) ⟨by simp, by simp only [List.drop_zero]; rw [← hR]; congr 1, by simp, m1⟩ (weak_bare rfl ⟨(by kernel_rfl), (by kernel_rfl), (by kernel_rfl), (by kernel_rfl), (by kernel_rfl), trivial⟩) ?_
  rintro ⟨i, s⟩ ⟨hi, hs, hs1, hs2⟩
  simp only at hi hs hs1 hs2
  set_option smartUnfolding false in conv => whnf
  refine br_intro (fun h => ?_) (fun h => ?_) <;> set_option smartUnfolding false in conv => whnf
  · replace h : i < ts.length := by have := dT h; rw [V.pvL_len] at this; simpa using this
    obtain ⟨⟨k', n', ts'⟩, hv, hg, _, hd⟩ := V.get_pvL h
    rw [V.pv_mk] at hg
    rw [hd, V.cntL_cons] at hs
    refine ⟨V.ag k' n' ts', ⟨by simp, by simpa using hg⟩, ?_⟩
    set_option smartUnfolding false in conv => whnf
    refine br_intro (fun h2 => ?_) (fun h2 => ?_) <;> set_option smartUnfolding false in conv => whnf
    · exact rdI (by have := dT h2; omega)
    · have h2 := dF h2
      have e : IntKind.wrap .i64 (m - s) = m - s := wrapI (by omega) (by omega)
      have hih := ih _ hv (m - s) (by omega) (by omega)
      rw [V.pv_mk] at hih
      rw [e]
      refine acall_det (ps := [V.ag k' n' ts', .int .i64 (m - s)]) hih ?_
      set_option smartUnfolding false in conv => whnf
      refine ⟨(i + 1, s + min ((V.mk k' n' ts').cnt : Int) (m - s)), ⟨h, ?_, ?_, ?_⟩, weak_bare rfl ⟨(by kernel_rfl), sI (wrapI (by omega) (by omega)), (by kernel_rfl), (by kernel_rfl), sUp h hl, trivial⟩, subUp h⟩
      · simp only; omega
      · simp only; omega
      · simp only; omega
  · replace h : ¬ i < ts.length := by have := dF h; rw [V.pvL_len] at this; simpa using this
    rw [List.drop_of_length_le (by omega), V.cntL_nil] at hs
    exact rdI (by split <;> omega)

theorem rtsize_det (t : V) : t.cnt ≤ 1000000 → Det Tryz.prog 36 [t.pv] (.int .i64 t.cnt) := by
  refine V.recOn' (p := fun t => t.cnt ≤ 1000000 → Det Tryz.prog 36 [t.pv] (.int .i64 t.cnt)) (fun k n ts ih hc => ?_) t
  rw [V.cnt_mk] at hc
  rw [V.pv_mk]
  generalize hR : ((V.mk k n ts).cnt : Int) = R
  rw [V.cnt_mk] at hR
  refine det_of_vc' (E := S.E 0) rfl fol Tryz.func36 rfl rfl (slots := [2]) rfl rfl fun hw => ?_
  have hl := V.lenle hw.1
  set_option smartUnfolding false in conv => whnf
  refine vloop_intro (σ := Nat × Nat) (fun x => x.1 ≤ ts.length ∧ ((x.2 + V.cntL (ts.drop x.1) : Nat) : Int) = R) (fun x => [(1, .bp 0 0), (3, .pv (.int .i64 x.2)), (4, .pv (.int .i64 x.1))])
    (fun _ => [.box 28 [.pv (.int .i64 k), .pv (.int .i64 n), .pv (.lst 3 (V.pvL ts))]]) (fun x => ts.length - x.1) (0, 1) ⟨by simp, by simpa using hR⟩ (weak_sub ⟨(by kernel_rfl), (by kernel_rfl), (by kernel_rfl), trivial⟩) ?_
  rintro ⟨i, s⟩ ⟨hi, hs⟩
  simp only at hi hs
  set_option smartUnfolding false in conv => whnf
  refine br_intro (fun h => ?_) (fun h => ?_) <;> set_option smartUnfolding false in conv => whnf
  · replace h : i < ts.length := by have := dT h; rw [V.pvL_len] at this; simpa using this
    obtain ⟨⟨k', n', ts'⟩, hv, hg, _, hd⟩ := V.get_pvL h
    rw [V.pv_mk] at hg
    rw [hd, V.cntL_cons] at hs
    have hle := V.cnt_mem hv
    refine ⟨V.ag k' n' ts', ⟨by simp, by simpa using hg⟩, ?_⟩
    set_option smartUnfolding false in conv => whnf
    have hih := ih _ hv (by omega)
    rw [V.pv_mk] at hih
    refine acall_det (ps := [V.ag k' n' ts']) hih ?_
    set_option smartUnfolding false in conv => whnf
    refine ⟨(i + 1, s + (V.mk k' n' ts').cnt), ⟨h, ?_⟩, weak_sub ⟨(by kernel_rfl), sI ?_, sUp h hl, trivial⟩, subUp h⟩
    · simp only; omega
    · simp only; rw [wrapI] <;> omega
  · replace h : ¬ i < ts.length := by have := dF h; rw [V.pvL_len] at this; simpa using this
    rw [List.drop_of_length_le (by omega), V.cntL_nil] at hs
    exact rdI (by omega)
end Go.AM
