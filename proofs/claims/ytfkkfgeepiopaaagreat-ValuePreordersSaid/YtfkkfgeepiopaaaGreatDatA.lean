import Derived.Test.YtfkkfgeepiopaaaGreatTokX
import Derived.Test.YtfkkfgeepiopaaaGreatRecB
set_option linter.all false
set_option maxRecDepth 20000
set_option maxHeartbeats 2000000
namespace Go.AM
open Go.Proofs

/-! ### A type that mentions a declaration -/
mutual
def V.ment (d : Int) : V → Bool
  | .mk k n ts => (decide (k = 5) && decide (n = d)) || V.mentL d ts
def V.mentL (d : Int) : List V → Bool
  | [] => false
  | t :: l => V.ment d t || V.mentL d l
end
theorem V.ment_mk (d k n : Int) (ts : List V) : V.ment d (.mk k n ts) = ((decide (k = 5) && decide (n = d)) || V.mentL d ts) := by rw [V.ment]
theorem V.mentL_nil (d : Int) : V.mentL d [] = false := by rw [V.mentL]
theorem V.mentL_cons (d : Int) (t : V) (l : List V) : V.mentL d (t :: l) = (V.ment d t || V.mentL d l) := by rw [V.mentL]
theorem V.mentL_any (d : Int) : ∀ l : List V, (l.any fun t => V.ment d t) = V.mentL d l
  | [] => by rw [V.mentL_nil]; rfl
  | t :: l => by rw [V.mentL_cons, ← V.mentL_any d l]; simp
attribute [irreducible] V.ment V.mentL

theorem ment1_of (d : Int) (t : V) (h : Det Tryz.prog 57 [t.pv, .int .i64 d] (.bool (V.ment d t))) : Det Tryz.prog 81 [t.pv, .cp [.int .i64 d]] (.bool (V.ment d t)) := by
  obtain ⟨k, n, ts⟩ := t
  rw [V.pv_mk] at h ⊢
  refine det_of_vc' (E := S.E 0) rfl fol Tryz.func81 rfl rfl (slots := [3]) rfl rfl fun hw => ?_
  set_option smartUnfolding false in conv => whnf
  refine acall_det (ps := [V.ag k n ts, .int .i64 d]) h ?_
  set_option smartUnfolding false in conv => whnf
  exact rdB rfl
theorem ment_det (d : Int) (t : V) : Det Tryz.prog 57 [t.pv, .int .i64 d] (.bool (V.ment d t)) := by
  refine V.recOn' (p := fun t => Det Tryz.prog 57 [t.pv, .int .i64 d] (.bool (V.ment d t))) (fun k n ts ih => ?_) t
  have hc := hasT_det ts 81 [.cp [.int .i64 d]] (fun t => V.ment d t) fun t ht => ment1_of d t (ih t ht)
  rw [V.pv_mk, V.ment_mk, ← V.mentL_any]
  refine det_of_vc' (E := S.E 0) rfl fol Tryz.func57 rfl rfl (slots := [4]) rfl rfl fun hw => ?_
  set_option smartUnfolding false in conv => whnf
  refine br_intro (fun h1 => ?_) (fun h1 => ?_) <;> set_option smartUnfolding false in conv => whnf
  · refine br_intro (fun h2 => ?_) (fun h2 => ?_) <;> set_option smartUnfolding false in conv => whnf
    · exact rdB (by rw [h1, h2]; rfl)
    · refine acall_intro (adet_read (S := [1]) hc (.cons (.pv _) (.cons (.fn (.cons (.bp (.head _) rfl (.cons (.pv _) .nil)) .nil)) .nil)) rfl) ?_
      set_option smartUnfolding false in conv => whnf
      refine rdB ?_
      rw [h1, h2]; rfl
  · refine acall_intro (adet_read (S := [1]) hc (.cons (.pv _) (.cons (.fn (.cons (.bp (.head _) rfl (.cons (.pv _) .nil)) .nil)) .nil)) rfl) ?_
    set_option smartUnfolding false in conv => whnf
    refine rdB ?_
    rw [h1]; rfl

/-! ### Lists of names -/
theorem strs_elim {P : Prop} {l : List ByteArray} {i : Nat} (h : i < l.length) (k : ∀ a, (strsP l)[i]? = some (.str a) → l[i]? = some a → l.drop i = a :: l.drop (i + 1) → P) : P := by
  obtain ⟨a, hga, hda⟩ := strsP_get h
  have ha : l[i]? = some a := by
    have := congrArg (fun x => x[0]?) hda
    simpa [List.getElem?_drop] using this
  exact k a hga ha hda
open Classical in
/-- No name twice. -/
noncomputable def ndup (l : List ByteArray) : Bool := decide l.Nodup
theorem ndup_iff {l : List ByteArray} : ndup l = true ↔ l.Nodup := by simp [ndup]
theorem ndup_not {l : List ByteArray} (h : ¬ l.Nodup) : ndup l = false := by simp [ndup, h]
theorem repeats_det (l : List ByteArray) : Det Tryz.prog 35 [.lst 1 (strsP l)] (.bool (!ndup l)) := by
  generalize hR : (!ndup l) = R
  refine det_of_vc' (E := S.E 0) rfl fol Tryz.func35 rfl rfl (slots := [2]) rfl rfl fun hw => ?_
  have hl : l.length ≤ 9223372036854775807 := by have := hw.1.1; rwa [strsP_len] at this
  set_option smartUnfolding false in conv => whnf
  refine vloop_intro (σ := Nat) (fun i => i ≤ l.length ∧ (l.take i).Nodup) (fun i => [(0, .pv (.lst 1 (strsP l))), (3, .pv (.int .i64 i))]) (fun _ => []) (fun i => l.length - i) 0 ⟨by simp, by simp⟩ (weak_bare rfl ⟨(by kernel_rfl), (by kernel_rfl), trivial⟩) ?_
  rintro i ⟨hi, hn⟩
  set_option smartUnfolding false in conv => whnf
  refine br_intro (fun h => ?_) (fun h => ?_) <;> set_option smartUnfolding false in conv => whnf
  · replace h : i < l.length := by have := dT h; rw [strsP_len] at this; simpa using this
    refine strs_elim h fun a hga ha hda => ?_
    refine vloop_intro (σ := Nat) (fun j => j ≤ i ∧ ∀ k b, k < j → l[k]? = some b → ¬ b = a) (fun j => [(0, .pv (.lst 1 (strsP l))), (3, .pv (.int .i64 i)), (4, .pv (.int .i64 j))]) (fun _ => []) (fun j => i - j) 0 ⟨by simp, by omega⟩ (weak_bare rfl ⟨(by kernel_rfl), (by kernel_rfl), (by kernel_rfl), trivial⟩) ?_
    rintro j ⟨hj, hjn⟩
    set_option smartUnfolding false in conv => whnf
    refine br_intro (fun g => ?_) (fun g => ?_) <;> set_option smartUnfolding false in conv => whnf
    · have g := dT g
      refine strs_elim (l := l) (i := j) (by omega) fun b hgb hb hdb => ?_
      refine ⟨.str a, ⟨by omega, by simpa using hga⟩, ?_⟩
      set_option smartUnfolding false in conv => whnf
      refine ⟨.str b, ⟨by omega, by simpa using hgb⟩, ?_⟩
      set_option smartUnfolding false in conv => whnf
      refine br_intro (fun c => ?_) (fun c => ?_) <;> set_option smartUnfolding false in conv => whnf
      · refine rdB ?_
        have e : a = b := ba_toList (by simpa using c)
        rw [← hR, ndup_not, Bool.not_false]
        intro hnd
        rw [← e] at hb
        have := List.getElem_inj (i := i) (j := j) (h₀ := h) (h₁ := by omega) hnd
        have e2 : l[i] = l[j]'(by omega) := by
          rw [List.getElem?_eq_getElem h] at ha
          rw [List.getElem?_eq_getElem (by omega)] at hb
          rw [Option.some.inj ha, Option.some.inj hb]
        have := this.1 e2
        omega
      · refine ⟨j + 1, ⟨by omega, fun k b' hk hb' => ?_⟩, weak_bare rfl ⟨(by kernel_rfl), (by kernel_rfl), sUp (n := i) (by omega) (by omega), trivial⟩, by show i - (j + 1) < i - j; omega⟩
        by_cases e : k = j
        · subst e
          rw [hb] at hb'
          cases hb'
          rintro rfl
          simp at c
        · exact hjn k b' (by omega) hb'
    · have g := dF g
      have hji : j = i := by omega
      refine ⟨i + 1, ⟨by omega, ?_⟩, weak_bare rfl ⟨(by kernel_rfl), sUp h hl, trivial⟩, subUp h⟩
      rw [hji] at hjn
      rw [List.take_add_one, ha]
      simp only [Option.toList_some]
      rw [List.nodup_append]
      refine ⟨hn, by simp, ?_⟩
      intro x hx y hy
      simp only [List.mem_singleton] at hy
      subst hy
      obtain ⟨k, hk⟩ := List.mem_iff_getElem?.1 hx
      rw [List.getElem?_take] at hk
      split at hk
      · exact hjn k x (by assumption) hk
      · cases hk
  · replace h : ¬ i < l.length := by have := dF h; rw [strsP_len] at this; simpa using this
    rw [List.take_of_length_le (by omega)] at hn
    exact rdB (by rw [← hR, ndup_iff.2 hn]; rfl)
end Go.AM
