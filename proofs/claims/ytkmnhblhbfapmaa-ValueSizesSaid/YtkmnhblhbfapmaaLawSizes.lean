import Derived.Test.YtkmnhblhbfapmaaLawA
import Derived.Test.YtkmnhblhbfapmaaRows
set_option linter.all false
namespace Go.Proofs.Ytkmnhblhbfapmaa.valueSizes
open Go.ChangeShapes Go.WideShapes Go.ChangeAt Go.RowKit Go.AM

theorem laidOut : laidOutB Try.prog = true := by kernel_rfl
theorem own : ownKnob Try.prog.godebug = none := by kernel_rfl

theorem agg_of {v u : Value} (h : u.cells.toList = v.cells.toList) (hu : ∃ a b c : Value, u = .agg #[a, b, c]) : u = v := by
  obtain ⟨a, b, c, rfl⟩ := hu
  cases v with
  | agg cs => simp [Value.cells] at h ⊢; apply Array.toList_inj.1; simpa using h
  | _ => simp [Value.cells] at h

set_option maxRecDepth 100000 in
theorem lifted (os : Os) (started : os.Started) (H : Type) (enc : TypeId × Value → H) :
    ReturnsInHanded {} Try.checked os 3 .any (Rows.valueSizesSpec.pre6 enc Try.prog Try.f3 Rows.valueSizesRow.domain false) (Rows.valueSizesSpec.post enc Try.prog Try.f3 false true false false) := by
  refine returnsInHanded_of_change (C := Try.checked) own started (by kernel_rfl) Try.func3
    (ChangeSpec.witness6 (enc := enc) (C := Try.checked) false ⟨#[], #[.agg #[.int .i64 0, .int .i64 0, .slice none 0 0]], []⟩ 8 (by kernel_rfl) (by kernel_rfl) (by kernel_rfl) (by kernel_rfl)) ?_
  intro W base args ds gs before hval0 hW hcnd _
  have hW' := hW
  have hlt := hW.lt
  obtain ⟨p, q, hA0, hV, rfl, hfz, hnd⟩ := hW
  have hA : DataW.TrodAll enc Try.prog W 0 (fun _ => true) true Try.f3.params.toList args.toList ds p := hA0
  rw [Try.params3] at hA
  obtain ⟨v0, vs0, d0, ds0, p0, q0, hargs, rfl, rfl, h0, r0⟩ := trodAll_cons hA
  obtain ⟨rfl, rfl, rfl⟩ := trodAll_nil r0
  obtain rfl : args = #[v0] := by cases args; simp_all
  obtain ⟨rfl, rfl⟩ := trodVars_none hV
  have k0 := h0
  obtain ⟨fuel, hfu⟩ := h0
  obtain ⟨v, u, hp, hc, _⟩ := trod_V fuel _ _ hfu
  have hu : ∃ a b c : Value, u = .agg #[a, b, c] := by
    obtain ⟨k, m, ks⟩ := v
    rw [V.pv_mk] at hp
    simp only [PR, CR] at hp
    obtain ⟨vs, rfl, a, us, rfl, _, _, b, us2, rfl, _, _, c, us3, rfl, _, _, rfl⟩ := hp
    exact ⟨a, b, c, rfl⟩
  obtain rfl := agg_of hc hu
  simp only [List.append_nil] at hW' hlt
  refine ((valueSizes_det v).calls W NoX [u] (fun b hb => hb.elim) (by simp only [TR]; exact ⟨u, [], rfl, hp, rfl⟩)).mono fun e W' ⟨r, he, hr, hg⟩ => ?_
  simp only [PR] at hr
  subst hr
  have lt0 : ∀ x ∈ p0, x.block < W.heap.size := by obtain ⟨m, hm⟩ := k0; exact DataW.trod_lt m _ _ _ hm
  exact ⟨_, he, _, _, _, [], _, [], hW', trodAll_mk1 (shut_bool Try.underlying4 _), (trodAll_cons_mk (Below.trod laidOut (by kernel_rfl) (of_decide_eq_true (by kernel_rfl)) k0 hg.below lt0) trodAll_mk0), rfl, hg.below.frame _, fun h => by cases h⟩

theorem over : Rows.valueSizesRow.holds Try.pinned (OpenSpec.ofChange Rows.valueSizesSpec) :=
  OpenClaim.holds_of_wide 3 Try.f3 rfl rfl rfl rfl rfl rfl rfl ⟨rfl, rfl, rfl, rfl, rfl⟩ rfl rfl rfl rfl rfl (by kernel_rfl) Try.func3 (by kernel_rfl)
    (of_decide_eq_true (by kernel_rfl)) (by unfold Func.isWrapper; first | (rw [if_pos (by decide +kernel)]; kernel_rfl) | (rw [if_neg (by decide +kernel)]; exact ⟨rfl, rfl⟩))
    (fun os started H enc _ => lifted os started H enc)
theorem proved : Rows.ValueSizesSaid := over
end Go.Proofs.Ytkmnhblhbfapmaa.valueSizes
