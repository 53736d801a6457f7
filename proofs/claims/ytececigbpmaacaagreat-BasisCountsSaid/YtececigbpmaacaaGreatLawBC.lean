/- What is proved: amortcostlaw16.BasisCounts returns true for every input, and each argument reads afterwards as before. Conditions: none beyond the statement's own. -/
import Derived.Test.YtececigbpmaacaaGreatPkK
import Derived.Test.YtececigbpmaacaaGreatRows
set_option linter.all false
namespace Go.Proofs.YtececigbpmaacaaGreat.basisCounts
open Go.ChangeShapes Go.WideShapes Go.ChangeAt Go.RowKit Go.AM

theorem laidOut : laidOutB Tryz.prog = true := by kernel_rfl
theorem own : ownKnob Tryz.prog.godebug = none := by kernel_rfl

set_option maxRecDepth 100000 in
theorem lifted (os : Os) (started : os.Started) (H : Type) (enc : TypeId × Value → H) :
    ReturnsInHanded {} Tryz.checked os 3 .any (Rows.basisCountsSpec.pre6 enc Tryz.prog Tryz.f3 Rows.basisCountsRow.domain false) (Rows.basisCountsSpec.post enc Tryz.prog Tryz.f3 false true false false) := by
  refine returnsInHanded_of_change (C := Tryz.checked) own started (by kernel_rfl) Tryz.func3
    (ChangeSpec.witness6 (enc := enc) (C := Tryz.checked) false ⟨#[], #[.slice none 0 0, .agg #[.int .i64 0, .int .i64 0, .slice none 0 0], .agg #[.int .i64 0, .int .i64 0, .slice none 0 0], .int .i64 0], []⟩ 8 (by kernel_rfl) (by kernel_rfl) (by kernel_rfl) (by kernel_rfl)) ?_
  intro W base args ds gs before hval hW hcnd _
  have hW' := hW
  have hlt := hW.lt
  obtain ⟨p, q, hA0, hV, rfl, hfz, hnd⟩ := hW
  have hA : DataW.TrodAll enc Tryz.prog W 0 (fun _ => true) true Tryz.f3.params.toList args.toList ds p := hA0
  rw [Tryz.params3] at hA hval
  have hA1 := hA
  obtain ⟨u0, us0, d0, ds0, p0, q0, e0, rfl, rfl, h0, r0⟩ := trodAll_cons hA1
  obtain ⟨u1, us1, d1, ds1, p1, q1, rfl, rfl, rfl, h1, r1⟩ := trodAll_cons r0
  obtain ⟨u2, us2, d2, ds2, p2, q2, rfl, rfl, rfl, h2, r2⟩ := trodAll_cons r1
  obtain ⟨u3, us3, d3, ds3, p3, q3, rfl, rfl, rfl, h3, r3⟩ := trodAll_cons r2
  obtain ⟨rfl, rfl, rfl⟩ := trodAll_nil r3
  obtain rfl : args = #[u0, u1, u2, u3] := by cases args; simp_all
  obtain ⟨rfl, rfl⟩ := trodVars_none hV
  obtain ⟨D, a0⟩ := arg_Ds (hval 0 _ _ rfl rfl) h0
  obtain ⟨t, a1⟩ := arg_T (hval 1 _ _ rfl rfl) h1
  obtain ⟨v, a2⟩ := arg_V (hval 2 _ _ rfl rfl) h2
  obtain ⟨c, a3⟩ := arg_Int (hval 3 _ _ rfl rfl) h3
  refine (law_calls laidOut (by kernel_rfl) hA (fun x hx => hlt x (by simp_all)) (fun p hp => by cases hp) ⟨_, TR_cons a0 (TR_cons a1 (TR_cons a2 (TR_cons a3 TR_nil))), basisCounts_det D t v c⟩).mono fun e W' ⟨he, hb, ha⟩ => ?_
  exact ⟨_, he, _, _, _, [], _, [], hW', trodAll_mk1 (shut_bool Tryz.underlying4 _), ha, rfl, hb.frame _, fun h => by cases h⟩

theorem over : Rows.basisCountsRow.holds Tryz.pinned (OpenSpec.ofChange Rows.basisCountsSpec) :=
  OpenClaim.holds_of_wide 3 Tryz.f3 rfl rfl rfl rfl rfl rfl rfl ⟨rfl, rfl, rfl, rfl, rfl⟩ rfl rfl rfl rfl rfl (by kernel_rfl) Tryz.func3 (by kernel_rfl)
    (of_decide_eq_true (by kernel_rfl)) (by unfold Func.isWrapper; first | (rw [if_pos (by decide +kernel)]; kernel_rfl) | (rw [if_neg (by decide +kernel)]; exact ⟨rfl, rfl⟩))
    (fun os started H enc _ => lifted os started H enc)
theorem proved : Rows.BasisCountsSaid := over
end Go.Proofs.YtececigbpmaacaaGreat.basisCounts
