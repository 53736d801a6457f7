/- What is proved: amortcostlaw15.IndexFormats returns true for every input, and each argument reads afterwards as before; the three listed variables of Go's library are tied to the program's text. Conditions: none beyond the statement's own. -/
import Derived.Test.YtelmconnpdmjhaaGreatDoorPkL
import Derived.Test.YtelmconnpdmjhaaGreatDoorTie
import Derived.Test.YtelmconnpdmjhaaGreatDoorCards
set_option linter.all false
namespace Go.Proofs.YtelmconnpdmjhaaGreatDoor.indexFormats
open Go.ChangeShapes Go.WideShapes Go.ChangeAt Go.RowKit Go.AM

set_option maxRecDepth 100000 in
theorem lifted (os : Os) (started : os.Started) (H : Type) (enc : TypeId × Value → H) :
    ReturnsInHanded {} Tryz.checked os 7 .any (fun w args => (Rows.indexFormatsSpec.pre enc Tryz.prog Tryz.f7 [] false w args ∧ laidMetH Tryz.prog laid3 w) ∧ sizedMet enc Tryz.prog Tryz.f7 (OpenSpec.ofChange Rows.indexFormatsSpec) false w args)
      (Rows.indexFormatsSpec.post enc Tryz.prog Tryz.f7 false true false false) := by
  refine returnsInHanded_of_change_and (C := Tryz.checked) (X := fun w _ => laidMetH Tryz.prog laid3 w) (fun _ _ _ hh h => h.of_heap hh) own started (by kernel_rfl) Tryz.func7
    (ChangeSpec.witness_shaped (enc := enc) (C := Tryz.checked) (os := os) (X := fun w _ => laidMetH Tryz.prog laid3 w) false (World.doorLaid Tryz.prog 400 os) #[.slice none 0 0, .agg #[.int .i64 0, .int .i64 0, .slice none 0 0], .agg #[.int .i64 0, .slice none 0 0]] 8 rfl (World.shaped_of_RefB (by kernel_rfl) (by kernel_rfl)) (by kernel_rfl) (by kernel_rfl) (by kernel_rfl) (door_met os _)) ?_
  intro W base args ds gs before hval0 hW _ _ hL _
  have hval : ∀ (j : Nat) t v, Tryz.f7.params[j]? = some t → args[j]? = some v → Value.okWide Tryz.prog W .any base t v := hval0
  have hW' := hW
  have hlt := hW.lt
  obtain ⟨p, q, hA0, hV, rfl, hfz, hnd⟩ := hW
  have hA : DataW.TrodAll enc Tryz.prog W 0 (fun _ => true) true Tryz.f7.params.toList args.toList ds p := hA0
  rw [Tryz.params7] at hA hval
  have hA1 := hA
  obtain ⟨u0, us0, d0, ds0, p0, q0, e0, rfl, rfl, h0, r0⟩ := trodAll_cons hA1
  obtain ⟨u1, us1, d1, ds1, p1, q1, rfl, rfl, rfl, h1, r1⟩ := trodAll_cons r0
  obtain ⟨u2, us2, d2, ds2, p2, q2, rfl, rfl, rfl, h2, r2⟩ := trodAll_cons r1
  obtain ⟨rfl, rfl, rfl⟩ := trodAll_nil r2
  obtain rfl : args = #[u0, u1, u2] := by cases args; simp_all
  obtain ⟨rfl, rfl⟩ := trodVars_none hV
  obtain ⟨D, a0⟩ := arg_Ds (hval 0 _ _ rfl rfl) h0
  obtain ⟨t, a1⟩ := arg_T (hval 1 _ _ rfl rfl) h1
  obtain ⟨i, a2⟩ := arg_Ix (hval 2 _ _ rfl rfl) h2
  refine (law_calls laidOut (by kernel_rfl) hA (fun x hx => hlt x (by simp_all)) ⟨_, TR_cons a0 (TR_cons a1 (TR_cons a2 TR_nil)), indexFormats_det D t i⟩).mono fun e W' ⟨he, hb, ha⟩ => ?_
  exact ⟨_, he, _, _, _, [], _, [], hW', trodAll_mk1 (shut_bool Tryz.underlying4 _), ha, rfl, hb.frame _, fun h => by cases h⟩

theorem over : Rows.indexFormatsRow.holds Tryz.pinned (OpenSpec.ofChange Rows.indexFormatsSpec) :=
  OpenClaim.holds_of_wide 7 Tryz.f7 rfl rfl rfl rfl rfl rfl rfl ⟨rfl, rfl, rfl, rfl, rfl⟩ rfl rfl rfl rfl rfl (by kernel_rfl) Tryz.func7 (by kernel_rfl)
    (of_decide_eq_true (by kernel_rfl)) (by unfold Func.isWrapper; first | (rw [if_pos (by decide +kernel)]; kernel_rfl) | (rw [if_neg (by decide +kernel)]; exact ⟨rfl, rfl⟩))
    (fun os started H enc _ => lifted os started H enc)
theorem said : Rows.IndexFormatsSaid := over
theorem proved : Rows.IndexFormatsCardSaid :=
  Claim7.holds_tied_plain_at .later [] [.data, .data, .data] true (true, "0c827e9644f4f79fe65d6213f67f1261f5f11c47831fea1716ee8982b8e52e03") false
    said (fun _ h => by cases h) (by kernel_rfl) (fun _ h => by cases h) indexFormats_row_tie rfl ⟨rfl, rfl⟩ (by kernel_rfl) rfl
    (fun f fn hf hfn => by
      obtain rfl : f = 7 := Option.some.inj ((show Tryz.prog.funcNamed "amortcost/amortcostlaw15.IndexFormats" = some 7 by kernel_rfl).symm.trans hf) |>.symm
      obtain rfl : fn = Tryz.f7 := (Option.some.inj (Tryz.func7.symm.trans hfn)).symm
      exact ⟨by kernel_rfl, fun j t ht => by
        rw [Tryz.params7] at ht
        have h3 : t = 22 ∨ t = 28 ∨ t = 41 := by
          rcases j with _ | _ | _ | j
          · exact .inl (by simpa using ht.symm)
          · exact .inr (.inl (by simpa using ht.symm))
          · exact .inr (.inr (by simpa using ht.symm))
          · simp at ht
        rcases h3 with rfl | rfl | rfl
        · exact (show Tryz.prog.wantsStandIn 22 = false by kernel_rfl)
        · exact (show Tryz.prog.wantsStandIn 28 = false by kernel_rfl)
        · exact (show Tryz.prog.wantsStandIn 41 = false by kernel_rfl)⟩)
    (by kernel_rfl)
end Go.Proofs.YtelmconnpdmjhaaGreatDoor.indexFormats
