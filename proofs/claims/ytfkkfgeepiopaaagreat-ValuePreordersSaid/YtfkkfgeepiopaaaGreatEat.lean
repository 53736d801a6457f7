import Derived.Test.YtfkkfgeepiopaaaGreatAmTe
set_option linter.all false
namespace Go.AM
open Go.Proofs

/-! ### A callee reads what was built; after that it is let go of -/
theorem gupd_dead : ∀ (S : List Nat) (G : Own) (id : Nat), gupd G (S.map fun i => (i, AB.dead)) id = if id ∈ S then AB.dead else G id
  | [], G, id => by simp [gupd]
  | i :: S, G, id => by
    simp only [List.map_cons, gupd]
    rw [gupd_dead S]
    by_cases h : id ∈ S
    · simp [h]
    · by_cases h2 : id = i
      · subst h2; simp [h, gset]
      · simp [h, h2, gset]
theorem adet_eat {P : Program} {f : FuncId} {ps : List PV} {r : PV} {H : Heap} {vs : List AV} {S : List Nat} (h : Det P f ps r) (hr : RdL (· ∈ S) H vs ps) : ADet P f vs H (.pv r) (S.map fun i => (i, AB.dead)) S where
  enters := h.enters
  ids := fun p hp => by simp only [List.mem_map] at hp; obtain ⟨i, hi, rfl⟩ := hp; exact hi
  calls := fun w X ι G us hC hS hT => Calls.mono (h.calls w (offS X ι G (· ∈ S)) us (fun b hb => off_lt hC (offS_off hb)) (TR_of hr.len (hr.sound hC hS) hT)) (by
    rintro e w' ⟨v, rfl, hv, hP⟩
    have hg : ∀ id, gupd G (S.map fun i => (i, AB.dead)) id = if id ∈ S then AB.dead else G id := gupd_dead S G
    generalize gupd G (S.map fun i => (i, AB.dead)) = G' at hg
    have hlive : ∀ id, (G' id).live = true → id ∉ S ∧ (G id).live = true := fun id hl => by
      rw [hg] at hl
      split at hl
      · simp [AB.live] at hl
      · rename_i hn; exact ⟨hn, hl⟩
    have hown : ∀ b, own ι G' b → own ι G b := fun b ⟨id, h1, h2⟩ => ⟨id, (hlive id h1).2, h2⟩
    have hoff : ∀ b, off X ι G' b → off X ι G b := fun b hb => hb.elim (fun h => .inl (hown b h)) .inr
    have hC' := hP.conc hC
    have hsome : ∀ id, (G id).isNone = false → (G' id).isNone = false := fun id hi => by
      rw [hg]; split
      · rfl
      · exact hi
    have hbox : ∀ id, (G' id).isBox = true → (G id).isBox = true := fun id hb => by
      rw [hg] at hb
      split at hb
      · simp [AB.isBox] at hb
      · exact hb
    have hrow : ∀ id, (G' id).isRow = true → (G id).isRow = true ∧ (G' id).sz = (G id).sz := fun id hb => by
      rw [hg] at hb ⊢
      split at hb
      · simp [AB.isRow] at hb
      · rename_i hn; rw [if_neg hn]; exact ⟨hb, rfl⟩
    have hN : Next w' X ι G w' ι G' := ⟨⟨Nat.le_refl _, fun _ _ _ => rfl, fun b _ hb => hoff b hb⟩, fun _ _ => rfl, hsome, fun id _ hb => hbox id hb, fun id _ hb => hrow id hb⟩
    refine ⟨v, ι, rfl, ?_, ⟨?_, ?_, hC'.xlt, ?_⟩, ?_⟩
    · simp only [VR]
      refine hv.less fun b hb => ?_
      rcases hb with ⟨id, h1, h2⟩ | hx
      · exact .inr ⟨id, (hlive id h1).1, (hlive id h1).2, h2⟩
      · exact .inl hx
    · exact fun i j hi hj he => hC'.inj i j (hlive i hi).2 (hlive j hj).2 he
    · exact fun i hi => hC'.dis i (hlive i hi).2
    · intro id
      rw [hg]
      split
      · trivial
      · cases hn : (G id).isNone with
        | true => exact BR_none hn
        | false => exact (hC'.br id).next hN hn fun _ => rfl
    · exact ⟨hP.size, hP.os, hP.tape, hP.output, fun b hb _ => hP.heap b hb, fun b _ hb => hown b hb, fun _ _ => rfl, hsome, fun id _ hb => hbox id hb, fun id _ hb => hrow id hb⟩)
end Go.AM
