import Derived.Test.YteepjclmedmbgaaIdxA
import Derived.Test.YteepjclmedmbgaaLawA
set_option linter.all false
namespace Go.AM
open Go.Proofs Go.ChangeShapes Go.WideShapes Go.ChangeAt Go.RowKit

section
variable {H : Type} {enc : TypeId × Value → H} {w : World} {held : Bool} {spare : Nat → Bool}
theorem c_ix : Try.prog.cellsOf 32 = 2 := by kernel_rfl
theorem c_ixkids : Try.prog.cellsOf 30 = 1 := by kernel_rfl

/-- A value that came in. -/
theorem trod_Ix : ∀ (fuel : Nat) (cs : List Value) (x : DataW H × List MemPlace), DataW.trod enc Try.prog w 0 spare held fuel 32 cs = some x → ∃ v : Ix, ElemOK w v.pv cs := by
  intro fuel
  induction fuel using Nat.strongRecOn with
  | _ fuel ih =>
    intro cs x h
    obtain ⟨xs, n, rfl, _, hl, hxs, hf⟩ := DataW.trod_struct Try.underlying32 h
    rw [c_ix] at hl
    have hx : xs.length = 2 := by rw [hxs]; rfl
    match cs, hl, xs, hx with
    | [c0, c2], _, [x0, x2], _ =>
      have h0 := hf 0 _ rfl
      have h2 := hf 1 _ rfl
      simp [c_kind, c_ixkids] at h0 h2
      obtain ⟨m, rfl, _⟩ := trod_int1 Try.underlying3 h0
      cases n with
      | zero => simp [DataW.trod] at h2
      | succ n =>
        obtain ⟨ps, hps, hpr, ho⟩ := trod_lst (Q := fun p => ∃ v : Ix, p = v.pv) Try.underlying30 (by rw [c_ix]; omega) h2 (fun cs y hy => by
          obtain ⟨v, hv⟩ := ih n (by omega) cs y hy
          exact ⟨v.pv, ⟨v, rfl⟩, hv⟩)
        have : ∃ ks : List Ix, ps = Ix.pvL ks := by
          clear hpr h2 h
          induction ps with
          | nil => exact ⟨[], by rw [Ix.pvL_eq]; rfl⟩
          | cons p ps ih2 =>
            obtain ⟨v, rfl⟩ := hps p (by simp)
            obtain ⟨ks, rfl⟩ := ih2 fun q hq => hps q (by simp [hq])
            exact ⟨v :: ks, by simp [Ix.pvL_eq]⟩
        obtain ⟨ks, rfl⟩ := this
        rw [c_ix] at hpr
        refine ⟨.mk m ks, .agg #[.int .i64 m, c2], ?_, rfl, ?_⟩
        · rw [Ix.pv_mk]
          simp only [Ix.ag, PR, CR]
          exact ⟨[.int .i64 m, c2], rfl, _, _, rfl, rfl, rfl, _, _, rfl, ho, by simpa only [PR] using hpr, rfl⟩
        · intro u hu
          simp only [List.mem_cons, List.not_mem_nil, or_false] at hu
          rcases hu with rfl | rfl
          · rfl
          · exact ho
end
theorem arg_Ix {H : Type} {enc : TypeId × Value → H} {w : World} {u : Value} {d : DataW H} {p : List MemPlace} {r : Reach} {base : Nat} (ho : Value.okWide Try.prog w r base 32 u) (h : DataW.Trod enc Try.prog w 0 (fun _ => true) true 32 u d p) : ∃ v : Ix, PR w NoX v.pv u := by
  obtain ⟨fuel, hf⟩ := h
  obtain ⟨v, hv⟩ := trod_Ix fuel _ _ hf
  refine ⟨v, ?_⟩
  obtain ⟨n, ks⟩ := v
  rw [Ix.pv_mk] at hv ⊢
  obtain ⟨cs, hcs, _⟩ := okWide_struct Try.underlying32 ho
  exact elem_agg hv ⟨cs, hcs⟩
end Go.AM
