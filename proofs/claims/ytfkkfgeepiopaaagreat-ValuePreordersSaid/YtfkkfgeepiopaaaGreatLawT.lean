import Derived.Test.YtfkkfgeepiopaaaGreatLawA
set_option linter.all false
set_option maxRecDepth 100000
namespace Go.AM
open Go.Proofs Go.ChangeShapes Go.WideShapes Go.ChangeAt Go.RowKit

section
variable {H : Type} {enc : TypeId × Value → H} {w : World} {held : Bool} {spare : Nat → Bool}
theorem c_typ : Tryz.prog.cellsOf 28 = 3 := by kernel_rfl
theorem c_targs : Tryz.prog.cellsOf 26 = 1 := by kernel_rfl

/-- A value that came in. -/
theorem trod_T : ∀ (fuel : Nat) (cs : List Value) (x : DataW H × List MemPlace), DataW.trod enc Tryz.prog w 0 spare held fuel 28 cs = some x → ∃ v : V, ElemOK w v.pv cs := by
  intro fuel
  induction fuel using Nat.strongRecOn with
  | _ fuel ih =>
    intro cs x h
    obtain ⟨xs, n, rfl, _, hl, hxs, hf⟩ := DataW.trod_struct Tryz.underlying28 h
    rw [c_typ] at hl
    have hx : xs.length = 3 := by rw [hxs]; rfl
    match cs, hl, xs, hx with
    | [c0, c1, c2], _, [x0, x1, x2], _ =>
      have h0 := hf 0 _ rfl
      have h1 := hf 1 _ rfl
      have h2 := hf 2 _ rfl
      simp [c_kind, c_targs] at h0 h1 h2
      obtain ⟨k, rfl, _⟩ := trod_int1 Tryz.underlying3 h0
      obtain ⟨m, rfl, _⟩ := trod_int1 Tryz.underlying3 h1
      cases n with
      | zero => simp [DataW.trod] at h2
      | succ n =>
        obtain ⟨ps, hps, hpr, ho⟩ := trod_lst (Q := fun p => ∃ v : V, p = v.pv) Tryz.underlying26 (by rw [c_typ]; omega) h2 (fun cs y hy => by
          obtain ⟨v, hv⟩ := ih n (by omega) cs y hy
          exact ⟨v.pv, ⟨v, rfl⟩, hv⟩)
        have : ∃ ks : List V, ps = V.pvL ks := by
          clear hpr h2 h
          induction ps with
          | nil => exact ⟨[], by rw [V.pvL_eq]; rfl⟩
          | cons p ps ih2 =>
            obtain ⟨v, rfl⟩ := hps p (by simp)
            obtain ⟨ks, rfl⟩ := ih2 fun q hq => hps q (by simp [hq])
            exact ⟨v :: ks, by simp [V.pvL_eq]⟩
        obtain ⟨ks, rfl⟩ := this
        rw [c_typ] at hpr
        refine ⟨.mk k m ks, .agg #[.int .i64 k, .int .i64 m, c2], ?_, rfl, ?_⟩
        · rw [V.pv_mk]
          simp only [V.ag, PR, CR]
          exact ⟨[.int .i64 k, .int .i64 m, c2], rfl, _, _, rfl, rfl, rfl, _, _, rfl, rfl, rfl, _, _, rfl, ho, by simpa only [PR] using hpr, rfl⟩
        · intro u hu
          simp only [List.mem_cons, List.not_mem_nil, or_false] at hu
          rcases hu with rfl | rfl | rfl
          · rfl
          · rfl
          · exact ho
end
theorem arg_T {H : Type} {enc : TypeId × Value → H} {w : World} {u : Value} {d : DataW H} {p : List MemPlace} {r : Reach} {base : Nat} (ho : Value.okWide Tryz.prog w r base 28 u) (h : DataW.Trod enc Tryz.prog w 0 (fun _ => true) true 28 u d p) : ∃ v : V, PR w NoX v.pv u := by
  obtain ⟨fuel, hf⟩ := h
  obtain ⟨v, hv⟩ := trod_T fuel _ _ hf
  refine ⟨v, ?_⟩
  obtain ⟨k, n, ks⟩ := v
  rw [V.pv_mk] at hv ⊢
  obtain ⟨cs, hcs, _⟩ := okWide_struct Tryz.underlying28 ho
  exact elem_agg hv ⟨cs, hcs⟩
end Go.AM
