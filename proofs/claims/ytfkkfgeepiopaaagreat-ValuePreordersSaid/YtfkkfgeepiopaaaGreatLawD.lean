import Derived.Test.YtfkkfgeepiopaaaGreatLawT
import Derived.Test.YtfkkfgeepiopaaaGreatTypB
set_option linter.all false
set_option maxRecDepth 100000
namespace Go.AM
open Go.Proofs Go.ChangeShapes Go.WideShapes Go.ChangeAt Go.RowKit

section
variable {H : Type} {enc : TypeId × Value → H} {w : World} {held : Bool} {spare : Nat → Bool}
theorem c_str : Tryz.prog.cellsOf 9 = 1 := by kernel_rfl
theorem c_con : Tryz.prog.cellsOf 33 = 2 := by kernel_rfl
theorem c_cons : Tryz.prog.cellsOf 34 = 1 := by kernel_rfl
theorem c_data : Tryz.prog.cellsOf 36 = 3 := by kernel_rfl
theorem c_datas : Tryz.prog.cellsOf 22 = 1 := by kernel_rfl
theorem list_of {α : Type} {f : α → PV} : ∀ {ps : List PV}, (∀ p ∈ ps, ∃ a, p = f a) → ∃ l : List α, ps = l.map f
  | [], _ => ⟨[], rfl⟩
  | p :: ps, h => by
    obtain ⟨a, rfl⟩ := h p (by simp)
    obtain ⟨l, hl⟩ := list_of (ps := ps) (f := f) fun q hq => h q (by simp [hq])
    exact ⟨a :: l, by rw [hl]; rfl⟩
/-- A constructor that came in. -/
theorem trod_Cn (fuel : Nat) (cs : List Value) (x : DataW H × List MemPlace) (h : DataW.trod enc Tryz.prog w 0 spare held fuel 33 cs = some x) : ∃ c : Cn, ElemOK w c.pv cs := by
  obtain ⟨xs, n, rfl, _, hl, hxs, hf⟩ := DataW.trod_struct Tryz.underlying33 h
  rw [c_con] at hl
  have hx : xs.length = 2 := by rw [hxs]; rfl
  match cs, hl, xs, hx with
  | [c0, c1], _, [x0, x1], _ =>
    have h0 := hf 0 _ rfl
    have h1 := hf 1 _ rfl
    simp [c_str, c_targs] at h0 h1
    obtain ⟨s, rfl, _⟩ := trod_str1 Tryz.underlying9 h0
    cases n with
    | zero => simp [DataW.trod] at h1
    | succ n =>
      obtain ⟨ps, hps, hpr, ho⟩ := trod_lst (Q := fun p => ∃ v : V, p = v.pv) Tryz.underlying26 (by rw [c_typ]; omega) h1 (fun cs y hy => by
        obtain ⟨v, hv⟩ := trod_T n cs y hy
        exact ⟨v.pv, ⟨v, rfl⟩, hv⟩)
      obtain ⟨ts, rfl⟩ := list_of hps
      rw [← V.pvL_eq, c_typ] at hpr
      refine ⟨⟨s, ts⟩, .agg #[.string s, c1], ?_, rfl, ?_⟩
      · unfold Cn.pv
        simp only [Cn.ag, PR, CR]
        exact ⟨[.string s, c1], rfl, _, _, rfl, rfl, rfl, _, _, rfl, ho, by simpa only [PR] using hpr, rfl⟩
      · intro u hu
        simp only [List.mem_cons, List.not_mem_nil, or_false] at hu
        rcases hu with rfl | rfl
        · rfl
        · exact ho
/-- A data type that came in. -/
theorem trod_Dt (fuel : Nat) (cs : List Value) (x : DataW H × List MemPlace) (h : DataW.trod enc Tryz.prog w 0 spare held fuel 36 cs = some x) : ∃ c : Dt, ElemOK w c.pv cs := by
  obtain ⟨xs, n, rfl, _, hl, hxs, hf⟩ := DataW.trod_struct Tryz.underlying36 h
  rw [c_data] at hl
  have hx : xs.length = 3 := by rw [hxs]; rfl
  match cs, hl, xs, hx with
  | [c0, c1, c2], _, [x0, x1, x2], _ =>
    have h0 := hf 0 _ rfl
    have h1 := hf 1 _ rfl
    have h2 := hf 2 _ rfl
    simp [c_str, c_kind, c_cons] at h0 h1 h2
    obtain ⟨s, rfl, _⟩ := trod_str1 Tryz.underlying9 h0
    obtain ⟨m, rfl, _⟩ := trod_int1 Tryz.underlying3 h1
    cases n with
    | zero => simp [DataW.trod] at h2
    | succ n =>
      obtain ⟨ps, hps, hpr, ho⟩ := trod_lst (Q := fun p => ∃ v : Cn, p = v.pv) Tryz.underlying34 (by rw [c_con]; omega) h2 (fun cs y hy => by
        obtain ⟨v, hv⟩ := trod_Cn n cs y hy
        exact ⟨v.pv, ⟨v, rfl⟩, hv⟩)
      obtain ⟨ts, rfl⟩ := list_of hps
      rw [c_con] at hpr
      refine ⟨⟨s, m, ts⟩, .agg #[.string s, .int .i64 m, c2], ?_, rfl, ?_⟩
      · unfold Dt.pv
        simp only [Dt.ag]
        unfold Cn.pvL
        simp only [PR, CR]
        exact ⟨[.string s, .int .i64 m, c2], rfl, _, _, rfl, rfl, rfl, _, _, rfl, rfl, rfl, _, _, rfl, ho, by simpa only [PR] using hpr, rfl⟩
      · intro u hu
        simp only [List.mem_cons, List.not_mem_nil, or_false] at hu
        rcases hu with rfl | rfl | rfl
        · rfl
        · rfl
        · exact ho
end
theorem arg_Ds {H : Type} {enc : TypeId × Value → H} {w : World} {u : Value} {d : DataW H} {p : List MemPlace} {r : Reach} {base : Nat} (ho : Value.okWide Tryz.prog w r base 22 u) (h : DataW.Trod enc Tryz.prog w 0 (fun _ => true) true 22 u d p) : ∃ D : List Dt, PR w NoX (.lst 3 (Dt.pvL D)) u := by
  obtain ⟨fuel, hf⟩ := h
  obtain ⟨a, l, c, rfl⟩ := okWide_slice Tryz.underlying22 ho
  cases fuel with
  | zero => simp [DataW.trod] at hf
  | succ n =>
    obtain ⟨ps, hps, hpr, _⟩ := trod_lst (Q := fun p => ∃ v : Dt, p = v.pv) Tryz.underlying22 (by rw [c_data]; omega) hf (fun cs y hy => by
      obtain ⟨v, hv⟩ := trod_Dt n cs y hy
      exact ⟨v.pv, ⟨v, rfl⟩, hv⟩)
    obtain ⟨ts, rfl⟩ := list_of hps
    rw [c_data] at hpr
    exact ⟨ts, by unfold Dt.pvL; exact hpr⟩
end Go.AM
