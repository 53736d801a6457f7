import Derived.Test.YtfkkfgeepiopaaaGreatAmTe
set_option linter.all false
namespace Go.AM
open Go.Proofs

theorem fol : Tryz.prog.follows .mixedOrders = true := by kernel_rfl

/-- A value of the language under study. -/
inductive V where | mk (k n : Int) (kids : List V)
mutual
def V.pv : V → PV | .mk k n ks => .agg [.int .i64 k, .int .i64 n, .lst 3 (V.pvL ks)]
def V.pvL : List V → List PV | [] => [] | v :: l => v.pv :: V.pvL l
end
/-- A value's tree, laid open. -/
abbrev V.ag (k n : Int) (ks : List V) : PV := .agg [.int .i64 k, .int .i64 n, .lst 3 (V.pvL ks)]
theorem V.pv_mk (k n : Int) (ks : List V) : V.pv (.mk k n ks) = V.ag k n ks := by rw [V.pv]
theorem V.pvL_eq (l : List V) : V.pvL l = l.map V.pv := by induction l <;> simp_all [V.pvL]
theorem V.pvL_len (l : List V) : (V.pvL l).length = l.length := by simp [V.pvL_eq]
theorem V.get_pvL {l : List V} {i : Nat} (h : i < l.length) : ∃ v, v ∈ l ∧ (V.pvL l)[i]? = some v.pv ∧ l[i]? = some v ∧ l.drop i = v :: l.drop (i + 1) :=
  ⟨l[i], by simp, by simp [V.pvL_eq, h], by simp [h], (List.drop_eq_getElem_cons h)⟩
theorem V.lenle {k n : Int} {ks : List V} (h : wf (V.ag k n ks)) : ks.length ≤ 9223372036854775807 := by
  have := h.2.2.1.1; rwa [V.pvL_len] at this

mutual
/-- Nodes, as counted in 64 bits. -/
def V.nod : V → Int | .mk _ _ ks => V.nodL 1 ks
def V.nodL (a : Int) : List V → Int | [] => a | v :: l => V.nodL (IntKind.wrap .i64 (a + v.nod)) l
end
/-- A leaf's kind. -/
def V.leafK (k : Int) : Bool := decide (k = 6) || decide (k = 7) || decide (k = 8)
mutual
def V.siz : V → Int | .mk k _ ks => if V.leafK k then 1 else V.sizL 1 ks
def V.sizL (a : Int) : List V → Int | [] => a | v :: l => V.sizL (IntKind.wrap .i64 (a + v.siz)) l
end
mutual
/-- The guard: at most so many nodes. -/
def V.val : V → Int → Bool × Int
  | .mk _ _ ks, n => if IntKind.wrap .i64 (n - 1) < 0 then (false, IntKind.wrap .i64 (n - 1)) else V.valL ks (IntKind.wrap .i64 (n - 1))
def V.valL : List V → Int → Bool × Int
  | [], n => (true, n)
  | v :: l, n => match V.val v n with | (true, n') => V.valL l n' | (false, n') => (false, n')
end
theorem V.recOn' {p : V → Prop} (h : ∀ k n ks, (∀ v ∈ ks, p v) → p (.mk k n ks)) (v : V) : p v := by
  have : ∀ (N : Nat) (v : V), SizeOf.sizeOf v < N → p v := by
    intro N
    induction N with
    | zero => intro v hv; omega
    | succ N ih =>
      intro v hv
      obtain ⟨k, n, ks⟩ := v
      refine h k n ks fun w hw => ih w ?_
      have := List.sizeOf_lt_of_mem hw
      simp only [V.mk.sizeOf_spec] at hv
      omega
  exact this (SizeOf.sizeOf v + 1) v (by omega)

theorem V.nod_mk (k n : Int) (ks : List V) : V.nod (.mk k n ks) = V.nodL 1 ks := by rw [V.nod]
theorem V.nodL_nil (a : Int) : V.nodL a [] = a := by rw [V.nodL]
theorem V.nodL_cons (a : Int) (v : V) (l : List V) : V.nodL a (v :: l) = V.nodL (IntKind.wrap .i64 (a + v.nod)) l := by rw [V.nodL]
theorem V.siz_mk (k n : Int) (ks : List V) : V.siz (.mk k n ks) = if V.leafK k then 1 else V.sizL 1 ks := by rw [V.siz]
theorem V.sizL_nil (a : Int) : V.sizL a [] = a := by rw [V.sizL]
theorem V.sizL_cons (a : Int) (v : V) (l : List V) : V.sizL a (v :: l) = V.sizL (IntKind.wrap .i64 (a + v.siz)) l := by rw [V.sizL]
theorem V.val_mk (k m : Int) (ks : List V) (n : Int) : V.val (.mk k m ks) n = if IntKind.wrap .i64 (n - 1) < 0 then (false, IntKind.wrap .i64 (n - 1)) else V.valL ks (IntKind.wrap .i64 (n - 1)) := by rw [V.val]
theorem V.valL_nil (n : Int) : V.valL [] n = (true, n) := by rw [V.valL]
theorem V.valL_cons (v : V) (l : List V) (n : Int) : V.valL (v :: l) n = match V.val v n with | (true, n') => V.valL l n' | (false, n') => (false, n') := by rw [V.valL]
attribute [irreducible] V.pv V.pvL V.nod V.nodL V.siz V.sizL V.val V.valL

theorem idsInH_pvs {S : Nat → Prop} {t : TypeId} {ps : List PV} : idsInB S (.box t (pvs ps)) := idsInL_pvs S ps
end Go.AM
