import Derived.Test.YtfkkfgeepiopaaaGreatSlT
set_option linter.all false
set_option maxRecDepth 4000
namespace Go.AM
open Go.Proofs

/-! ### Valid types -/
/-- What a kind asks: of the number, of how many arguments. -/
def V.shape (D : List Dt) (vars : Int) (k n : Int) : Option (Bool × Int × Int) :=
  if k = 1 ∨ k = 2 ∨ k = 3 then some (decide (n = 0), 0, 0)
  else if k = 4 then some (decide (0 ≤ n) && decide (n < vars), 0, 0)
  else if k = 5 then (match D[n.toNat]? with | some d => some (decide (0 ≤ n), d.vars, d.vars) | Option.none => Option.none)
  else if k = 6 then some (decide (n = 0), 2, 6)
  else if k = 7 ∨ k = 8 then some (decide (n = 0), 1, 1)
  else if k = 9 then some (decide (n = 0), 1, 7)
  else Option.none
mutual
def V.okT (D : List Dt) (vars : Int) : V → Bool
  | .mk k n ts => match V.shape D vars k n with
    | some (b, lo, hi) => b && decide (lo ≤ (ts.length : Int)) && decide ((ts.length : Int) ≤ hi) && V.okTL D vars ts
    | Option.none => false
def V.okTL (D : List Dt) (vars : Int) : List V → Bool
  | [] => true
  | t :: l => V.okT D vars t && V.okTL D vars l
end
theorem V.okT_mk (D : List Dt) (vars k n : Int) (ts : List V) : V.okT D vars (.mk k n ts) = match V.shape D vars k n with
    | some (b, lo, hi) => b && decide (lo ≤ (ts.length : Int)) && decide ((ts.length : Int) ≤ hi) && V.okTL D vars ts
    | Option.none => false := by rw [V.okT]
theorem V.okTL_nil (D : List Dt) (vars : Int) : V.okTL D vars [] = true := by rw [V.okTL]
theorem V.okTL_cons (D : List Dt) (vars : Int) (t : V) (l : List V) : V.okTL D vars (t :: l) = (V.okT D vars t && V.okTL D vars l) := by rw [V.okTL]
theorem V.okTL_any (D : List Dt) (vars : Int) : ∀ l : List V, (!l.any fun t => !V.okT D vars t) = V.okTL D vars l
  | [] => by rw [V.okTL_nil]; rfl
  | t :: l => by rw [V.okTL_cons, ← V.okTL_any D vars l]; simp
/-- A valid type: its size, too. -/
def V.okW (D : List Dt) (vars : Int) (t : V) : Bool := decide (t.cnt ≤ 200) && V.okT D vars t
attribute [irreducible] V.okT V.okTL V.okW

theorem tvalid1_of (D : List Dt) (vars : Int) (t : V) (h : Det Tryz.prog 49 [.lst 3 (Dt.pvL D), t.pv, .int .i64 vars] (.bool (V.okT D vars t))) :
    Det Tryz.prog 71 [t.pv, .cp [.lst 3 (Dt.pvL D)], .cp [.int .i64 vars]] (.bool (!V.okT D vars t)) := by
  obtain ⟨k, n, ts⟩ := t
  rw [V.pv_mk] at h ⊢
  refine det_of_vc' (E := S.E 0) rfl fol Tryz.func71 rfl rfl (slots := [4]) rfl rfl fun hw => ?_
  set_option smartUnfolding false in conv => whnf
  refine acall_det (ps := [.lst 3 (Dt.pvL D), V.ag k n ts, .int .i64 vars]) h ?_
  set_option smartUnfolding false in conv => whnf
  exact rdB rfl


theorem tvalid_det (D : List Dt) (vars : Int) (t : V) : Det Tryz.prog 49 [.lst 3 (Dt.pvL D), t.pv, .int .i64 vars] (.bool (V.okT D vars t)) := by
  refine V.recOn' (p := fun t => Det Tryz.prog 49 [.lst 3 (Dt.pvL D), t.pv, .int .i64 vars] (.bool (V.okT D vars t))) (fun k n ts ih => ?_) t
  have hc := hasT_det ts 71 [.cp [.lst 3 (Dt.pvL D)], .cp [.int .i64 vars]] (fun t => !V.okT D vars t) fun t ht => tvalid1_of D vars t (ih t ht)
  rw [V.pv_mk]
  generalize hR : V.okT D vars (.mk k n ts) = R
  rw [V.okT_mk] at hR
  refine det_of_vc' (E := S.E 0) rfl fol Tryz.func49 rfl rfl (slots := [6]) rfl rfl fun hw => ?_
  set_option smartUnfolding false in conv => whnf
  refine br_intro (fun h1 => ?_) (fun h1 => ?_) <;> set_option smartUnfolding false in conv => whnf
  · rw [show V.shape D vars k n = some (decide (n = 0), 0, 0) by have h1 := dT h1; simp [V.shape, h1]] at hR
    simp only at hR
    refine br_intro (fun g1 => ?_) (fun g1 => ?_) <;> set_option smartUnfolding false in conv => whnf
    rotate_left
    · exact rdB (by rw [← hR, g1]; simp)
    rw [g1, Bool.true_and] at hR
    refine br_intro (fun g3 => ?_) (fun g3 => ?_) <;> set_option smartUnfolding false in conv => whnf
    rotate_left
    · exact rdB (by rw [V.pvL_len] at g3; rw [← hR, g3]; simp)
    refine acall_intro (adet_read (S := [0, 2]) hc (.cons (.pv _) (.cons (.fn (.cons (.bp (.head _) rfl (.cons (.pv _) .nil)) (.cons (.bp (.tail _ (.head _)) rfl (.cons (.pv _) .nil)) .nil))) .nil)) rfl) ?_
    set_option smartUnfolding false in conv => whnf
    refine rdB ?_
    rw [V.pvL_len] at g3
    rw [← hR, g3, V.okTL_any]; simp
  have h1 := dF h1
  refine br_intro (fun h2 => ?_) (fun h2 => ?_) <;> set_option smartUnfolding false in conv => whnf
  · rw [show V.shape D vars k n = some (decide (n = 0), 0, 0) by have h2 := dT h2; simp [V.shape, h2]] at hR
    simp only at hR
    refine br_intro (fun g1 => ?_) (fun g1 => ?_) <;> set_option smartUnfolding false in conv => whnf
    rotate_left
    · exact rdB (by rw [← hR, g1]; simp)
    rw [g1, Bool.true_and] at hR
    refine br_intro (fun g3 => ?_) (fun g3 => ?_) <;> set_option smartUnfolding false in conv => whnf
    rotate_left
    · exact rdB (by rw [V.pvL_len] at g3; rw [← hR, g3]; simp)
    refine acall_intro (adet_read (S := [0, 2]) hc (.cons (.pv _) (.cons (.fn (.cons (.bp (.head _) rfl (.cons (.pv _) .nil)) (.cons (.bp (.tail _ (.head _)) rfl (.cons (.pv _) .nil)) .nil))) .nil)) rfl) ?_
    set_option smartUnfolding false in conv => whnf
    refine rdB ?_
    rw [V.pvL_len] at g3
    rw [← hR, g3, V.okTL_any]; simp
  have h2 := dF h2
  refine br_intro (fun h3 => ?_) (fun h3 => ?_) <;> set_option smartUnfolding false in conv => whnf
  · rw [show V.shape D vars k n = some (decide (n = 0), 0, 0) by have h3 := dT h3; simp [V.shape, h3]] at hR
    simp only at hR
    refine br_intro (fun g1 => ?_) (fun g1 => ?_) <;> set_option smartUnfolding false in conv => whnf
    rotate_left
    · exact rdB (by rw [← hR, g1]; simp)
    rw [g1, Bool.true_and] at hR
    refine br_intro (fun g3 => ?_) (fun g3 => ?_) <;> set_option smartUnfolding false in conv => whnf
    rotate_left
    · exact rdB (by rw [V.pvL_len] at g3; rw [← hR, g3]; simp)
    refine acall_intro (adet_read (S := [0, 2]) hc (.cons (.pv _) (.cons (.fn (.cons (.bp (.head _) rfl (.cons (.pv _) .nil)) (.cons (.bp (.tail _ (.head _)) rfl (.cons (.pv _) .nil)) .nil))) .nil)) rfl) ?_
    set_option smartUnfolding false in conv => whnf
    refine rdB ?_
    rw [V.pvL_len] at g3
    rw [← hR, g3, V.okTL_any]; simp
  have h3 := dF h3
  refine br_intro (fun h4 => ?_) (fun h4 => ?_) <;> set_option smartUnfolding false in conv => whnf
  · rw [show V.shape D vars k n = some (decide (0 ≤ n) && decide (n < vars), 0, 0) by have h4 := dT h4; simp [V.shape, h4]] at hR
    simp only at hR
    refine br_intro (fun g0 => ?_) (fun g0 => ?_) <;> set_option smartUnfolding false in conv => whnf
    · rw [g0, Bool.true_and] at hR
      refine br_intro (fun g1 => ?_) (fun g1 => ?_) <;> set_option smartUnfolding false in conv => whnf
      rotate_left
      · exact rdB (by rw [← hR, g1]; simp)
      rw [g1, Bool.true_and] at hR
      refine br_intro (fun g3 => ?_) (fun g3 => ?_) <;> set_option smartUnfolding false in conv => whnf
      rotate_left
      · exact rdB (by rw [V.pvL_len] at g3; rw [← hR, g3]; simp)
      refine acall_intro (adet_read (S := [0, 2]) hc (.cons (.pv _) (.cons (.fn (.cons (.bp (.head _) rfl (.cons (.pv _) .nil)) (.cons (.bp (.tail _ (.head _)) rfl (.cons (.pv _) .nil)) .nil))) .nil)) rfl) ?_
      set_option smartUnfolding false in conv => whnf
      refine rdB ?_
      rw [V.pvL_len] at g3
      rw [← hR, g3, V.okTL_any]; simp
    · exact rdB (by rw [← hR, g0]; simp)
  have h4 := dF h4
  refine br_intro (fun h5 => ?_) (fun h5 => ?_) <;> set_option smartUnfolding false in conv => whnf
  · have h5 := dT h5
    refine br_intro (fun g0 => ?_) (fun g0 => ?_) <;> set_option smartUnfolding false in conv => whnf
    rotate_left
    · refine rdB ?_
      have g0 := dF g0
      rw [← hR, show V.shape D vars k n = (match D[n.toNat]? with | some d => some (decide (0 ≤ n), d.vars, d.vars) | Option.none => Option.none) by simp [V.shape, h5]]
      cases D[n.toNat]? <;> simp [g0]
    have g0 := dT g0
    refine br_intro (fun g00 => ?_) (fun g00 => ?_) <;> set_option smartUnfolding false in conv => whnf
    rotate_left
    · apply br_intro <;> intro g1
      · rw [g00] at g1; cases g1
      set_option smartUnfolding false in conv => whnf
      refine rdB ?_
      have g00 := dF g00
      rw [Dt.pvL_len] at g00
      rw [← hR, show V.shape D vars k n = (match D[n.toNat]? with | some d => some (decide (0 ≤ n), d.vars, d.vars) | Option.none => Option.none) by simp [V.shape, h5]]
      rw [List.getElem?_eq_none (by omega)]
    have g00' := dT g00
    rw [Dt.pvL_len] at g00'
    obtain ⟨nm, vs, cs, _, hg, hg2, _⟩ := Dt.get_pvL (l := D) (i := n.toNat) (by omega)
    rw [show V.shape D vars k n = some (decide (0 ≤ n), vs, vs) by simp [V.shape, h5, hg2]] at hR
    simp only [g0, decide_true, Bool.true_and] at hR
    refine ⟨Dt.ag nm vs cs, ⟨by omega, hg⟩, ?_⟩
    set_option smartUnfolding false in conv => whnf
    refine ⟨Dt.ag nm vs cs, ⟨by omega, hg⟩, ?_⟩
    set_option smartUnfolding false in conv => whnf
    apply br_intro <;> intro g1
    rotate_left
    · rw [g00] at g1; cases g1
    set_option smartUnfolding false in conv => whnf
    refine br_intro (fun g2 => ?_) (fun g2 => ?_) <;> set_option smartUnfolding false in conv => whnf
    rotate_left
    · exact rdB (by rw [V.pvL_len] at g2; rw [← hR, g2]; simp)
    refine br_intro (fun g3 => ?_) (fun g3 => ?_) <;> set_option smartUnfolding false in conv => whnf
    rotate_left
    · exact rdB (by rw [V.pvL_len] at g3; rw [← hR, g3]; simp)
    refine acall_intro (adet_read (S := [0, 2]) hc (.cons (.pv _) (.cons (.fn (.cons (.bp (.head _) rfl (.cons (.pv _) .nil)) (.cons (.bp (.tail _ (.head _)) rfl (.cons (.pv _) .nil)) .nil))) .nil)) rfl) ?_
    set_option smartUnfolding false in conv => whnf
    refine rdB ?_
    rw [V.pvL_len] at g2 g3
    rw [← hR, g2, g3, V.okTL_any]; rfl
  have h5 := dF h5
  refine br_intro (fun h6 => ?_) (fun h6 => ?_) <;> set_option smartUnfolding false in conv => whnf
  · rw [show V.shape D vars k n = some (decide (n = 0), 2, 6) by have h6 := dT h6; simp [V.shape, h6]] at hR
    simp only at hR
    refine br_intro (fun g1 => ?_) (fun g1 => ?_) <;> set_option smartUnfolding false in conv => whnf
    rotate_left
    · exact rdB (by rw [← hR, g1]; simp)
    rw [g1, Bool.true_and] at hR
    refine br_intro (fun g2 => ?_) (fun g2 => ?_) <;> set_option smartUnfolding false in conv => whnf
    rotate_left
    · exact rdB (by rw [V.pvL_len] at g2; rw [← hR, g2]; simp)
    refine br_intro (fun g3 => ?_) (fun g3 => ?_) <;> set_option smartUnfolding false in conv => whnf
    rotate_left
    · exact rdB (by rw [V.pvL_len] at g3; rw [← hR, g3]; simp)
    refine acall_intro (adet_read (S := [0, 2]) hc (.cons (.pv _) (.cons (.fn (.cons (.bp (.head _) rfl (.cons (.pv _) .nil)) (.cons (.bp (.tail _ (.head _)) rfl (.cons (.pv _) .nil)) .nil))) .nil)) rfl) ?_
    set_option smartUnfolding false in conv => whnf
    refine rdB ?_
    rw [V.pvL_len] at g2 g3
    rw [← hR, g2, g3, V.okTL_any]; rfl
  have h6 := dF h6
  refine br_intro (fun h7 => ?_) (fun h7 => ?_) <;> set_option smartUnfolding false in conv => whnf
  · rw [show V.shape D vars k n = some (decide (n = 0), 1, 1) by have h7 := dT h7; simp [V.shape, h7]] at hR
    simp only at hR
    refine br_intro (fun g1 => ?_) (fun g1 => ?_) <;> set_option smartUnfolding false in conv => whnf
    rotate_left
    · exact rdB (by rw [← hR, g1]; simp)
    rw [g1, Bool.true_and] at hR
    refine br_intro (fun g2 => ?_) (fun g2 => ?_) <;> set_option smartUnfolding false in conv => whnf
    rotate_left
    · exact rdB (by rw [V.pvL_len] at g2; rw [← hR, g2]; simp)
    refine br_intro (fun g3 => ?_) (fun g3 => ?_) <;> set_option smartUnfolding false in conv => whnf
    rotate_left
    · exact rdB (by rw [V.pvL_len] at g3; rw [← hR, g3]; simp)
    refine acall_intro (adet_read (S := [0, 2]) hc (.cons (.pv _) (.cons (.fn (.cons (.bp (.head _) rfl (.cons (.pv _) .nil)) (.cons (.bp (.tail _ (.head _)) rfl (.cons (.pv _) .nil)) .nil))) .nil)) rfl) ?_
    set_option smartUnfolding false in conv => whnf
    refine rdB ?_
    rw [V.pvL_len] at g2 g3
    rw [← hR, g2, g3, V.okTL_any]; rfl
  have h7 := dF h7
  refine br_intro (fun h8 => ?_) (fun h8 => ?_) <;> set_option smartUnfolding false in conv => whnf
  · rw [show V.shape D vars k n = some (decide (n = 0), 1, 1) by have h8 := dT h8; simp [V.shape, h8]] at hR
    simp only at hR
    refine br_intro (fun g1 => ?_) (fun g1 => ?_) <;> set_option smartUnfolding false in conv => whnf
    rotate_left
    · exact rdB (by rw [← hR, g1]; simp)
    rw [g1, Bool.true_and] at hR
    refine br_intro (fun g2 => ?_) (fun g2 => ?_) <;> set_option smartUnfolding false in conv => whnf
    rotate_left
    · exact rdB (by rw [V.pvL_len] at g2; rw [← hR, g2]; simp)
    refine br_intro (fun g3 => ?_) (fun g3 => ?_) <;> set_option smartUnfolding false in conv => whnf
    rotate_left
    · exact rdB (by rw [V.pvL_len] at g3; rw [← hR, g3]; simp)
    refine acall_intro (adet_read (S := [0, 2]) hc (.cons (.pv _) (.cons (.fn (.cons (.bp (.head _) rfl (.cons (.pv _) .nil)) (.cons (.bp (.tail _ (.head _)) rfl (.cons (.pv _) .nil)) .nil))) .nil)) rfl) ?_
    set_option smartUnfolding false in conv => whnf
    refine rdB ?_
    rw [V.pvL_len] at g2 g3
    rw [← hR, g2, g3, V.okTL_any]; rfl
  have h8 := dF h8
  refine br_intro (fun h9 => ?_) (fun h9 => ?_) <;> set_option smartUnfolding false in conv => whnf
  · rw [show V.shape D vars k n = some (decide (n = 0), 1, 7) by have h9 := dT h9; simp [V.shape, h9]] at hR
    simp only at hR
    refine br_intro (fun g1 => ?_) (fun g1 => ?_) <;> set_option smartUnfolding false in conv => whnf
    rotate_left
    · exact rdB (by rw [← hR, g1]; simp)
    rw [g1, Bool.true_and] at hR
    refine br_intro (fun g2 => ?_) (fun g2 => ?_) <;> set_option smartUnfolding false in conv => whnf
    rotate_left
    · exact rdB (by rw [V.pvL_len] at g2; rw [← hR, g2]; simp)
    refine br_intro (fun g3 => ?_) (fun g3 => ?_) <;> set_option smartUnfolding false in conv => whnf
    rotate_left
    · exact rdB (by rw [V.pvL_len] at g3; rw [← hR, g3]; simp)
    refine acall_intro (adet_read (S := [0, 2]) hc (.cons (.pv _) (.cons (.fn (.cons (.bp (.head _) rfl (.cons (.pv _) .nil)) (.cons (.bp (.tail _ (.head _)) rfl (.cons (.pv _) .nil)) .nil))) .nil)) rfl) ?_
    set_option smartUnfolding false in conv => whnf
    refine rdB ?_
    rw [V.pvL_len] at g2 g3
    rw [← hR, g2, g3, V.okTL_any]; rfl
  have h9 := dF h9
  exact rdB (by rw [← hR, show V.shape D vars k n = Option.none by simp [V.shape, h1, h2, h3, h4, h5, h6, h7, h8, h9]])

theorem tValid_det (D : List Dt) (vars : Int) (t : V) : Det Tryz.prog 28 [.lst 3 (Dt.pvL D), t.pv, .int .i64 vars] (.bool (V.okW D vars t)) := by
  have a1 := tsize_det t 201 (by omega) (by omega)
  have a2 := tvalid_det D vars t
  have e : V.okW D vars t = (decide (t.cnt ≤ 200) && V.okT D vars t) := by rw [V.okW]
  rw [e]
  obtain ⟨k, n, ts⟩ := t
  rw [V.pv_mk] at a1 a2 ⊢
  refine det_of_vc' (E := S.E 0) rfl fol Tryz.func28 rfl rfl (slots := [6]) rfl rfl fun hw => ?_
  set_option smartUnfolding false in conv => whnf
  refine acall_det (ps := [V.ag k n ts, .int .i64 201]) a1 ?_
  set_option smartUnfolding false in conv => whnf
  refine br_intro (fun h => ?_) (fun h => ?_) <;> set_option smartUnfolding false in conv => whnf
  · refine acall_det (ps := [.lst 3 (Dt.pvL D), V.ag k n ts, .int .i64 vars]) a2 ?_
    set_option smartUnfolding false in conv => whnf
    have h := dT h
    exact rdB (by rw [decide_eq_true (by omega), Bool.true_and])
  · have h := dF h
    exact rdB (by rw [decide_eq_false (by omega), Bool.false_and])
end Go.AM
