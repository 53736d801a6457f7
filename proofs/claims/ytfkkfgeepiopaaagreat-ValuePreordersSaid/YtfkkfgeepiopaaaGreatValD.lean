import Derived.Test.YtfkkfgeepiopaaaGreatValC
set_option linter.all false
set_option maxRecDepth 4000
namespace Go.AM
open Go.Proofs

/-! ### The plain law -/
mutual
def V.cnt : V → Nat | .mk _ _ ks => 1 + V.cntL ks
def V.cntL : List V → Nat | [] => 0 | v :: l => v.cnt + V.cntL l
end
theorem wrap_dec {n : Int} (h1 : -1000 ≤ n) (h2 : n ≤ 1000) : IntKind.wrap .i64 (n - 1) = n - 1 := wrapI (by omega) (by omega)
mutual
theorem V.val_spec : ∀ (v : V) (n : Int), 0 ≤ n → n ≤ 400 → ((v.val n).1 = true → (v.cnt : Int) ≤ n ∧ (v.val n).2 = n - v.cnt) ∧ (-1 ≤ (v.val n).2 ∧ (v.val n).2 ≤ n)
  | .mk k m ks, n, h0, h1 => by
    rw [V.val_mk]; simp only [V.cnt]
    rw [wrap_dec (by omega) (by omega)]
    split
    · refine ⟨fun h => by simp at h, ?_⟩
      simp only; omega
    · have := V.valL_spec ks (n - 1) (by omega) (by omega)
      refine ⟨fun h => ?_, ?_⟩
      · have := this.1 h; omega
      · omega
theorem V.valL_spec : ∀ (l : List V) (n : Int), 0 ≤ n → n ≤ 400 → ((V.valL l n).1 = true → (V.cntL l : Int) ≤ n ∧ (V.valL l n).2 = n - V.cntL l) ∧ (-1 ≤ (V.valL l n).2 ∧ (V.valL l n).2 ≤ n)
  | [], n, h0, h1 => by rw [V.valL_nil]; simp only [V.cntL]; exact ⟨fun _ => by omega, by omega⟩
  | v :: l, n, h0, h1 => by
    have hv := V.val_spec v n h0 h1
    rw [V.valL_cons]; simp only [V.cntL]
    cases hx : v.val n with
    | mk b n' =>
      rw [hx] at hv
      simp only at hv
      cases b with
      | false => exact ⟨fun h => by simp at h, hv.2⟩
      | true =>
        have h2 := hv.1 rfl
        have := V.valL_spec l n' (by omega) (by omega)
        simp only
        refine ⟨fun h => ?_, by omega⟩
        have := this.1 h; omega
end
mutual
theorem V.cnt_pos : ∀ (v : V), 1 ≤ v.cnt
  | .mk k m ks => by simp only [V.cnt]; omega
end
mutual
theorem V.nod_cnt : ∀ (v : V), v.cnt ≤ 1000 → v.nod = v.cnt
  | .mk k m ks, h => by
    simp only [V.cnt] at h ⊢
    rw [V.nod_mk]
    rw [V.nodL_cnt ks 1 (by omega) (by omega)]; omega
theorem V.nodL_cnt : ∀ (l : List V) (a : Int), 0 ≤ a → a + V.cntL l ≤ 1000 → V.nodL a l = a + V.cntL l
  | [], a, _, _ => by simp [V.nodL_nil, V.cntL]
  | v :: l, a, h0, h => by
    simp only [V.cntL] at h ⊢
    rw [V.nodL_cons]
    rw [V.nod_cnt v (by omega), wrapI (by omega) (by omega), V.nodL_cnt l _ (by omega) (by omega)]; omega
end
mutual
theorem V.siz_le : ∀ (v : V), v.cnt ≤ 1000 → 1 ≤ v.siz ∧ v.siz ≤ v.cnt
  | .mk k m ks, h => by
    simp only [V.cnt] at h ⊢
    rw [V.siz_mk]
    split
    · omega
    · have := V.sizL_le ks 1 (by omega) (by omega); omega
theorem V.sizL_le : ∀ (l : List V) (a : Int), 0 ≤ a → a + V.cntL l ≤ 1000 → a ≤ V.sizL a l ∧ V.sizL a l ≤ a + V.cntL l
  | [], a, _, _ => by simp [V.sizL_nil, V.cntL]
  | v :: l, a, h0, h => by
    simp only [V.cntL] at h ⊢
    rw [V.sizL_cons]
    have h1 := V.siz_le v (by omega)
    rw [wrapI (by omega) (by omega)]
    have := V.sizL_le l (a + v.siz) (by omega) (by omega)
    omega
end
theorem V.keep_cnt {v : V} (h : (v.val 400).1 = true) : v.cnt ≤ 400 := by
  have := (V.val_spec v 400 (by omega) (by omega)).1 h
  omega
theorem V.keep_siz {v : V} (h : (v.val 400).1 = true) : v.siz ≤ v.nod := by
  have h := V.keep_cnt h
  rw [V.nod_cnt v (by omega)]
  exact (V.siz_le v (by omega)).2
end Go.AM
