import Derived.Test.YteepjclmedmbgaaCmpA
set_option linter.all false
namespace Go.AM
theorem cmpI_zero {a b : Int} : cmpI a b = 0 ↔ a = b := by
  unfold cmpI
  split
  · omega
  · split <;> omega

theorem cmpI_ne {a b : Int} (h : ¬ a = b) : (if decide (a < b) = true then (-1 : Int) else 1) = cmpI a b := by
  unfold cmpI
  split <;> rename_i h1 <;> simp at h1
  · rw [if_pos h1]
  · rw [if_neg (by omega), if_pos (by omega)]
theorem cmpI_self (a : Int) : cmpI a a = 0 := cmpI_zero.2 rfl

theorem cmpI_rng (a b : Int) : cmpI a b = -1 ∨ cmpI a b = 0 ∨ cmpI a b = 1 := by
  unfold cmpI; split
  · simp
  · split <;> simp
theorem cmpI_anti (a b : Int) : cmpI a b = -cmpI b a := by
  unfold cmpI
  by_cases h1 : a < b
  · rw [if_pos h1, if_neg (by omega), if_pos h1]
  · rw [if_neg h1]
    by_cases h2 : b < a
    · rw [if_pos h2, if_pos h2]; rfl
    · rw [if_neg h2, if_neg h2, if_neg h1]; rfl
theorem cmpI_neg {a b : Int} : cmpI a b < 0 ↔ a < b := by
  unfold cmpI
  by_cases h1 : a < b
  · rw [if_pos h1]; omega
  · rw [if_neg h1]; split <;> omega
/-- One step of a lexicographic order. -/
theorem lex_trans {a b c x y z : Int} (h : a = b → b = c → x ≤ 0 → y ≤ 0 → z ≤ 0) (h1 : (if cmpI a b = 0 then x else cmpI a b) ≤ 0) (h2 : (if cmpI b c = 0 then y else cmpI b c) ≤ 0) : (if cmpI a c = 0 then z else cmpI a c) ≤ 0 := by
  by_cases e1 : cmpI a b = 0
  · have e1' := cmpI_zero.1 e1
    subst e1'
    by_cases e2 : cmpI a c = 0
    · have e2' := cmpI_zero.1 e2
      subst e2'
      rw [if_pos e1] at h1 h2 ⊢
      exact h rfl rfl h1 h2
    · rw [if_neg e2] at h2 ⊢; exact h2
  · rw [if_neg e1] at h1
    have l1 : a < b := cmpI_neg.1 (by omega)
    have l2 : b ≤ c := by
      by_cases e2 : cmpI b c = 0
      · have := cmpI_zero.1 e2; omega
      · rw [if_neg e2] at h2
        have := (cmpI_neg (a := b) (b := c)).1 (by omega); omega
    have l3 : cmpI a c < 0 := cmpI_neg.2 (by omega)
    rw [if_neg (by omega)]; omega
end Go.AM
