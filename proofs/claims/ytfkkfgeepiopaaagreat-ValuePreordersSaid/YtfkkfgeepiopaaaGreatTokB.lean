import Derived.Test.YtfkkfgeepiopaaaGreatTokA
set_option linter.all false
set_option maxRecDepth 20000
set_option maxHeartbeats 2000000
namespace Go.AM
open Go.Proofs

abbrev bt (s : ByteArray) (i : Nat) : Int := byteAt s (i : Int)
def digStep (v b : Int) : Int := IntKind.wrap .i64 (IntKind.wrap .i64 (v * 10) + IntKind.wrap .i64 (IntKind.wrap .u8 (b - 48)))
def valGo (s : ByteArray) : Nat → Nat → Int → Int × Bool
  | 0, j, v => (v, true)
  | m + 1, j, v => if 1000000 < digStep v (bt s j) then (0, false) else valGo s m (j + 1) (digStep v (bt s j))
theorem valGo_zero (s : ByteArray) (j : Nat) (v : Int) : valGo s 0 j v = (v, true) := rfl
theorem valGo_succ (s : ByteArray) (m j : Nat) (v : Int) : valGo s (m + 1) j v = if 1000000 < digStep v (bt s j) then (0, false) else valGo s m (j + 1) (digStep v (bt s j)) := rfl
attribute [irreducible] valGo
def valP (x : Int × Bool) : PV := .tuple [.int .i64 x.1, .bool x.2]

theorem value_r (s : ByteArray) (hz : s.size ≤ 100000) : Det Tryz.prog 77 [.str s] (valP (valGo s s.size 0 0)) := by
  generalize hR : valP (valGo s s.size 0 0) = R
  refine det_of_vc' (E := S.E 0) rfl fol Tryz.func77 rfl rfl (slots := [2, 3]) rfl rfl fun hw => ?_
  set_option smartUnfolding false in conv => whnf
  refine vloop_intro (σ := Nat × Int) (fun x => x.1 ≤ s.size ∧ valP (valGo s (s.size - x.1) x.1 x.2) = R) (fun x => [(0, .pv (.str s)), (4, .pv (.int .i64 x.2)), (5, .pv (.int .i64 x.1))]) (fun _ => []) (fun x => s.size - x.1) (0, 0) ⟨by simp, by simpa using hR⟩ (weak_bare rfl ⟨(by kernel_rfl), (by kernel_rfl), (by kernel_rfl), trivial⟩) ?_
  rintro ⟨i, v⟩ ⟨hi, hs⟩
  simp only at hi hs
  set_option smartUnfolding false in conv => whnf
  refine br_intro (fun h => ?_) (fun h => ?_) <;> set_option smartUnfolding false in conv => whnf
  · replace h : i < s.size := by have := dT h; omega
    rw [show s.size - i = (s.size - (i + 1)) + 1 by omega, valGo_succ] at hs
    refine ⟨⟨by omega, by omega⟩, ?_⟩
    set_option smartUnfolding false in conv => whnf
    refine br_intro (fun g => ?_) (fun g => ?_) <;> set_option smartUnfolding false in conv => whnf
    · have g' : 1000000 < digStep v (bt s i) := dT g
      rw [if_pos g'] at hs
      rw [← hs]
      exact .pv _
    · have g' : ¬ 1000000 < digStep v (bt s i) := dF g
      rw [if_neg g'] at hs
      exact ⟨(i + 1, digStep v (bt s i)), ⟨h, hs⟩, weak_bare rfl ⟨(by kernel_rfl), (by kernel_rfl), sUp h (by omega), trivial⟩, subUp h⟩
  · replace h : ¬ i < s.size := by have := dF h; omega
    rw [show s.size - i = 0 by omega, valGo_zero] at hs
    rw [← hs]
    exact .pv _

/-! ### Signs -/
def sgL : List Int := [40, 41, 44, 61, 124, 43, 45, 42, 47, 37, 60, 59, 95]
def sgn (b : Int) : List Int → Bool
  | [] => false
  | c :: l => if b = c then true else sgn b l
theorem sgn_nil (b : Int) : sgn b [] = false := rfl
theorem sgn_cons (b c : Int) (l : List Int) : sgn b (c :: l) = if b = c then true else sgn b l := rfl
attribute [irreducible] sgn
/-- A sign of two bytes. -/
def two (s : ByteArray) : Bool := decide (1 < s.size) && ((s.extract 0 2).toList == (⟨#[45, 62]⟩ : ByteArray).toList || (s.extract 0 2).toList == (⟨#[60, 61]⟩ : ByteArray).toList || (s.extract 0 2).toList == (⟨#[61, 61]⟩ : ByteArray).toList)
def signT (s : ByteArray) : ByteArray := if two s = true then s.extract 0 2 else if sgn (bt s 0) sgL = true then s.extract 0 1 else ⟨#[]⟩
attribute [irreducible] two

theorem sign_t (s : ByteArray) (h0 : 0 < s.size) (hz : s.size ≤ 100000) : Det Tryz.prog 105 [.str s] (.str (signT s)) := by
  generalize hR : signT s = R
  unfold signT at hR
  refine det_of_vc' (E := S.E 0) rfl fol Tryz.func105 rfl rfl (slots := [2]) rfl rfl fun hw => ?_
  set_option smartUnfolding false in conv => whnf
  refine br_intro (fun g => ?_) (fun g => ?_) <;> set_option smartUnfolding false in conv => whnf
  · have g' := dT g
    refine ⟨⟨by omega, by omega⟩, ?_⟩
    set_option smartUnfolding false in conv => whnf
    refine br_intro (fun h1 => ?_) (fun h1 => ?_) <;> set_option smartUnfolding false in conv => whnf
    · rw [if_pos (by unfold two; rw [decide_eq_true (p := 1 < s.size) (by omega)]; simp only [Bool.true_and]; rw [show ((s.extract 0 2).toList == _) = true from h1]; rfl)] at hR
      refine ⟨⟨by omega, by omega⟩, ?_⟩
      set_option smartUnfolding false in conv => whnf
      rw [← hR]
      exact rdP rfl
    refine br_intro (fun h2 => ?_) (fun h2 => ?_) <;> set_option smartUnfolding false in conv => whnf
    · rw [if_pos (by unfold two; rw [decide_eq_true (p := 1 < s.size) (by omega)]; simp only [Bool.true_and]; rw [show ((s.extract 0 2).toList == _) = false from h1, show ((s.extract 0 2).toList == _) = true from h2]; rfl)] at hR
      refine ⟨⟨by omega, by omega⟩, ?_⟩
      set_option smartUnfolding false in conv => whnf
      rw [← hR]
      exact rdP rfl
    refine br_intro (fun h3 => ?_) (fun h3 => ?_) <;> set_option smartUnfolding false in conv => whnf
    · rw [if_pos (by unfold two; rw [decide_eq_true (p := 1 < s.size) (by omega)]; simp only [Bool.true_and]; rw [show ((s.extract 0 2).toList == _) = false from h1, show ((s.extract 0 2).toList == _) = false from h2, show ((s.extract 0 2).toList == _) = true from h3]; rfl)] at hR
      refine ⟨⟨by omega, by omega⟩, ?_⟩
      set_option smartUnfolding false in conv => whnf
      rw [← hR]
      exact rdP rfl
    rw [if_neg (by unfold two; rw [show ((s.extract 0 2).toList == _) = false from h1, show ((s.extract 0 2).toList == _) = false from h2, show ((s.extract 0 2).toList == _) = false from h3]; simp)] at hR
    refine ⟨⟨by omega, by omega⟩, ?_⟩
    set_option smartUnfolding false in conv => whnf
    unfold sgL at hR
    refine br_intro (fun h => ?_) (fun h => ?_) <;> set_option smartUnfolding false in conv => whnf
    · rw [sgn_cons, if_pos (show bt s 0 = 40 from dT h)] at hR
      rw [← hR]
      refine ⟨⟨by omega, by omega⟩, ?_⟩
      set_option smartUnfolding false in conv => whnf
      exact rdP rfl
    rw [sgn_cons, if_neg (show ¬ bt s 0 = 40 from dF h)] at hR
    refine br_intro (fun h => ?_) (fun h => ?_) <;> set_option smartUnfolding false in conv => whnf
    · rw [sgn_cons, if_pos (show bt s 0 = 41 from dT h)] at hR
      rw [← hR]
      refine ⟨⟨by omega, by omega⟩, ?_⟩
      set_option smartUnfolding false in conv => whnf
      exact rdP rfl
    rw [sgn_cons, if_neg (show ¬ bt s 0 = 41 from dF h)] at hR
    refine br_intro (fun h => ?_) (fun h => ?_) <;> set_option smartUnfolding false in conv => whnf
    · rw [sgn_cons, if_pos (show bt s 0 = 44 from dT h)] at hR
      rw [← hR]
      refine ⟨⟨by omega, by omega⟩, ?_⟩
      set_option smartUnfolding false in conv => whnf
      exact rdP rfl
    rw [sgn_cons, if_neg (show ¬ bt s 0 = 44 from dF h)] at hR
    refine br_intro (fun h => ?_) (fun h => ?_) <;> set_option smartUnfolding false in conv => whnf
    · rw [sgn_cons, if_pos (show bt s 0 = 61 from dT h)] at hR
      rw [← hR]
      refine ⟨⟨by omega, by omega⟩, ?_⟩
      set_option smartUnfolding false in conv => whnf
      exact rdP rfl
    rw [sgn_cons, if_neg (show ¬ bt s 0 = 61 from dF h)] at hR
    refine br_intro (fun h => ?_) (fun h => ?_) <;> set_option smartUnfolding false in conv => whnf
    · rw [sgn_cons, if_pos (show bt s 0 = 124 from dT h)] at hR
      rw [← hR]
      refine ⟨⟨by omega, by omega⟩, ?_⟩
      set_option smartUnfolding false in conv => whnf
      exact rdP rfl
    rw [sgn_cons, if_neg (show ¬ bt s 0 = 124 from dF h)] at hR
    refine br_intro (fun h => ?_) (fun h => ?_) <;> set_option smartUnfolding false in conv => whnf
    · rw [sgn_cons, if_pos (show bt s 0 = 43 from dT h)] at hR
      rw [← hR]
      refine ⟨⟨by omega, by omega⟩, ?_⟩
      set_option smartUnfolding false in conv => whnf
      exact rdP rfl
    rw [sgn_cons, if_neg (show ¬ bt s 0 = 43 from dF h)] at hR
    refine br_intro (fun h => ?_) (fun h => ?_) <;> set_option smartUnfolding false in conv => whnf
    · rw [sgn_cons, if_pos (show bt s 0 = 45 from dT h)] at hR
      rw [← hR]
      refine ⟨⟨by omega, by omega⟩, ?_⟩
      set_option smartUnfolding false in conv => whnf
      exact rdP rfl
    rw [sgn_cons, if_neg (show ¬ bt s 0 = 45 from dF h)] at hR
    refine br_intro (fun h => ?_) (fun h => ?_) <;> set_option smartUnfolding false in conv => whnf
    · rw [sgn_cons, if_pos (show bt s 0 = 42 from dT h)] at hR
      rw [← hR]
      refine ⟨⟨by omega, by omega⟩, ?_⟩
      set_option smartUnfolding false in conv => whnf
      exact rdP rfl
    rw [sgn_cons, if_neg (show ¬ bt s 0 = 42 from dF h)] at hR
    refine br_intro (fun h => ?_) (fun h => ?_) <;> set_option smartUnfolding false in conv => whnf
    · rw [sgn_cons, if_pos (show bt s 0 = 47 from dT h)] at hR
      rw [← hR]
      refine ⟨⟨by omega, by omega⟩, ?_⟩
      set_option smartUnfolding false in conv => whnf
      exact rdP rfl
    rw [sgn_cons, if_neg (show ¬ bt s 0 = 47 from dF h)] at hR
    refine br_intro (fun h => ?_) (fun h => ?_) <;> set_option smartUnfolding false in conv => whnf
    · rw [sgn_cons, if_pos (show bt s 0 = 37 from dT h)] at hR
      rw [← hR]
      refine ⟨⟨by omega, by omega⟩, ?_⟩
      set_option smartUnfolding false in conv => whnf
      exact rdP rfl
    rw [sgn_cons, if_neg (show ¬ bt s 0 = 37 from dF h)] at hR
    refine br_intro (fun h => ?_) (fun h => ?_) <;> set_option smartUnfolding false in conv => whnf
    · rw [sgn_cons, if_pos (show bt s 0 = 60 from dT h)] at hR
      rw [← hR]
      refine ⟨⟨by omega, by omega⟩, ?_⟩
      set_option smartUnfolding false in conv => whnf
      exact rdP rfl
    rw [sgn_cons, if_neg (show ¬ bt s 0 = 60 from dF h)] at hR
    refine br_intro (fun h => ?_) (fun h => ?_) <;> set_option smartUnfolding false in conv => whnf
    · rw [sgn_cons, if_pos (show bt s 0 = 59 from dT h)] at hR
      rw [← hR]
      refine ⟨⟨by omega, by omega⟩, ?_⟩
      set_option smartUnfolding false in conv => whnf
      exact rdP rfl
    rw [sgn_cons, if_neg (show ¬ bt s 0 = 59 from dF h)] at hR
    refine br_intro (fun h => ?_) (fun h => ?_) <;> set_option smartUnfolding false in conv => whnf
    · rw [sgn_cons, if_pos (show bt s 0 = 95 from dT h)] at hR
      rw [← hR]
      refine ⟨⟨by omega, by omega⟩, ?_⟩
      set_option smartUnfolding false in conv => whnf
      exact rdP rfl
    rw [sgn_cons, if_neg (show ¬ bt s 0 = 95 from dF h)] at hR
    rw [sgn_nil] at hR
    exact rdP (by rw [← hR]; rfl)
  · have g' := dF g
    rw [if_neg (by unfold two; rw [decide_eq_false (by omega)]; simp)] at hR
    refine ⟨⟨by omega, by omega⟩, ?_⟩
    set_option smartUnfolding false in conv => whnf
    unfold sgL at hR
    refine br_intro (fun h => ?_) (fun h => ?_) <;> set_option smartUnfolding false in conv => whnf
    · rw [sgn_cons, if_pos (show bt s 0 = 40 from dT h)] at hR
      rw [← hR]
      refine ⟨⟨by omega, by omega⟩, ?_⟩
      set_option smartUnfolding false in conv => whnf
      exact rdP rfl
    rw [sgn_cons, if_neg (show ¬ bt s 0 = 40 from dF h)] at hR
    refine br_intro (fun h => ?_) (fun h => ?_) <;> set_option smartUnfolding false in conv => whnf
    · rw [sgn_cons, if_pos (show bt s 0 = 41 from dT h)] at hR
      rw [← hR]
      refine ⟨⟨by omega, by omega⟩, ?_⟩
      set_option smartUnfolding false in conv => whnf
      exact rdP rfl
    rw [sgn_cons, if_neg (show ¬ bt s 0 = 41 from dF h)] at hR
    refine br_intro (fun h => ?_) (fun h => ?_) <;> set_option smartUnfolding false in conv => whnf
    · rw [sgn_cons, if_pos (show bt s 0 = 44 from dT h)] at hR
      rw [← hR]
      refine ⟨⟨by omega, by omega⟩, ?_⟩
      set_option smartUnfolding false in conv => whnf
      exact rdP rfl
    rw [sgn_cons, if_neg (show ¬ bt s 0 = 44 from dF h)] at hR
    refine br_intro (fun h => ?_) (fun h => ?_) <;> set_option smartUnfolding false in conv => whnf
    · rw [sgn_cons, if_pos (show bt s 0 = 61 from dT h)] at hR
      rw [← hR]
      refine ⟨⟨by omega, by omega⟩, ?_⟩
      set_option smartUnfolding false in conv => whnf
      exact rdP rfl
    rw [sgn_cons, if_neg (show ¬ bt s 0 = 61 from dF h)] at hR
    refine br_intro (fun h => ?_) (fun h => ?_) <;> set_option smartUnfolding false in conv => whnf
    · rw [sgn_cons, if_pos (show bt s 0 = 124 from dT h)] at hR
      rw [← hR]
      refine ⟨⟨by omega, by omega⟩, ?_⟩
      set_option smartUnfolding false in conv => whnf
      exact rdP rfl
    rw [sgn_cons, if_neg (show ¬ bt s 0 = 124 from dF h)] at hR
    refine br_intro (fun h => ?_) (fun h => ?_) <;> set_option smartUnfolding false in conv => whnf
    · rw [sgn_cons, if_pos (show bt s 0 = 43 from dT h)] at hR
      rw [← hR]
      refine ⟨⟨by omega, by omega⟩, ?_⟩
      set_option smartUnfolding false in conv => whnf
      exact rdP rfl
    rw [sgn_cons, if_neg (show ¬ bt s 0 = 43 from dF h)] at hR
    refine br_intro (fun h => ?_) (fun h => ?_) <;> set_option smartUnfolding false in conv => whnf
    · rw [sgn_cons, if_pos (show bt s 0 = 45 from dT h)] at hR
      rw [← hR]
      refine ⟨⟨by omega, by omega⟩, ?_⟩
      set_option smartUnfolding false in conv => whnf
      exact rdP rfl
    rw [sgn_cons, if_neg (show ¬ bt s 0 = 45 from dF h)] at hR
    refine br_intro (fun h => ?_) (fun h => ?_) <;> set_option smartUnfolding false in conv => whnf
    · rw [sgn_cons, if_pos (show bt s 0 = 42 from dT h)] at hR
      rw [← hR]
      refine ⟨⟨by omega, by omega⟩, ?_⟩
      set_option smartUnfolding false in conv => whnf
      exact rdP rfl
    rw [sgn_cons, if_neg (show ¬ bt s 0 = 42 from dF h)] at hR
    refine br_intro (fun h => ?_) (fun h => ?_) <;> set_option smartUnfolding false in conv => whnf
    · rw [sgn_cons, if_pos (show bt s 0 = 47 from dT h)] at hR
      rw [← hR]
      refine ⟨⟨by omega, by omega⟩, ?_⟩
      set_option smartUnfolding false in conv => whnf
      exact rdP rfl
    rw [sgn_cons, if_neg (show ¬ bt s 0 = 47 from dF h)] at hR
    refine br_intro (fun h => ?_) (fun h => ?_) <;> set_option smartUnfolding false in conv => whnf
    · rw [sgn_cons, if_pos (show bt s 0 = 37 from dT h)] at hR
      rw [← hR]
      refine ⟨⟨by omega, by omega⟩, ?_⟩
      set_option smartUnfolding false in conv => whnf
      exact rdP rfl
    rw [sgn_cons, if_neg (show ¬ bt s 0 = 37 from dF h)] at hR
    refine br_intro (fun h => ?_) (fun h => ?_) <;> set_option smartUnfolding false in conv => whnf
    · rw [sgn_cons, if_pos (show bt s 0 = 60 from dT h)] at hR
      rw [← hR]
      refine ⟨⟨by omega, by omega⟩, ?_⟩
      set_option smartUnfolding false in conv => whnf
      exact rdP rfl
    rw [sgn_cons, if_neg (show ¬ bt s 0 = 60 from dF h)] at hR
    refine br_intro (fun h => ?_) (fun h => ?_) <;> set_option smartUnfolding false in conv => whnf
    · rw [sgn_cons, if_pos (show bt s 0 = 59 from dT h)] at hR
      rw [← hR]
      refine ⟨⟨by omega, by omega⟩, ?_⟩
      set_option smartUnfolding false in conv => whnf
      exact rdP rfl
    rw [sgn_cons, if_neg (show ¬ bt s 0 = 59 from dF h)] at hR
    refine br_intro (fun h => ?_) (fun h => ?_) <;> set_option smartUnfolding false in conv => whnf
    · rw [sgn_cons, if_pos (show bt s 0 = 95 from dT h)] at hR
      rw [← hR]
      refine ⟨⟨by omega, by omega⟩, ?_⟩
      set_option smartUnfolding false in conv => whnf
      exact rdP rfl
    rw [sgn_cons, if_neg (show ¬ bt s 0 = 95 from dF h)] at hR
    rw [sgn_nil] at hR
    exact rdP (by rw [← hR]; rfl)

/-- The bytes of the reference's signs. -/
def sgB : ByteArray := ⟨#[40, 41, 44, 61, 124, 43, 45, 42, 47, 37, 60, 59, 95]⟩
def sgI : Nat → List Int
  | 0 => []
  | m + 1 => bt sgB (12 - m) :: sgI m
def sgR : List Int := sgI 13
theorem sgI_succ (m : Nat) : sgI (m + 1) = bt sgB (12 - m) :: sgI m := rfl
theorem sgB_size : sgB.size = 13 := rfl
attribute [irreducible] sgI sgB
def signR (s : ByteArray) : Int := if two s = true then 2 else if sgn (bt s 0) sgR = true then 1 else 0
theorem sign_r (s : ByteArray) (h0 : 0 < s.size) (hz : s.size ≤ 100000) : Det Tryz.prog 78 [.str s] (.int .i64 (signR s)) := by
  generalize hR : signR s = R
  unfold signR at hR
  refine det_of_vc' (E := S.E 0) rfl fol Tryz.func78 rfl rfl (slots := [2]) rfl rfl fun hw => ?_
  set_option smartUnfolding false in conv => whnf
  refine br_intro (fun g => ?_) (fun g => ?_) <;> set_option smartUnfolding false in conv => whnf
  · have g' := dT g
    refine ⟨⟨by omega, by omega⟩, ?_⟩
    set_option smartUnfolding false in conv => whnf
    refine br_intro (fun h1 => ?_) (fun h1 => ?_) <;> set_option smartUnfolding false in conv => whnf
    · rw [if_pos (by unfold two; rw [decide_eq_true (p := 1 < s.size) (by omega)]; simp only [Bool.true_and]; rw [show ((s.extract 0 2).toList == _) = true from h1]; rfl)] at hR
      exact rdI hR
    refine ⟨⟨by omega, by omega⟩, ?_⟩
    set_option smartUnfolding false in conv => whnf
    refine br_intro (fun h2 => ?_) (fun h2 => ?_) <;> set_option smartUnfolding false in conv => whnf
    · rw [if_pos (by unfold two; rw [decide_eq_true (p := 1 < s.size) (by omega)]; simp only [Bool.true_and]; rw [show ((s.extract 0 2).toList == _) = false from h1, show ((s.extract 0 2).toList == _) = true from h2]; rfl)] at hR
      exact rdI hR
    refine ⟨⟨by omega, by omega⟩, ?_⟩
    set_option smartUnfolding false in conv => whnf
    refine br_intro (fun h3 => ?_) (fun h3 => ?_) <;> set_option smartUnfolding false in conv => whnf
    · rw [if_pos (by unfold two; rw [decide_eq_true (p := 1 < s.size) (by omega)]; simp only [Bool.true_and]; rw [show ((s.extract 0 2).toList == _) = false from h1, show ((s.extract 0 2).toList == _) = false from h2, show ((s.extract 0 2).toList == _) = true from h3]; rfl)] at hR
      exact rdI hR
    rw [if_neg (by unfold two; rw [show ((s.extract 0 2).toList == _) = false from h1, show ((s.extract 0 2).toList == _) = false from h2, show ((s.extract 0 2).toList == _) = false from h3]; simp)] at hR
    unfold sgR at hR
    refine vloop_intro (σ := Nat) (fun i => i ≤ 13 ∧ (if sgn (bt s 0) (sgI (13 - i)) = true then (1 : Int) else 0) = R) (fun i => [(0, .pv (.str s)), (3, .pv (.str sgB)), (4, .pv (.int .i64 i))]) (fun _ => []) (fun i => 13 - i) 0 ⟨by simp, by simpa using hR⟩ (weak_bare rfl ⟨(by kernel_rfl), (by kernel_rfl), (by kernel_rfl), trivial⟩) ?_
    rintro i ⟨hi, hs⟩
    set_option smartUnfolding false in conv => whnf
    refine br_intro (fun h => ?_) (fun h => ?_) <;> set_option smartUnfolding false in conv => whnf
    · replace h : i < 13 := by have := dT h; rw [sgB_size] at this; omega
      rw [show 13 - i = (12 - i) + 1 by omega, sgI_succ, show 12 - (12 - i) = i by omega, sgn_cons] at hs
      refine ⟨⟨by omega, by omega⟩, ?_⟩
      set_option smartUnfolding false in conv => whnf
      refine ⟨⟨by omega, by rw [sgB_size]; omega⟩, ?_⟩
      set_option smartUnfolding false in conv => whnf
      refine br_intro (fun g => ?_) (fun g => ?_) <;> set_option smartUnfolding false in conv => whnf
      · have g' : bt s 0 = bt sgB i := dT g
        rw [if_pos g', if_pos rfl] at hs
        exact rdI hs
      · have g' : ¬ bt s 0 = bt sgB i := dF g
        rw [if_neg g'] at hs
        exact ⟨i + 1, ⟨h, by rw [show 13 - (i + 1) = 12 - i by omega]; exact hs⟩, weak_bare rfl ⟨(by kernel_rfl), (by kernel_rfl), sUp h (by omega), trivial⟩, subUp h⟩
    · replace h : ¬ i < 13 := by have := dF h; rw [sgB_size] at this; omega
      rw [show 13 - i = 0 by omega, show sgI 0 = [] by unfold sgI; rfl, sgn_nil] at hs
      exact rdI hs
  · have g' := dF g
    rw [if_neg (by unfold two; rw [decide_eq_false (by omega)]; simp)] at hR
    unfold sgR at hR
    refine vloop_intro (σ := Nat) (fun i => i ≤ 13 ∧ (if sgn (bt s 0) (sgI (13 - i)) = true then (1 : Int) else 0) = R) (fun i => [(0, .pv (.str s)), (3, .pv (.str sgB)), (4, .pv (.int .i64 i))]) (fun _ => []) (fun i => 13 - i) 0 ⟨by simp, by simpa using hR⟩ (weak_bare rfl ⟨(by kernel_rfl), (by kernel_rfl), (by kernel_rfl), trivial⟩) ?_
    rintro i ⟨hi, hs⟩
    set_option smartUnfolding false in conv => whnf
    refine br_intro (fun h => ?_) (fun h => ?_) <;> set_option smartUnfolding false in conv => whnf
    · replace h : i < 13 := by have := dT h; rw [sgB_size] at this; omega
      rw [show 13 - i = (12 - i) + 1 by omega, sgI_succ, show 12 - (12 - i) = i by omega, sgn_cons] at hs
      refine ⟨⟨by omega, by omega⟩, ?_⟩
      set_option smartUnfolding false in conv => whnf
      refine ⟨⟨by omega, by rw [sgB_size]; omega⟩, ?_⟩
      set_option smartUnfolding false in conv => whnf
      refine br_intro (fun g => ?_) (fun g => ?_) <;> set_option smartUnfolding false in conv => whnf
      · have g' : bt s 0 = bt sgB i := dT g
        rw [if_pos g', if_pos rfl] at hs
        exact rdI hs
      · have g' : ¬ bt s 0 = bt sgB i := dF g
        rw [if_neg g'] at hs
        exact ⟨i + 1, ⟨h, by rw [show 13 - (i + 1) = 12 - i by omega]; exact hs⟩, weak_bare rfl ⟨(by kernel_rfl), (by kernel_rfl), sUp h (by omega), trivial⟩, subUp h⟩
    · replace h : ¬ i < 13 := by have := dF h; rw [sgB_size] at this; omega
      rw [show 13 - i = 0 by omega, show sgI 0 = [] by unfold sgI; rfl, sgn_nil] at hs
      exact rdI hs
end Go.AM
