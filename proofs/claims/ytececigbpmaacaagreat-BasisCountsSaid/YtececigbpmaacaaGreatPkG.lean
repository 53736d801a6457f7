import Derived.Test.YtececigbpmaacaaGreatPkF
set_option linter.all false
set_option maxRecDepth 20000
set_option maxHeartbeats 2000000
namespace Go.AM
open Go.Proofs

abbrev bt (s : ByteArray) (i : Nat) : Int := byteAt s (i : Int)
def digStep (v b : Int) : Int := IntKind.wrap .i64 (IntKind.wrap .i64 (v * 10) + IntKind.wrap .i64 (IntKind.wrap .u8 (b - 48)))
def valGo (s : ByteArray) : Nat → Nat → Int → Int × Bool
  | 0, j, v => (v, true)
  | m + 1, j, v => if 1000000 < digStep v (bt s j) then (0, false) else valGo s m (j + 1) (digStep v (bt s j))
theorem valGo_zero (s : ByteArray) (j : Nat) (v : Int) : valGo s 0 j v = (v, true) := rfl
theorem valGo_succ (s : ByteArray) (m j : Nat) (v : Int) : valGo s (m + 1) j v = if 1000000 < digStep v (bt s j) then (0, false) else valGo s m (j + 1) (digStep v (bt s j)) := rfl
attribute [irreducible] valGo
def valP (x : Int × Bool) : PV := .tuple [.int .i64 x.1, .bool x.2]

theorem value_r (s : ByteArray) (hz : s.size ≤ 100000) : Det Tryz.prog 128 [.str s] (valP (valGo s s.size 0 0)) := by
  generalize hR : valP (valGo s s.size 0 0) = R
  refine det_of_vc' (E := S.E 0) rfl fol Tryz.func128 rfl rfl (slots := [2, 3]) rfl rfl fun hw => ?_
  set_option smartUnfolding false in conv => whnf
  refine vloop_intro (σ := Nat × Int) (fun x => x.1 ≤ s.size ∧ valP (valGo s (s.size - x.1) x.1 x.2) = R) (fun x => [(0, .pv (.str s)), (4, .pv (.int .i64 x.2)), (5, .pv (.int .i64 x.1))]) (fun _ => []) (fun x => s.size - x.1) (0, 0) ⟨by simp, by simpa using hR⟩ (weak_bare rfl ⟨(by kernel_rfl), (by kernel_rfl), (by kernel_rfl), trivial⟩) ?_
  rintro ⟨i, v⟩ ⟨hi, hs⟩
  simp only at hi hs
  set_option smartUnfolding false in conv => whnf
  refine br_intro (fun h => ?_) (fun h => ?_) <;> set_option smartUnfolding false in conv => whnf
  · replace h : i < s.size := by have := dT h; omega
    rw [show s.size - i = (s.size - (i + 1)) + 1 by omega, valGo_succ] at hs
    refine ⟨⟨by omega, by omega⟩, ?_⟩
    set_option smartUnfolding false in conv => whnf
    refine br_intro (fun g => ?_) (fun g => ?_) <;> set_option smartUnfolding false in conv => whnf
    · have g' : 1000000 < digStep v (bt s i) := dT g
      rw [if_pos g'] at hs
      rw [← hs]
      exact .pv _
    · have g' : ¬ 1000000 < digStep v (bt s i) := dF g
      rw [if_neg g'] at hs
      exact ⟨(i + 1, digStep v (bt s i)), ⟨h, hs⟩, weak_bare rfl ⟨(by kernel_rfl), (by kernel_rfl), sUp h (by omega), trivial⟩, subUp h⟩
  · replace h : ¬ i < s.size := by have := dF h; omega
    rw [show s.size - i = 0 by omega, valGo_zero] at hs
    rw [← hs]
    exact .pv _

/-! ### Signs -/
def sgL : List Int := [40, 41, 44, 61, 124, 43, 45, 42, 47, 37, 60, 59, 95]
def sgn (b : Int) : List Int → Bool
  | [] => false
  | c :: l => if b = c then true else sgn b l
theorem sgn_nil (b : Int) : sgn b [] = false := rfl
theorem sgn_cons (b c : Int) (l : List Int) : sgn b (c :: l) = if b = c then true else sgn b l := rfl
attribute [irreducible] sgn
/-- A sign of two bytes. -/
def two (s : ByteArray) : Bool := decide (1 < s.size) && ((s.extract 0 2).toList == (⟨#[45, 62]⟩ : ByteArray).toList || (s.extract 0 2).toList == (⟨#[60, 61]⟩ : ByteArray).toList || (s.extract 0 2).toList == (⟨#[61, 61]⟩ : ByteArray).toList)
def signT (s : ByteArray) : ByteArray := if two s = true then s.extract 0 2 else if sgn (bt s 0) sgL = true then s.extract 0 1 else ⟨#[]⟩
attribute [irreducible] two

theorem sign_t (s : ByteArray) (h0 : 0 < s.size) (hz : s.size ≤ 100000) : Det Tryz.prog 160 [.str s] (.str (signT s)) := by
  generalize hR : signT s = R
  unfold signT at hR
  refine det_of_vc' (E := S.E 0) rfl fol Tryz.func160 rfl rfl (slots := [2]) rfl rfl fun hw => ?_
  set_option smartUnfolding false in conv => whnf
  refine br_intro (fun g => ?_) (fun g => ?_) <;> set_option smartUnfolding false in conv => whnf
  · have g' := dT g
    refine ⟨⟨by omega, by omega⟩, ?_⟩
    set_option smartUnfolding false in conv => whnf
    refine br_intro (fun h1 => ?_) (fun h1 => ?_) <;> set_option smartUnfolding false in conv => whnf
    · rw [if_pos (by unfold two; rw [decide_eq_true (p := 1 < s.size) (by omega)]; simp only [Bool.true_and]; rw [show ((s.extract 0 2).toList == _) = true from h1]; rfl)] at hR
      refine ⟨⟨by omega, by omega⟩, ?_⟩
      set_option smartUnfolding false in conv => whnf
      rw [← hR]
      exact rdP rfl
    refine br_intro (fun h2 => ?_) (fun h2 => ?_) <;> set_option smartUnfolding false in conv => whnf
    · rw [if_pos (by unfold two; rw [decide_eq_true (p := 1 < s.size) (by omega)]; simp only [Bool.true_and]; rw [show ((s.extract 0 2).toList == _) = false from h1, show ((s.extract 0 2).toList == _) = true from h2]; rfl)] at hR
      refine ⟨⟨by omega, by omega⟩, ?_⟩
      set_option smartUnfolding false in conv => whnf
      rw [← hR]
      exact rdP rfl
    refine br_intro (fun h3 => ?_) (fun h3 => ?_) <;> set_option smartUnfolding false in conv => whnf
    · rw [if_pos (by unfold two; rw [decide_eq_true (p := 1 < s.size) (by omega)]; simp only [Bool.true_and]; rw [show ((s.extract 0 2).toList == _) = false from h1, show ((s.extract 0 2).toList == _) = false from h2, show ((s.extract 0 2).toList == _) = true from h3]; rfl)] at hR
      refine ⟨⟨by omega, by omega⟩, ?_⟩
      set_option smartUnfolding false in conv => whnf
      rw [← hR]
      exact rdP rfl
    rw [if_neg (by unfold two; rw [show ((s.extract 0 2).toList == _) = false from h1, show ((s.extract 0 2).toList == _) = false from h2, show ((s.extract 0 2).toList == _) = false from h3]; simp)] at hR
    refine ⟨⟨by omega, by omega⟩, ?_⟩
    set_option smartUnfolding false in conv => whnf
    unfold sgL at hR
    refine br_intro (fun h => ?_) (fun h => ?_) <;> set_option smartUnfolding false in conv => whnf
    · rw [sgn_cons, if_pos (show bt s 0 = 40 from dT h)] at hR
      rw [← hR]
      refine ⟨⟨by omega, by omega⟩, ?_⟩
      set_option smartUnfolding false in conv => whnf
      exact rdP rfl
    rw [sgn_cons, if_neg (show ¬ bt s 0 = 40 from dF h)] at hR
    refine br_intro (fun h => ?_) (fun h => ?_) <;> set_option smartUnfolding false in conv => whnf
    · rw [sgn_cons, if_pos (show bt s 0 = 41 from dT h)] at hR
      rw [← hR]
      refine ⟨⟨by omega, by omega⟩, ?_⟩
      set_option smartUnfolding false in conv => whnf
      exact rdP rfl
    rw [sgn_cons, if_neg (show ¬ bt s 0 = 41 from dF h)] at hR
    refine br_intro (fun h => ?_) (fun h => ?_) <;> set_option smartUnfolding false in conv => whnf
    · rw [sgn_cons, if_pos (show bt s 0 = 44 from dT h)] at hR
      rw [← hR]
      refine ⟨⟨by omega, by omega⟩, ?_⟩
      set_option smartUnfolding false in conv => whnf
      exact rdP rfl
    rw [sgn_cons, if_neg (show ¬ bt s 0 = 44 from dF h)] at hR
    refine br_intro (fun h => ?_) (fun h => ?_) <;> set_option smartUnfolding false in conv => whnf
    · rw [sgn_cons, if_pos (show bt s 0 = 61 from dT h)] at hR
      rw [← hR]
      refine ⟨⟨by omega, by omega⟩, ?_⟩
      set_option smartUnfolding false in conv => whnf
      exact rdP rfl
    rw [sgn_cons, if_neg (show ¬ bt s 0 = 61 from dF h)] at hR
    refine br_intro (fun h => ?_) (fun h => ?_) <;> set_option smartUnfolding false in conv => whnf
    · rw [sgn_cons, if_pos (show bt s 0 = 124 from dT h)] at hR
      rw [← hR]
      refine ⟨⟨by omega, by omega⟩, ?_⟩
      set_option smartUnfolding false in conv => whnf
      exact rdP rfl
    rw [sgn_cons, if_neg (show ¬ bt s 0 = 124 from dF h)] at hR
    refine br_intro (fun h => ?_) (fun h => ?_) <;> set_option smartUnfolding false in conv => whnf
    · rw [sgn_cons, if_pos (show bt s 0 = 43 from dT h)] at hR
      rw [← hR]
      refine ⟨⟨by omega, by omega⟩, ?_⟩
      set_option smartUnfolding false in conv => whnf
      exact rdP rfl
    rw [sgn_cons, if_neg (show ¬ bt s 0 = 43 from dF h)] at hR
    refine br_intro (fun h => ?_) (fun h => ?_) <;> set_option smartUnfolding false in conv => whnf
    · rw [sgn_cons, if_pos (show bt s 0 = 45 from dT h)] at hR
      rw [← hR]
      refine ⟨⟨by omega, by omega⟩, ?_⟩
      set_option smartUnfolding false in conv => whnf
      exact rdP rfl
    rw [sgn_cons, if_neg (show ¬ bt s 0 = 45 from dF h)] at hR
    refine br_intro (fun h => ?_) (fun h => ?_) <;> set_option smartUnfolding false in conv => whnf
    · rw [sgn_cons, if_pos (show bt s 0 = 42 from dT h)] at hR
      rw [← hR]
      refine ⟨⟨by omega, by omega⟩, ?_⟩
      set_option smartUnfolding false in conv => whnf
      exact rdP rfl
    rw [sgn_cons, if_neg (show ¬ bt s 0 = 42 from dF h)] at hR
    refine br_intro (fun h => ?_) (fun h => ?_) <;> set_option smartUnfolding false in conv => whnf
    · rw [sgn_cons, if_pos (show bt s 0 = 47 from dT h)] at hR
      rw [← hR]
      refine ⟨⟨by omega, by omega⟩, ?_⟩
      set_option smartUnfolding false in conv => whnf
      exact rdP rfl
    rw [sgn_cons, if_neg (show ¬ bt s 0 = 47 from dF h)] at hR
    refine br_intro (fun h => ?_) (fun h => ?_) <;> set_option smartUnfolding false in conv => whnf
    · rw [sgn_cons, if_pos (show bt s 0 = 37 from dT h)] at hR
      rw [← hR]
      refine ⟨⟨by omega, by omega⟩, ?_⟩
      set_option smartUnfolding false in conv => whnf
      exact rdP rfl
    rw [sgn_cons, if_neg (show ¬ bt s 0 = 37 from dF h)] at hR
    refine br_intro (fun h => ?_) (fun h => ?_) <;> set_option smartUnfolding false in conv => whnf
    · rw [sgn_cons, if_pos (show bt s 0 = 60 from dT h)] at hR
      rw [← hR]
      refine ⟨⟨by omega, by omega⟩, ?_⟩
      set_option smartUnfolding false in conv => whnf
      exact rdP rfl
    rw [sgn_cons, if_neg (show ¬ bt s 0 = 60 from dF h)] at hR
    refine br_intro (fun h => ?_) (fun h => ?_) <;> set_option smartUnfolding false in conv => whnf
    · rw [sgn_cons, if_pos (show bt s 0 = 59 from dT h)] at hR
      rw [← hR]
      refine ⟨⟨by omega, by omega⟩, ?_⟩
      set_option smartUnfolding false in conv => whnf
      exact rdP rfl
    rw [sgn_cons, if_neg (show ¬ bt s 0 = 59 from dF h)] at hR
    refine br_intro (fun h => ?_) (fun h => ?_) <;> set_option smartUnfolding false in conv => whnf
    · rw [sgn_cons, if_pos (show bt s 0 = 95 from dT h)] at hR
      rw [← hR]
      refine ⟨⟨by omega, by omega⟩, ?_⟩
      set_option smartUnfolding false in conv => whnf
      exact rdP rfl
    rw [sgn_cons, if_neg (show ¬ bt s 0 = 95 from dF h)] at hR
    rw [sgn_nil] at hR
    exact rdP (by rw [← hR]; rfl)
  · have g' := dF g
    rw [if_neg (by unfold two; rw [decide_eq_false (by omega)]; simp)] at hR
    refine ⟨⟨by omega, by omega⟩, ?_⟩
    set_option smartUnfolding false in conv => whnf
    unfold sgL at hR
    refine br_intro (fun h => ?_) (fun h => ?_) <;> set_option smartUnfolding false in conv => whnf
    · rw [sgn_cons, if_pos (show bt s 0 = 40 from dT h)] at hR
      rw [← hR]
      refine ⟨⟨by omega, by omega⟩, ?_⟩
      set_option smartUnfolding false in conv => whnf
      exact rdP rfl
    rw [sgn_cons, if_neg (show ¬ bt s 0 = 40 from dF h)] at hR
    refine br_intro (fun h => ?_) (fun h => ?_) <;> set_option smartUnfolding false in conv => whnf
    · rw [sgn_cons, if_pos (show bt s 0 = 41 from dT h)] at hR
      rw [← hR]
      refine ⟨⟨by omega, by omega⟩, ?_⟩
      set_option smartUnfolding false in conv => whnf
      exact rdP rfl
    rw [sgn_cons, if_neg (show ¬ bt s 0 = 41 from dF h)] at hR
    refine br_intro (fun h => ?_) (fun h => ?_) <;> set_option smartUnfolding false in conv => whnf
    · rw [sgn_cons, if_pos (show bt s 0 = 44 from dT h)] at hR
      rw [← hR]
      refine ⟨⟨by omega, by omega⟩, ?_⟩
      set_option smartUnfolding false in conv => whnf
      exact rdP rfl
    rw [sgn_cons, if_neg (show ¬ bt s 0 = 44 from dF h)] at hR
    refine br_intro (fun h => ?_) (fun h => ?_) <;> set_option smartUnfolding false in conv => whnf
    · rw [sgn_cons, if_pos (show bt s 0 = 61 from dT h)] at hR
      rw [← hR]
      refine ⟨⟨by omega, by omega⟩, ?_⟩
      set_option smartUnfolding false in conv => whnf
      exact rdP rfl
    rw [sgn_cons, if_neg (show ¬ bt s 0 = 61 from dF h)] at hR
    refine br_intro (fun h => ?_) (fun h => ?_) <;> set_option smartUnfolding false in conv => whnf
    · rw [sgn_cons, if_pos (show bt s 0 = 124 from dT h)] at hR
      rw [← hR]
      refine ⟨⟨by omega, by omega⟩, ?_⟩
      set_option smartUnfolding false in conv => whnf
      exact rdP rfl
    rw [sgn_cons, if_neg (show ¬ bt s 0 = 124 from dF h)] at hR
    refine br_intro (fun h => ?_) (fun h => ?_) <;> set_option smartUnfolding false in conv => whnf
    · rw [sgn_cons, if_pos (show bt s 0 = 43 from dT h)] at hR
      rw [← hR]
      refine ⟨⟨by omega, by omega⟩, ?_⟩
      set_option smartUnfolding false in conv => whnf
      exact rdP rfl
    rw [sgn_cons, if_neg (show ¬ bt s 0 = 43 from dF h)] at hR
    refine br_intro (fun h => ?_) (fun h => ?_) <;> set_option smartUnfolding false in conv => whnf
    · rw [sgn_cons, if_pos (show bt s 0 = 45 from dT h)] at hR
      rw [← hR]
      refine ⟨⟨by omega, by omega⟩, ?_⟩
      set_option smartUnfolding false in conv => whnf
      exact rdP rfl
    rw [sgn_cons, if_neg (show ¬ bt s 0 = 45 from dF h)] at hR
    refine br_intro (fun h => ?_) (fun h => ?_) <;> set_option smartUnfolding false in conv => whnf
    · rw [sgn_cons, if_pos (show bt s 0 = 42 from dT h)] at hR
      rw [← hR]
      refine ⟨⟨by omega, by omega⟩, ?_⟩
      set_option smartUnfolding false in conv => whnf
      exact rdP rfl
    rw [sgn_cons, if_neg (show ¬ bt s 0 = 42 from dF h)] at hR
    refine br_intro (fun h => ?_) (fun h => ?_) <;> set_option smartUnfolding false in conv => whnf
    · rw [sgn_cons, if_pos (show bt s 0 = 47 from dT h)] at hR
      rw [← hR]
      refine ⟨⟨by omega, by omega⟩, ?_⟩
      set_option smartUnfolding false in conv => whnf
      exact rdP rfl
    rw [sgn_cons, if_neg (show ¬ bt s 0 = 47 from dF h)] at hR
    refine br_intro (fun h => ?_) (fun h => ?_) <;> set_option smartUnfolding false in conv => whnf
    · rw [sgn_cons, if_pos (show bt s 0 = 37 from dT h)] at hR
      rw [← hR]
      refine ⟨⟨by omega, by omega⟩, ?_⟩
      set_option smartUnfolding false in conv => whnf
      exact rdP rfl
    rw [sgn_cons, if_neg (show ¬ bt s 0 = 37 from dF h)] at hR
    refine br_intro (fun h => ?_) (fun h => ?_) <;> set_option smartUnfolding false in conv => whnf
    · rw [sgn_cons, if_pos (show bt s 0 = 60 from dT h)] at hR
      rw [← hR]
      refine ⟨⟨by omega, by omega⟩, ?_⟩
      set_option smartUnfolding false in conv => whnf
      exact rdP rfl
    rw [sgn_cons, if_neg (show ¬ bt s 0 = 60 from dF h)] at hR
    refine br_intro (fun h => ?_) (fun h => ?_) <;> set_option smartUnfolding false in conv => whnf
    · rw [sgn_cons, if_pos (show bt s 0 = 59 from dT h)] at hR
      rw [← hR]
      refine ⟨⟨by omega, by omega⟩, ?_⟩
      set_option smartUnfolding false in conv => whnf
      exact rdP rfl
    rw [sgn_cons, if_neg (show ¬ bt s 0 = 59 from dF h)] at hR
    refine br_intro (fun h => ?_) (fun h => ?_) <;> set_option smartUnfolding false in conv => whnf
    · rw [sgn_cons, if_pos (show bt s 0 = 95 from dT h)] at hR
      rw [← hR]
      refine ⟨⟨by omega, by omega⟩, ?_⟩
      set_option smartUnfolding false in conv => whnf
      exact rdP rfl
    rw [sgn_cons, if_neg (show ¬ bt s 0 = 95 from dF h)] at hR
    rw [sgn_nil] at hR
    exact rdP (by rw [← hR]; rfl)

/-- The bytes of the reference's signs. -/
def sgB : ByteArray := ⟨#[40, 41, 44, 61, 124, 43, 45, 42, 47, 37, 60, 59, 95]⟩
def sgI : Nat → List Int
  | 0 => []
  | m + 1 => bt sgB (12 - m) :: sgI m
def sgR : List Int := sgI 13
theorem sgI_succ (m : Nat) : sgI (m + 1) = bt sgB (12 - m) :: sgI m := rfl
theorem sgB_size : sgB.size = 13 := rfl
attribute [irreducible] sgI sgB
def signR (s : ByteArray) : Int := if two s = true then 2 else if sgn (bt s 0) sgR = true then 1 else 0
theorem sign_r (s : ByteArray) (h0 : 0 < s.size) (hz : s.size ≤ 100000) : Det Tryz.prog 129 [.str s] (.int .i64 (signR s)) := by
  generalize hR : signR s = R
  unfold signR at hR
  refine det_of_vc' (E := S.E 0) rfl fol Tryz.func129 rfl rfl (slots := [2]) rfl rfl fun hw => ?_
  set_option smartUnfolding false in conv => whnf
  refine br_intro (fun g => ?_) (fun g => ?_) <;> set_option smartUnfolding false in conv => whnf
  · have g' := dT g
    refine ⟨⟨by omega, by omega⟩, ?_⟩
    set_option smartUnfolding false in conv => whnf
    refine br_intro (fun h1 => ?_) (fun h1 => ?_) <;> set_option smartUnfolding false in conv => whnf
    · rw [if_pos (by unfold two; rw [decide_eq_true (p := 1 < s.size) (by omega)]; simp only [Bool.true_and]; rw [show ((s.extract 0 2).toList == _) = true from h1]; rfl)] at hR
      exact rdI hR
    refine ⟨⟨by omega, by omega⟩, ?_⟩
    set_option smartUnfolding false in conv => whnf
    refine br_intro (fun h2 => ?_) (fun h2 => ?_) <;> set_option smartUnfolding false in conv => whnf
    · rw [if_pos (by unfold two; rw [decide_eq_true (p := 1 < s.size) (by omega)]; simp only [Bool.true_and]; rw [show ((s.extract 0 2).toList == _) = false from h1, show ((s.extract 0 2).toList == _) = true from h2]; rfl)] at hR
      exact rdI hR
    refine ⟨⟨by omega, by omega⟩, ?_⟩
    set_option smartUnfolding false in conv => whnf
    refine br_intro (fun h3 => ?_) (fun h3 => ?_) <;> set_option smartUnfolding false in conv => whnf
    · rw [if_pos (by unfold two; rw [decide_eq_true (p := 1 < s.size) (by omega)]; simp only [Bool.true_and]; rw [show ((s.extract 0 2).toList == _) = false from h1, show ((s.extract 0 2).toList == _) = false from h2, show ((s.extract 0 2).toList == _) = true from h3]; rfl)] at hR
      exact rdI hR
    rw [if_neg (by unfold two; rw [show ((s.extract 0 2).toList == _) = false from h1, show ((s.extract 0 2).toList == _) = false from h2, show ((s.extract 0 2).toList == _) = false from h3]; simp)] at hR
    unfold sgR at hR
    refine vloop_intro (σ := Nat) (fun i => i ≤ 13 ∧ (if sgn (bt s 0) (sgI (13 - i)) = true then (1 : Int) else 0) = R) (fun i => [(0, .pv (.str s)), (3, .pv (.str sgB)), (4, .pv (.int .i64 i))]) (fun _ => []) (fun i => 13 - i) 0 ⟨by simp, by simpa using hR⟩ (weak_bare rfl ⟨(by kernel_rfl), (by kernel_rfl), (by kernel_rfl), trivial⟩) ?_
    rintro i ⟨hi, hs⟩
    set_option smartUnfolding false in conv => whnf
    refine br_intro (fun h => ?_) (fun h => ?_) <;> set_option smartUnfolding false in conv => whnf
    · replace h : i < 13 := by have := dT h; rw [sgB_size] at this; omega
      rw [show 13 - i = (12 - i) + 1 by omega, sgI_succ, show 12 - (12 - i) = i by omega, sgn_cons] at hs
      refine ⟨⟨by omega, by omega⟩, ?_⟩
      set_option smartUnfolding false in conv => whnf
      refine ⟨⟨by omega, by rw [sgB_size]; omega⟩, ?_⟩
      set_option smartUnfolding false in conv => whnf
      refine br_intro (fun g => ?_) (fun g => ?_) <;> set_option smartUnfolding false in conv => whnf
      · have g' : bt s 0 = bt sgB i := dT g
        rw [if_pos g', if_pos rfl] at hs
        exact rdI hs
      · have g' : ¬ bt s 0 = bt sgB i := dF g
        rw [if_neg g'] at hs
        exact ⟨i + 1, ⟨h, by rw [show 13 - (i + 1) = 12 - i by omega]; exact hs⟩, weak_bare rfl ⟨(by kernel_rfl), (by kernel_rfl), sUp h (by omega), trivial⟩, subUp h⟩
    · replace h : ¬ i < 13 := by have := dF h; rw [sgB_size] at this; omega
      rw [show 13 - i = 0 by omega, show sgI 0 = [] by unfold sgI; rfl, sgn_nil] at hs
      exact rdI hs
  · have g' := dF g
    rw [if_neg (by unfold two; rw [decide_eq_false (by omega)]; simp)] at hR
    unfold sgR at hR
    refine vloop_intro (σ := Nat) (fun i => i ≤ 13 ∧ (if sgn (bt s 0) (sgI (13 - i)) = true then (1 : Int) else 0) = R) (fun i => [(0, .pv (.str s)), (3, .pv (.str sgB)), (4, .pv (.int .i64 i))]) (fun _ => []) (fun i => 13 - i) 0 ⟨by simp, by simpa using hR⟩ (weak_bare rfl ⟨(by kernel_rfl), (by kernel_rfl), (by kernel_rfl), trivial⟩) ?_
    rintro i ⟨hi, hs⟩
    set_option smartUnfolding false in conv => whnf
    refine br_intro (fun h => ?_) (fun h => ?_) <;> set_option smartUnfolding false in conv => whnf
    · replace h : i < 13 := by have := dT h; rw [sgB_size] at this; omega
      rw [show 13 - i = (12 - i) + 1 by omega, sgI_succ, show 12 - (12 - i) = i by omega, sgn_cons] at hs
      refine ⟨⟨by omega, by omega⟩, ?_⟩
      set_option smartUnfolding false in conv => whnf
      refine ⟨⟨by omega, by rw [sgB_size]; omega⟩, ?_⟩
      set_option smartUnfolding false in conv => whnf
      refine br_intro (fun g => ?_) (fun g => ?_) <;> set_option smartUnfolding false in conv => whnf
      · have g' : bt s 0 = bt sgB i := dT g
        rw [if_pos g', if_pos rfl] at hs
        exact rdI hs
      · have g' : ¬ bt s 0 = bt sgB i := dF g
        rw [if_neg g'] at hs
        exact ⟨i + 1, ⟨h, by rw [show 13 - (i + 1) = 12 - i by omega]; exact hs⟩, weak_bare rfl ⟨(by kernel_rfl), (by kernel_rfl), sUp h (by omega), trivial⟩, subUp h⟩
    · replace h : ¬ i < 13 := by have := dF h; rw [sgB_size] at this; omega
      rw [show 13 - i = 0 by omega, show sgI 0 = [] by unfold sgI; rfl, sgn_nil] at hs
      exact rdI hs
end Go.AM

set_option linter.all false
set_option maxRecDepth 20000
set_option maxHeartbeats 20000000
namespace Go.AM
open Go.Proofs

/-- From j on, m bytes at most: where what is looked for ends. -/
def endOf (q : Int → Bool) (s : ByteArray) : Nat → Nat → Nat
  | 0, j => j
  | m + 1, j => if q (bt s j) = true then endOf q s m (j + 1) else j
theorem endOf_zero (q : Int → Bool) (s : ByteArray) (j : Nat) : endOf q s 0 j = j := rfl
theorem endOf_succ (q : Int → Bool) (s : ByteArray) (m j : Nat) : endOf q s (m + 1) j = if q (bt s j) = true then endOf q s m (j + 1) else j := rfl
theorem endOf_le (q : Int → Bool) (s : ByteArray) : ∀ m j, j ≤ endOf q s m j ∧ endOf q s m j ≤ j + m
  | 0, j => by simp [endOf_zero]
  | m + 1, j => by
    rw [endOf_succ]
    split
    · have := endOf_le q s m (j + 1); omega
    · omega
theorem endOf_all (q : Int → Bool) (s : ByteArray) : ∀ m j k, j ≤ k → k < endOf q s m j → q (bt s k) = true
  | 0, j, k, h1, h2 => by rw [endOf_zero] at h2; omega
  | m + 1, j, k, h1, h2 => by
    rw [endOf_succ] at h2
    split at h2
    · rename_i h
      by_cases e : j = k
      · subst e; exact h
      · exact endOf_all q s m (j + 1) k (by omega) h2
    · omega
theorem endOf_full (q : Int → Bool) (s : ByteArray) : ∀ m j, (∀ k, j ≤ k → k < j + m → q (bt s k) = true) → endOf q s m j = j + m
  | 0, j, _ => by rw [endOf_zero]; rfl
  | m + 1, j, h => by
    rw [endOf_succ, if_pos (h j (by omega) (by omega)), endOf_full q s m (j + 1) fun k h1 h2 => h k (by omega) (by omega)]; omega
attribute [irreducible] endOf
def bLine (b : Int) : Bool := !decide (b = 10)

abbrev tokP (k : Int) (t : ByteArray) (p : Int) : PV := .agg [.int .i64 k, .str t, .int .i64 p]
def finP (s : ByteArray) (ps : List PV) : PV := .tuple [.lst 3 (ps ++ [tokP 6 ⟨#[]⟩ s.size]), .int .i64 0, .int .i64 0]
def errP (i e : Int) : PV := .tuple [.lst 3 [], .int .i64 i, .int .i64 e]
/-- The reference's tokens, from i on. -/
def splitR (s : ByteArray) : Nat → Nat → List PV → PV
  | 0, _, ps => finP s ps
  | f + 1, i, ps =>
    if s.size ≤ i then finP s ps
    else if bt s i = 9 ∨ bt s i = 10 ∨ bt s i = 13 ∨ bt s i = 32 then splitR s f (i + 1) ps
    else if bt s i = 35 then splitR s f (endOf bLine s (s.size - i) i) ps
    else if (bSm (bt s i) || bGr (bt s i)) = true then
      (if i + 24 < endOf bPt s (s.size - (i + 1)) (i + 1) then errP i 9
       else splitR s f (endOf bPt s (s.size - (i + 1)) (i + 1)) (ps ++ [tokP (if bGr (bt s i) = true then 2 else if inL (s.extract i (endOf bPt s (s.size - (i + 1)) (i + 1))) words = true then 4 else 1) (s.extract i (endOf bPt s (s.size - (i + 1)) (i + 1))) i]))
    else if bDg (bt s i) = true then
      (if i + 1 < endOf bDg s (s.size - (i + 1)) (i + 1) ∧ bt s i = 48 then errP i 2
       else if (valGo (s.extract i (endOf bDg s (s.size - (i + 1)) (i + 1))) (s.extract i (endOf bDg s (s.size - (i + 1)) (i + 1))).size 0 0).2 = false then errP i 9
       else splitR s f (endOf bDg s (s.size - (i + 1)) (i + 1)) (ps ++ [tokP 3 (s.extract i (endOf bDg s (s.size - (i + 1)) (i + 1))) i]))
    else if signR (s.extract i s.size) = 0 then errP i 2
    else splitR s f (i + (signR (s.extract i s.size)).toNat) (ps ++ [tokP 5 (s.extract i (i + (signR (s.extract i s.size)).toNat)) i])
theorem splitR_succ (s : ByteArray) (f i : Nat) (ps : List PV) : splitR s (f + 1) i ps =
    if s.size ≤ i then finP s ps
    else if bt s i = 9 ∨ bt s i = 10 ∨ bt s i = 13 ∨ bt s i = 32 then splitR s f (i + 1) ps
    else if bt s i = 35 then splitR s f (endOf bLine s (s.size - i) i) ps
    else if (bSm (bt s i) || bGr (bt s i)) = true then
      (if i + 24 < endOf bPt s (s.size - (i + 1)) (i + 1) then errP i 9
       else splitR s f (endOf bPt s (s.size - (i + 1)) (i + 1)) (ps ++ [tokP (if bGr (bt s i) = true then 2 else if inL (s.extract i (endOf bPt s (s.size - (i + 1)) (i + 1))) words = true then 4 else 1) (s.extract i (endOf bPt s (s.size - (i + 1)) (i + 1))) i]))
    else if bDg (bt s i) = true then
      (if i + 1 < endOf bDg s (s.size - (i + 1)) (i + 1) ∧ bt s i = 48 then errP i 2
       else if (valGo (s.extract i (endOf bDg s (s.size - (i + 1)) (i + 1))) (s.extract i (endOf bDg s (s.size - (i + 1)) (i + 1))).size 0 0).2 = false then errP i 9
       else splitR s f (endOf bDg s (s.size - (i + 1)) (i + 1)) (ps ++ [tokP 3 (s.extract i (endOf bDg s (s.size - (i + 1)) (i + 1))) i]))
    else if signR (s.extract i s.size) = 0 then errP i 2
    else splitR s f (i + (signR (s.extract i s.size)).toNat) (ps ++ [tokP 5 (s.extract i (i + (signR (s.extract i s.size)).toNat)) i]) := rfl
theorem splitR_end (s : ByteArray) (f i : Nat) (ps : List PV) (h : s.size ≤ i) : splitR s f i ps = finP s ps := by
  cases f with
  | zero => rfl
  | succ f => rw [splitR_succ, if_pos h]
theorem signR_le (s : ByteArray) (h : 0 < s.size) : 0 ≤ signR s ∧ (signR s).toNat ≤ s.size := by
  unfold signR
  split
  · rename_i h2
    unfold two at h2
    simp only [Bool.and_eq_true, decide_eq_true_eq] at h2
    constructor <;> simp; omega
  · split <;> constructor <;> simp; omega
attribute [irreducible] splitR
theorem rd_err {H : Heap} (i e : Int) : Rd (fun _ => True) H (.pv (.tuple [.nils, .int .i64 i, .int .i64 e])) (errP i e) := .le (.tuple (.cons (.nils 3) (.cons (.refl _) (.cons (.refl _) .nil))))


theorem split_r (s : ByteArray) (hz : s.size ≤ 10000) : Det Tryz.prog 90 [.str s] (splitR s s.size 0 []) := by
  generalize hR : splitR s s.size 0 [] = R
  refine det_of_vc' (E := S.E 0) rfl fol Tryz.func90 rfl rfl (slots := [2, 3, 4]) rfl rfl fun hw => ?_
  set_option smartUnfolding false in conv => whnf
  apply br_intro <;> intro h0
  · have := dT h0; omega
  set_option smartUnfolding false in conv => whnf
  refine vloop_intro (σ := Nat × Nat × List PV) (fun x => x.2.1 ≤ s.size ∧ s.size - x.2.1 ≤ x.1 ∧ splitR s x.1 x.2.1 x.2.2 = R ∧ x.2.2.length ≤ x.2.1) (fun x => [(0, .pv (.str s)), (5, lsV 0 x.2.2), (6, .pv (.int .i64 x.2.1))])
    (fun x => [lsB 127 3 x.2.2]) (fun x => s.size - x.2.1) (s.size, 0, []) ⟨by simp, by simp, hR, by simp⟩ (weak_ren [0] 1 (by kernel_rfl) (blkD trivial) ⟨(by kernel_rfl), (by kernel_rfl), (by kernel_rfl), trivial⟩) ?_
  rintro ⟨f, i, ps⟩ ⟨hi, hf, hs, hpl⟩
  simp only at hi hf hs hpl
  set_option smartUnfolding false in conv => whnf
  refine br_intro (fun h => ?_) (fun h => ?_) <;> set_option smartUnfolding false in conv => whnf
  rotate_left
  · replace h : s.size ≤ i := by have := dF h; simp only at this; omega
    rw [splitR_end s f i ps h] at hs
    refine ⟨Nat.le_refl 1, ?_⟩
    set_option smartUnfolding false in conv => whnf
    rw [← hs]
    cases ps with
    | nil =>
      set_option smartUnfolding false in conv => whnf
      refine ⟨⟨⟨by decide, by decide⟩, by decide⟩, ?_⟩
      set_option smartUnfolding false in conv => whnf
      exact .tup (.cons (rd_lsE (k := 2) (l := [] ++ [tokP 6 ⟨#[]⟩ s.size]) (t := 127) rfl rfl trivial rfl) (.cons (.pv _) (.cons (.pv _) .nil)))
    | cons p ps =>
      set_option smartUnfolding false in conv => whnf
      simp only [List.length_cons] at hpl
      refine ⟨⟨⟨by simp [pvs_len], by simp only [Nat.succ_eq_add_one]; omega⟩, by rw [show ((S.E 0).te 127).bytes = 32 from rfl]; simp only [Nat.succ_eq_add_one]; omega⟩, ?_⟩
      set_option smartUnfolding false in conv => whnf
      exact .tup (.cons (rd_lsE (k := 2) (l := (p :: ps) ++ [tokP 6 ⟨#[]⟩ s.size]) (t := 127) rfl (by simp only [lsV_snoc]; rfl) trivial (by rw [lsB_snoc]; rfl)) (.cons (.pv _) (.cons (.pv _) .nil)))
  replace h : i < s.size := by have := dT h; simp only at this; omega
  obtain ⟨f, rfl⟩ : ∃ f', f = f' + 1 := ⟨f - 1, by omega⟩
  rw [splitR_succ, if_neg (by omega)] at hs
  refine ⟨⟨(by first | omega | (simp only; omega)), (by first | omega | (simp only; omega))⟩, ?_⟩
  set_option smartUnfolding false in conv => whnf
  have ew1 : IntKind.wrap .i64 ((i : Int) + 1) = i + 1 := wrapI (by omega) (by omega)
  refine br_intro (fun g1 => ?_) (fun g1 => ?_) <;> set_option smartUnfolding false in conv => whnf
  · rw [if_pos (.inl (show bt s i = 9 from dT g1))] at hs
    exact ⟨(f, i + 1, ps), ⟨(by first | omega | (simp only; omega)), (by first | omega | (simp only; omega)), hs, (by first | omega | (simp only; omega))⟩, weak_ren [0] 1 (by kernel_rfl) (blkR_ls (by kernel_rfl) trivial) ⟨(by kernel_rfl), sLs (by kernel_rfl), sI ew1, trivial⟩, by show s.size - (i + 1) < s.size - i; omega⟩
  have g1 : ¬ bt s i = 9 := dF g1
  refine br_intro (fun g2 => ?_) (fun g2 => ?_) <;> set_option smartUnfolding false in conv => whnf
  · rw [if_pos (.inr (.inl (show bt s i = 10 from dT g2)))] at hs
    exact ⟨(f, i + 1, ps), ⟨(by first | omega | (simp only; omega)), (by first | omega | (simp only; omega)), hs, (by first | omega | (simp only; omega))⟩, weak_ren [0] 1 (by kernel_rfl) (blkR_ls (by kernel_rfl) trivial) ⟨(by kernel_rfl), sLs (by kernel_rfl), sI ew1, trivial⟩, by show s.size - (i + 1) < s.size - i; omega⟩
  have g2 : ¬ bt s i = 10 := dF g2
  refine br_intro (fun g3 => ?_) (fun g3 => ?_) <;> set_option smartUnfolding false in conv => whnf
  · rw [if_pos (.inr (.inr (.inl (show bt s i = 13 from dT g3))))] at hs
    exact ⟨(f, i + 1, ps), ⟨(by first | omega | (simp only; omega)), (by first | omega | (simp only; omega)), hs, (by first | omega | (simp only; omega))⟩, weak_ren [0] 1 (by kernel_rfl) (blkR_ls (by kernel_rfl) trivial) ⟨(by kernel_rfl), sLs (by kernel_rfl), sI ew1, trivial⟩, by show s.size - (i + 1) < s.size - i; omega⟩
  have g3 : ¬ bt s i = 13 := dF g3
  refine br_intro (fun g4 => ?_) (fun g4 => ?_) <;> set_option smartUnfolding false in conv => whnf
  · rw [if_pos (.inr (.inr (.inr (show bt s i = 32 from dT g4))))] at hs
    exact ⟨(f, i + 1, ps), ⟨(by first | omega | (simp only; omega)), (by first | omega | (simp only; omega)), hs, (by first | omega | (simp only; omega))⟩, weak_ren [0] 1 (by kernel_rfl) (blkR_ls (by kernel_rfl) trivial) ⟨(by kernel_rfl), sLs (by kernel_rfl), sI ew1, trivial⟩, by show s.size - (i + 1) < s.size - i; omega⟩
  have g4 : ¬ bt s i = 32 := dF g4
  rw [if_neg (by rintro (h | h | h | h) <;> contradiction)] at hs
  refine br_intro (fun g5 => ?_) (fun g5 => ?_) <;> set_option smartUnfolding false in conv => whnf
  · -- a comment
    have g5 : bt s i = 35 := dT g5
    rw [if_pos g5] at hs
    have hE := endOf_le bLine s (s.size - i) i
    have hE1 : i + 1 ≤ endOf bLine s (s.size - i) i := by
      rw [show s.size - i = (s.size - (i + 1)) + 1 by omega, endOf_succ, if_pos (by rw [g5]; rfl)]
      exact (endOf_le bLine s _ _).1
    generalize hEd : endOf bLine s (s.size - i) i = E at hs hE hE1
    refine vloop_intro (σ := Nat) (fun j => i ≤ j ∧ j ≤ s.size ∧ endOf bLine s (s.size - j) j = E) (fun j => [(0, .pv (.str s)), (5, lsV 0 ps), (6, .pv (.int .i64 j))])
      (fun _ => [lsB 127 3 ps]) (fun j => s.size - j) i ⟨by omega, by omega, hEd⟩ (weak_ren [0] 1 (by kernel_rfl) (blkR_ls (by kernel_rfl) trivial) ⟨(by kernel_rfl), sLs (by kernel_rfl), (by kernel_rfl), trivial⟩) ?_
    rintro j ⟨hj1, hj2, hj⟩
    set_option smartUnfolding false in conv => whnf
    refine br_intro (fun h => ?_) (fun h => ?_) <;> set_option smartUnfolding false in conv => whnf
    · have h := dT h
      rw [show s.size - j = (s.size - (j + 1)) + 1 by omega, endOf_succ] at hj
      refine ⟨⟨by omega, by omega⟩, ?_⟩
      set_option smartUnfolding false in conv => whnf
      refine br_intro (fun k => ?_) (fun k => ?_) <;> set_option smartUnfolding false in conv => whnf
      · rw [if_pos (show bLine (bt s j) = true from k)] at hj
        exact ⟨j + 1, ⟨by omega, by omega, hj⟩, weak_ren [0] 1 (by kernel_rfl) (blkR_ls (by kernel_rfl) trivial) ⟨(by kernel_rfl), sLs (by kernel_rfl), sUp (n := s.size) (by omega) (by omega), trivial⟩, by show s.size - (j + 1) < s.size - j; omega⟩
      · rw [if_neg (by rw [show bLine (bt s j) = false from k]; simp)] at hj
        subst hj
        exact ⟨(f, j, ps), ⟨(by first | omega | (simp only; omega)), (by first | omega | (simp only; omega)), hs, (by first | omega | (simp only; omega))⟩, weak_ren [0] 1 (by kernel_rfl) (blkR_ls (by kernel_rfl) trivial) ⟨(by kernel_rfl), sLs (by kernel_rfl), (by kernel_rfl), trivial⟩, by show s.size - j < s.size - i; omega⟩
    · have h := dF h
      rw [show s.size - j = 0 by omega, endOf_zero] at hj
      subst hj
      exact ⟨(f, j, ps), ⟨(by first | omega | (simp only; omega)), (by first | omega | (simp only; omega)), hs, (by first | omega | (simp only; omega))⟩, weak_ren [0] 1 (by kernel_rfl) (blkR_ls (by kernel_rfl) trivial) ⟨(by kernel_rfl), sLs (by kernel_rfl), (by kernel_rfl), trivial⟩, by show s.size - j < s.size - i; omega⟩
  have g5 : ¬ bt s i = 35 := dF g5
  rw [if_neg g5] at hs
  refine acall_det (ps := [.int .u8 (bt s i)]) (sm_r _) ?_
  set_option smartUnfolding false in conv => whnf
  refine br_intro (fun a1 => ?_) (fun a1 => ?_) <;> set_option smartUnfolding false in conv => whnf
  · have hnm : (bSm (bt s i) || bGr (bt s i)) = true := by rw [show bSm (bt s i) = true from a1]; rfl
    rw [if_pos hnm] at hs
    have hE := endOf_le bPt s (s.size - (i + 1)) (i + 1)
    generalize hEd : endOf bPt s (s.size - (i + 1)) (i + 1) = E at hs hE
    refine vloop_intro (σ := Nat) (fun n => 1 ≤ n ∧ i + n ≤ s.size ∧ endOf bPt s (s.size - (i + n)) (i + n) = E) (fun n => [(0, .pv (.str s)), (5, lsV 0 ps), (6, .pv (.int .i64 i)), (7, .pv (.int .u8 (bt s i))), (8, .pv (.int .i64 n))])
      (fun _ => [lsB 127 3 ps]) (fun n => s.size - (i + n)) 1 ⟨by omega, by omega, hEd⟩ (weak_ren [0] 1 (by kernel_rfl) (blkR_ls (by kernel_rfl) trivial) ⟨(by kernel_rfl), sLs (by kernel_rfl), (by kernel_rfl), (by kernel_rfl), (by kernel_rfl), trivial⟩) ?_
    rintro n ⟨hn1, hn2, hj⟩
    have ew : IntKind.wrap .i64 ((i : Int) + n) = ((i + n : Nat) : Int) := by rw [wrapI (by omega) (by omega)]; rfl
    have ex : s.extract (Int.toNat i) (Int.toNat (IntKind.wrap .i64 ((i : Int) + n))) = s.extract i (i + n) := by rw [ew]; rfl
    set_option smartUnfolding false in conv => whnf
    refine br_intro (fun h => ?_) (fun h => ?_) <;> set_option smartUnfolding false in conv => whnf
    · have h := dT h
      rw [ew] at h
      rw [show s.size - (i + n) = (s.size - (i + (n + 1))) + 1 by omega, endOf_succ, bPt_of] at hj
      refine ⟨⟨by rw [ew]; omega, by rw [ew]; omega⟩, ?_⟩
      set_option smartUnfolding false in conv => whnf
      refine acall_det (ps := [.int .u8 (byteAt s (IntKind.wrap .i64 ((i : Int) + n)))]) (sm_r _) ?_
      set_option smartUnfolding false in conv => whnf
      refine br_intro (fun c1 => ?_) (fun c1 => ?_) <;> set_option smartUnfolding false in conv => whnf
      · rw [ew] at c1
        rw [show bSm (bt s (i + n)) = true from c1, if_pos (by simp)] at hj
        exact ⟨n + 1, ⟨by omega, by omega, hj⟩, weak_ren [0] 1 (by kernel_rfl) (blkR_ls (by kernel_rfl) trivial) ⟨(by kernel_rfl), sLs (by kernel_rfl), (by kernel_rfl), (by kernel_rfl), sI (wrapI (by omega) (by omega)), trivial⟩, by show s.size - (i + (n + 1)) < s.size - (i + n); omega⟩
      refine ⟨⟨by rw [ew]; omega, by rw [ew]; omega⟩, ?_⟩
      set_option smartUnfolding false in conv => whnf
      refine acall_det (ps := [.int .u8 (byteAt s (IntKind.wrap .i64 ((i : Int) + n)))]) (gr_r _) ?_
      set_option smartUnfolding false in conv => whnf
      refine br_intro (fun c2 => ?_) (fun c2 => ?_) <;> set_option smartUnfolding false in conv => whnf
      · rw [ew] at c1 c2
        rw [show bSm (bt s (i + n)) = false from c1, show bGr (bt s (i + n)) = true from c2, if_pos (by simp)] at hj
        exact ⟨n + 1, ⟨by omega, by omega, hj⟩, weak_ren [0] 1 (by kernel_rfl) (blkR_ls (by kernel_rfl) trivial) ⟨(by kernel_rfl), sLs (by kernel_rfl), (by kernel_rfl), (by kernel_rfl), sI (wrapI (by omega) (by omega)), trivial⟩, by show s.size - (i + (n + 1)) < s.size - (i + n); omega⟩
      refine ⟨⟨by rw [ew]; omega, by rw [ew]; omega⟩, ?_⟩
      set_option smartUnfolding false in conv => whnf
      refine acall_det (ps := [.int .u8 (byteAt s (IntKind.wrap .i64 ((i : Int) + n)))]) (dg_r _) ?_
      set_option smartUnfolding false in conv => whnf
      refine br_intro (fun c3 => ?_) (fun c3 => ?_) <;> set_option smartUnfolding false in conv => whnf
      · rw [ew] at c1 c2 c3
        rw [show bSm (bt s (i + n)) = false from c1, show bGr (bt s (i + n)) = false from c2, show bDg (bt s (i + n)) = true from c3, if_pos (by simp)] at hj
        exact ⟨n + 1, ⟨by omega, by omega, hj⟩, weak_ren [0] 1 (by kernel_rfl) (blkR_ls (by kernel_rfl) trivial) ⟨(by kernel_rfl), sLs (by kernel_rfl), (by kernel_rfl), (by kernel_rfl), sI (wrapI (by omega) (by omega)), trivial⟩, by show s.size - (i + (n + 1)) < s.size - (i + n); omega⟩
      refine ⟨⟨by rw [ew]; omega, by rw [ew]; omega⟩, ?_⟩
      set_option smartUnfolding false in conv => whnf
      refine br_intro (fun c4 => ?_) (fun c4 => ?_) <;> set_option smartUnfolding false in conv => whnf
      · rw [ew] at c1 c2 c3 c4
        rw [show bSm (bt s (i + n)) = false from c1, show bGr (bt s (i + n)) = false from c2, show bDg (bt s (i + n)) = false from c3, show decide (bt s (i + n) = 95) = true from c4, if_pos (by simp)] at hj
        exact ⟨n + 1, ⟨by omega, by omega, hj⟩, weak_ren [0] 1 (by kernel_rfl) (blkR_ls (by kernel_rfl) trivial) ⟨(by kernel_rfl), sLs (by kernel_rfl), (by kernel_rfl), (by kernel_rfl), sI (wrapI (by omega) (by omega)), trivial⟩, by show s.size - (i + (n + 1)) < s.size - (i + n); omega⟩
      · rw [ew] at c1 c2 c3 c4
        rw [show bSm (bt s (i + n)) = false from c1, show bGr (bt s (i + n)) = false from c2, show bDg (bt s (i + n)) = false from c3, show decide (bt s (i + n) = 95) = false from c4, if_neg (by simp)] at hj
        subst hj
        refine br_intro (fun k => ?_) (fun k => ?_) <;> set_option smartUnfolding false in conv => whnf
        · have k := dT k
          rw [if_pos (by omega)] at hs
          rw [← hs]
          exact rd_err _ _
        have k := dF k
        rw [if_neg (by omega), ← ex] at hs
        refine acall_det (ps := [.int .u8 (bt s i)]) (gr_r _) ?_
        set_option smartUnfolding false in conv => whnf
        refine br_intro (fun k2 => ?_) (fun k2 => ?_) <;> set_option smartUnfolding false in conv => whnf
        · rw [if_pos k2] at hs
          refine ⟨⟨(by first | omega | (simp only; omega)), by rw [ew]; omega, by rw [ew]; omega⟩, ?_⟩
          set_option smartUnfolding false in conv => whnf
          refine ⟨Nat.le_refl 1, ?_⟩
          set_option smartUnfolding false in conv => whnf
          cases ps with
          | nil =>
            set_option smartUnfolding false in conv => whnf
            refine ⟨⟨⟨by decide, by decide⟩, by decide⟩, ?_⟩
            set_option smartUnfolding false in conv => whnf
            exact ⟨(f, i + n, [] ++ [tokP 2 (s.extract (Int.toNat i) (Int.toNat (IntKind.wrap .i64 (i + n)))) i]), ⟨(by first | omega | (simp only; omega)), (by first | omega | (simp only; omega)), hs, by simp; omega⟩, weak_ren [2] 3 (by kernel_rfl) (blk (by kernel_rfl) trivial) ⟨(by kernel_rfl), (by kernel_rfl), sI ew, trivial⟩, by show s.size - (i + n) < s.size - i; omega⟩
          | cons p ps =>
            set_option smartUnfolding false in conv => whnf
            simp only [List.length_cons] at hpl
            refine ⟨⟨⟨by simp [pvs_len], by simp only [Nat.succ_eq_add_one]; omega⟩, by rw [show ((S.E 0).te 127).bytes = 32 from rfl]; simp only [Nat.succ_eq_add_one]; omega⟩, ?_⟩
            set_option smartUnfolding false in conv => whnf
            exact ⟨(f, i + n, (p :: ps) ++ [tokP 2 (s.extract (Int.toNat i) (Int.toNat (IntKind.wrap .i64 (i + n)))) i]), ⟨(by first | omega | (simp only; omega)), (by first | omega | (simp only; omega)), hs, by simp; omega⟩, weak_ren [2] 3 (by kernel_rfl) (blkR_snoc (by kernel_rfl) trivial) ⟨(by kernel_rfl), by simp only [lsV_snoc]; kernel_rfl, sI ew, trivial⟩, by show s.size - (i + n) < s.size - i; omega⟩
        rw [if_neg (by rw [k2]; simp)] at hs
        refine ⟨⟨(by first | omega | (simp only; omega)), by rw [ew]; omega, by rw [ew]; omega⟩, ?_⟩
        set_option smartUnfolding false in conv => whnf
        refine acall_det (ps := [.str (s.extract (Int.toNat i) (Int.toNat (IntKind.wrap .i64 (i + n))))]) (kw_r _) ?_
        set_option smartUnfolding false in conv => whnf
        refine br_intro (fun k3 => ?_) (fun k3 => ?_) <;> set_option smartUnfolding false in conv => whnf
        · rw [if_pos k3] at hs
          refine ⟨⟨(by first | omega | (simp only; omega)), by rw [ew]; omega, by rw [ew]; omega⟩, ?_⟩
          set_option smartUnfolding false in conv => whnf
          refine ⟨Nat.le_refl 1, ?_⟩
          set_option smartUnfolding false in conv => whnf
          cases ps with
          | nil =>
            set_option smartUnfolding false in conv => whnf
            refine ⟨⟨⟨by decide, by decide⟩, by decide⟩, ?_⟩
            set_option smartUnfolding false in conv => whnf
            exact ⟨(f, i + n, [] ++ [tokP 4 (s.extract (Int.toNat i) (Int.toNat (IntKind.wrap .i64 (i + n)))) i]), ⟨(by first | omega | (simp only; omega)), (by first | omega | (simp only; omega)), hs, by simp; omega⟩, weak_ren [2] 3 (by kernel_rfl) (blk (by kernel_rfl) trivial) ⟨(by kernel_rfl), (by kernel_rfl), sI ew, trivial⟩, by show s.size - (i + n) < s.size - i; omega⟩
          | cons p ps =>
            set_option smartUnfolding false in conv => whnf
            simp only [List.length_cons] at hpl
            refine ⟨⟨⟨by simp [pvs_len], by simp only [Nat.succ_eq_add_one]; omega⟩, by rw [show ((S.E 0).te 127).bytes = 32 from rfl]; simp only [Nat.succ_eq_add_one]; omega⟩, ?_⟩
            set_option smartUnfolding false in conv => whnf
            exact ⟨(f, i + n, (p :: ps) ++ [tokP 4 (s.extract (Int.toNat i) (Int.toNat (IntKind.wrap .i64 (i + n)))) i]), ⟨(by first | omega | (simp only; omega)), (by first | omega | (simp only; omega)), hs, by simp; omega⟩, weak_ren [2] 3 (by kernel_rfl) (blkR_snoc (by kernel_rfl) trivial) ⟨(by kernel_rfl), by simp only [lsV_snoc]; kernel_rfl, sI ew, trivial⟩, by show s.size - (i + n) < s.size - i; omega⟩
        · rw [if_neg (by rw [k3]; simp)] at hs
          refine ⟨⟨(by first | omega | (simp only; omega)), by rw [ew]; omega, by rw [ew]; omega⟩, ?_⟩
          set_option smartUnfolding false in conv => whnf
          refine ⟨Nat.le_refl 1, ?_⟩
          set_option smartUnfolding false in conv => whnf
          cases ps with
          | nil =>
            set_option smartUnfolding false in conv => whnf
            refine ⟨⟨⟨by decide, by decide⟩, by decide⟩, ?_⟩
            set_option smartUnfolding false in conv => whnf
            exact ⟨(f, i + n, [] ++ [tokP 1 (s.extract (Int.toNat i) (Int.toNat (IntKind.wrap .i64 (i + n)))) i]), ⟨(by first | omega | (simp only; omega)), (by first | omega | (simp only; omega)), hs, by simp; omega⟩, weak_ren [2] 3 (by kernel_rfl) (blk (by kernel_rfl) trivial) ⟨(by kernel_rfl), (by kernel_rfl), sI ew, trivial⟩, by show s.size - (i + n) < s.size - i; omega⟩
          | cons p ps =>
            set_option smartUnfolding false in conv => whnf
            simp only [List.length_cons] at hpl
            refine ⟨⟨⟨by simp [pvs_len], by simp only [Nat.succ_eq_add_one]; omega⟩, by rw [show ((S.E 0).te 127).bytes = 32 from rfl]; simp only [Nat.succ_eq_add_one]; omega⟩, ?_⟩
            set_option smartUnfolding false in conv => whnf
            exact ⟨(f, i + n, (p :: ps) ++ [tokP 1 (s.extract (Int.toNat i) (Int.toNat (IntKind.wrap .i64 (i + n)))) i]), ⟨(by first | omega | (simp only; omega)), (by first | omega | (simp only; omega)), hs, by simp; omega⟩, weak_ren [2] 3 (by kernel_rfl) (blkR_snoc (by kernel_rfl) trivial) ⟨(by kernel_rfl), by simp only [lsV_snoc]; kernel_rfl, sI ew, trivial⟩, by show s.size - (i + n) < s.size - i; omega⟩
    · have h := dF h
      rw [ew] at h
      rw [show s.size - (i + n) = 0 by omega, endOf_zero] at hj
      subst hj
      refine br_intro (fun k => ?_) (fun k => ?_) <;> set_option smartUnfolding false in conv => whnf
      · have k := dT k
        rw [if_pos (by omega)] at hs
        rw [← hs]
        exact rd_err _ _
      have k := dF k
      rw [if_neg (by omega), ← ex] at hs
      refine acall_det (ps := [.int .u8 (bt s i)]) (gr_r _) ?_
      set_option smartUnfolding false in conv => whnf
      refine br_intro (fun k2 => ?_) (fun k2 => ?_) <;> set_option smartUnfolding false in conv => whnf
      · rw [if_pos k2] at hs
        refine ⟨⟨(by first | omega | (simp only; omega)), by rw [ew]; omega, by rw [ew]; omega⟩, ?_⟩
        set_option smartUnfolding false in conv => whnf
        refine ⟨Nat.le_refl 1, ?_⟩
        set_option smartUnfolding false in conv => whnf
        cases ps with
        | nil =>
          set_option smartUnfolding false in conv => whnf
          refine ⟨⟨⟨by decide, by decide⟩, by decide⟩, ?_⟩
          set_option smartUnfolding false in conv => whnf
          exact ⟨(f, i + n, [] ++ [tokP 2 (s.extract (Int.toNat i) (Int.toNat (IntKind.wrap .i64 (i + n)))) i]), ⟨(by first | omega | (simp only; omega)), (by first | omega | (simp only; omega)), hs, by simp; omega⟩, weak_ren [2] 3 (by kernel_rfl) (blk (by kernel_rfl) trivial) ⟨(by kernel_rfl), (by kernel_rfl), sI ew, trivial⟩, by show s.size - (i + n) < s.size - i; omega⟩
        | cons p ps =>
          set_option smartUnfolding false in conv => whnf
          simp only [List.length_cons] at hpl
          refine ⟨⟨⟨by simp [pvs_len], by simp only [Nat.succ_eq_add_one]; omega⟩, by rw [show ((S.E 0).te 127).bytes = 32 from rfl]; simp only [Nat.succ_eq_add_one]; omega⟩, ?_⟩
          set_option smartUnfolding false in conv => whnf
          exact ⟨(f, i + n, (p :: ps) ++ [tokP 2 (s.extract (Int.toNat i) (Int.toNat (IntKind.wrap .i64 (i + n)))) i]), ⟨(by first | omega | (simp only; omega)), (by first | omega | (simp only; omega)), hs, by simp; omega⟩, weak_ren [2] 3 (by kernel_rfl) (blkR_snoc (by kernel_rfl) trivial) ⟨(by kernel_rfl), by simp only [lsV_snoc]; kernel_rfl, sI ew, trivial⟩, by show s.size - (i + n) < s.size - i; omega⟩
      rw [if_neg (by rw [k2]; simp)] at hs
      refine ⟨⟨(by first | omega | (simp only; omega)), by rw [ew]; omega, by rw [ew]; omega⟩, ?_⟩
      set_option smartUnfolding false in conv => whnf
      refine acall_det (ps := [.str (s.extract (Int.toNat i) (Int.toNat (IntKind.wrap .i64 (i + n))))]) (kw_r _) ?_
      set_option smartUnfolding false in conv => whnf
      refine br_intro (fun k3 => ?_) (fun k3 => ?_) <;> set_option smartUnfolding false in conv => whnf
      · rw [if_pos k3] at hs
        refine ⟨⟨(by first | omega | (simp only; omega)), by rw [ew]; omega, by rw [ew]; omega⟩, ?_⟩
        set_option smartUnfolding false in conv => whnf
        refine ⟨Nat.le_refl 1, ?_⟩
        set_option smartUnfolding false in conv => whnf
        cases ps with
        | nil =>
          set_option smartUnfolding false in conv => whnf
          refine ⟨⟨⟨by decide, by decide⟩, by decide⟩, ?_⟩
          set_option smartUnfolding false in conv => whnf
          exact ⟨(f, i + n, [] ++ [tokP 4 (s.extract (Int.toNat i) (Int.toNat (IntKind.wrap .i64 (i + n)))) i]), ⟨(by first | omega | (simp only; omega)), (by first | omega | (simp only; omega)), hs, by simp; omega⟩, weak_ren [2] 3 (by kernel_rfl) (blk (by kernel_rfl) trivial) ⟨(by kernel_rfl), (by kernel_rfl), sI ew, trivial⟩, by show s.size - (i + n) < s.size - i; omega⟩
        | cons p ps =>
          set_option smartUnfolding false in conv => whnf
          simp only [List.length_cons] at hpl
          refine ⟨⟨⟨by simp [pvs_len], by simp only [Nat.succ_eq_add_one]; omega⟩, by rw [show ((S.E 0).te 127).bytes = 32 from rfl]; simp only [Nat.succ_eq_add_one]; omega⟩, ?_⟩
          set_option smartUnfolding false in conv => whnf
          exact ⟨(f, i + n, (p :: ps) ++ [tokP 4 (s.extract (Int.toNat i) (Int.toNat (IntKind.wrap .i64 (i + n)))) i]), ⟨(by first | omega | (simp only; omega)), (by first | omega | (simp only; omega)), hs, by simp; omega⟩, weak_ren [2] 3 (by kernel_rfl) (blkR_snoc (by kernel_rfl) trivial) ⟨(by kernel_rfl), by simp only [lsV_snoc]; kernel_rfl, sI ew, trivial⟩, by show s.size - (i + n) < s.size - i; omega⟩
      · rw [if_neg (by rw [k3]; simp)] at hs
        refine ⟨⟨(by first | omega | (simp only; omega)), by rw [ew]; omega, by rw [ew]; omega⟩, ?_⟩
        set_option smartUnfolding false in conv => whnf
        refine ⟨Nat.le_refl 1, ?_⟩
        set_option smartUnfolding false in conv => whnf
        cases ps with
        | nil =>
          set_option smartUnfolding false in conv => whnf
          refine ⟨⟨⟨by decide, by decide⟩, by decide⟩, ?_⟩
          set_option smartUnfolding false in conv => whnf
          exact ⟨(f, i + n, [] ++ [tokP 1 (s.extract (Int.toNat i) (Int.toNat (IntKind.wrap .i64 (i + n)))) i]), ⟨(by first | omega | (simp only; omega)), (by first | omega | (simp only; omega)), hs, by simp; omega⟩, weak_ren [2] 3 (by kernel_rfl) (blk (by kernel_rfl) trivial) ⟨(by kernel_rfl), (by kernel_rfl), sI ew, trivial⟩, by show s.size - (i + n) < s.size - i; omega⟩
        | cons p ps =>
          set_option smartUnfolding false in conv => whnf
          simp only [List.length_cons] at hpl
          refine ⟨⟨⟨by simp [pvs_len], by simp only [Nat.succ_eq_add_one]; omega⟩, by rw [show ((S.E 0).te 127).bytes = 32 from rfl]; simp only [Nat.succ_eq_add_one]; omega⟩, ?_⟩
          set_option smartUnfolding false in conv => whnf
          exact ⟨(f, i + n, (p :: ps) ++ [tokP 1 (s.extract (Int.toNat i) (Int.toNat (IntKind.wrap .i64 (i + n)))) i]), ⟨(by first | omega | (simp only; omega)), (by first | omega | (simp only; omega)), hs, by simp; omega⟩, weak_ren [2] 3 (by kernel_rfl) (blkR_snoc (by kernel_rfl) trivial) ⟨(by kernel_rfl), by simp only [lsV_snoc]; kernel_rfl, sI ew, trivial⟩, by show s.size - (i + n) < s.size - i; omega⟩
  refine acall_det (ps := [.int .u8 (bt s i)]) (gr_r _) ?_
  set_option smartUnfolding false in conv => whnf
  refine br_intro (fun a2 => ?_) (fun a2 => ?_) <;> set_option smartUnfolding false in conv => whnf
  · have hnm : (bSm (bt s i) || bGr (bt s i)) = true := by rw [show bGr (bt s i) = true from a2]; simp
    rw [if_pos hnm] at hs
    have hE := endOf_le bPt s (s.size - (i + 1)) (i + 1)
    generalize hEd : endOf bPt s (s.size - (i + 1)) (i + 1) = E at hs hE
    refine vloop_intro (σ := Nat) (fun n => 1 ≤ n ∧ i + n ≤ s.size ∧ endOf bPt s (s.size - (i + n)) (i + n) = E) (fun n => [(0, .pv (.str s)), (5, lsV 0 ps), (6, .pv (.int .i64 i)), (7, .pv (.int .u8 (bt s i))), (8, .pv (.int .i64 n))])
      (fun _ => [lsB 127 3 ps]) (fun n => s.size - (i + n)) 1 ⟨by omega, by omega, hEd⟩ (weak_ren [0] 1 (by kernel_rfl) (blkR_ls (by kernel_rfl) trivial) ⟨(by kernel_rfl), sLs (by kernel_rfl), (by kernel_rfl), (by kernel_rfl), (by kernel_rfl), trivial⟩) ?_
    rintro n ⟨hn1, hn2, hj⟩
    have ew : IntKind.wrap .i64 ((i : Int) + n) = ((i + n : Nat) : Int) := by rw [wrapI (by omega) (by omega)]; rfl
    have ex : s.extract (Int.toNat i) (Int.toNat (IntKind.wrap .i64 ((i : Int) + n))) = s.extract i (i + n) := by rw [ew]; rfl
    set_option smartUnfolding false in conv => whnf
    refine br_intro (fun h => ?_) (fun h => ?_) <;> set_option smartUnfolding false in conv => whnf
    · have h := dT h
      rw [ew] at h
      rw [show s.size - (i + n) = (s.size - (i + (n + 1))) + 1 by omega, endOf_succ, bPt_of] at hj
      refine ⟨⟨by rw [ew]; omega, by rw [ew]; omega⟩, ?_⟩
      set_option smartUnfolding false in conv => whnf
      refine acall_det (ps := [.int .u8 (byteAt s (IntKind.wrap .i64 ((i : Int) + n)))]) (sm_r _) ?_
      set_option smartUnfolding false in conv => whnf
      refine br_intro (fun c1 => ?_) (fun c1 => ?_) <;> set_option smartUnfolding false in conv => whnf
      · rw [ew] at c1
        rw [show bSm (bt s (i + n)) = true from c1, if_pos (by simp)] at hj
        exact ⟨n + 1, ⟨by omega, by omega, hj⟩, weak_ren [0] 1 (by kernel_rfl) (blkR_ls (by kernel_rfl) trivial) ⟨(by kernel_rfl), sLs (by kernel_rfl), (by kernel_rfl), (by kernel_rfl), sI (wrapI (by omega) (by omega)), trivial⟩, by show s.size - (i + (n + 1)) < s.size - (i + n); omega⟩
      refine ⟨⟨by rw [ew]; omega, by rw [ew]; omega⟩, ?_⟩
      set_option smartUnfolding false in conv => whnf
      refine acall_det (ps := [.int .u8 (byteAt s (IntKind.wrap .i64 ((i : Int) + n)))]) (gr_r _) ?_
      set_option smartUnfolding false in conv => whnf
      refine br_intro (fun c2 => ?_) (fun c2 => ?_) <;> set_option smartUnfolding false in conv => whnf
      · rw [ew] at c1 c2
        rw [show bSm (bt s (i + n)) = false from c1, show bGr (bt s (i + n)) = true from c2, if_pos (by simp)] at hj
        exact ⟨n + 1, ⟨by omega, by omega, hj⟩, weak_ren [0] 1 (by kernel_rfl) (blkR_ls (by kernel_rfl) trivial) ⟨(by kernel_rfl), sLs (by kernel_rfl), (by kernel_rfl), (by kernel_rfl), sI (wrapI (by omega) (by omega)), trivial⟩, by show s.size - (i + (n + 1)) < s.size - (i + n); omega⟩
      refine ⟨⟨by rw [ew]; omega, by rw [ew]; omega⟩, ?_⟩
      set_option smartUnfolding false in conv => whnf
      refine acall_det (ps := [.int .u8 (byteAt s (IntKind.wrap .i64 ((i : Int) + n)))]) (dg_r _) ?_
      set_option smartUnfolding false in conv => whnf
      refine br_intro (fun c3 => ?_) (fun c3 => ?_) <;> set_option smartUnfolding false in conv => whnf
      · rw [ew] at c1 c2 c3
        rw [show bSm (bt s (i + n)) = false from c1, show bGr (bt s (i + n)) = false from c2, show bDg (bt s (i + n)) = true from c3, if_pos (by simp)] at hj
        exact ⟨n + 1, ⟨by omega, by omega, hj⟩, weak_ren [0] 1 (by kernel_rfl) (blkR_ls (by kernel_rfl) trivial) ⟨(by kernel_rfl), sLs (by kernel_rfl), (by kernel_rfl), (by kernel_rfl), sI (wrapI (by omega) (by omega)), trivial⟩, by show s.size - (i + (n + 1)) < s.size - (i + n); omega⟩
      refine ⟨⟨by rw [ew]; omega, by rw [ew]; omega⟩, ?_⟩
      set_option smartUnfolding false in conv => whnf
      refine br_intro (fun c4 => ?_) (fun c4 => ?_) <;> set_option smartUnfolding false in conv => whnf
      · rw [ew] at c1 c2 c3 c4
        rw [show bSm (bt s (i + n)) = false from c1, show bGr (bt s (i + n)) = false from c2, show bDg (bt s (i + n)) = false from c3, show decide (bt s (i + n) = 95) = true from c4, if_pos (by simp)] at hj
        exact ⟨n + 1, ⟨by omega, by omega, hj⟩, weak_ren [0] 1 (by kernel_rfl) (blkR_ls (by kernel_rfl) trivial) ⟨(by kernel_rfl), sLs (by kernel_rfl), (by kernel_rfl), (by kernel_rfl), sI (wrapI (by omega) (by omega)), trivial⟩, by show s.size - (i + (n + 1)) < s.size - (i + n); omega⟩
      · rw [ew] at c1 c2 c3 c4
        rw [show bSm (bt s (i + n)) = false from c1, show bGr (bt s (i + n)) = false from c2, show bDg (bt s (i + n)) = false from c3, show decide (bt s (i + n) = 95) = false from c4, if_neg (by simp)] at hj
        subst hj
        refine br_intro (fun k => ?_) (fun k => ?_) <;> set_option smartUnfolding false in conv => whnf
        · have k := dT k
          rw [if_pos (by omega)] at hs
          rw [← hs]
          exact rd_err _ _
        have k := dF k
        rw [if_neg (by omega), ← ex] at hs
        refine acall_det (ps := [.int .u8 (bt s i)]) (gr_r _) ?_
        set_option smartUnfolding false in conv => whnf
        refine br_intro (fun k2 => ?_) (fun k2 => ?_) <;> set_option smartUnfolding false in conv => whnf
        · rw [if_pos k2] at hs
          refine ⟨⟨(by first | omega | (simp only; omega)), by rw [ew]; omega, by rw [ew]; omega⟩, ?_⟩
          set_option smartUnfolding false in conv => whnf
          refine ⟨Nat.le_refl 1, ?_⟩
          set_option smartUnfolding false in conv => whnf
          cases ps with
          | nil =>
            set_option smartUnfolding false in conv => whnf
            refine ⟨⟨⟨by decide, by decide⟩, by decide⟩, ?_⟩
            set_option smartUnfolding false in conv => whnf
            exact ⟨(f, i + n, [] ++ [tokP 2 (s.extract (Int.toNat i) (Int.toNat (IntKind.wrap .i64 (i + n)))) i]), ⟨(by first | omega | (simp only; omega)), (by first | omega | (simp only; omega)), hs, by simp; omega⟩, weak_ren [2] 3 (by kernel_rfl) (blk (by kernel_rfl) trivial) ⟨(by kernel_rfl), (by kernel_rfl), sI ew, trivial⟩, by show s.size - (i + n) < s.size - i; omega⟩
          | cons p ps =>
            set_option smartUnfolding false in conv => whnf
            simp only [List.length_cons] at hpl
            refine ⟨⟨⟨by simp [pvs_len], by simp only [Nat.succ_eq_add_one]; omega⟩, by rw [show ((S.E 0).te 127).bytes = 32 from rfl]; simp only [Nat.succ_eq_add_one]; omega⟩, ?_⟩
            set_option smartUnfolding false in conv => whnf
            exact ⟨(f, i + n, (p :: ps) ++ [tokP 2 (s.extract (Int.toNat i) (Int.toNat (IntKind.wrap .i64 (i + n)))) i]), ⟨(by first | omega | (simp only; omega)), (by first | omega | (simp only; omega)), hs, by simp; omega⟩, weak_ren [2] 3 (by kernel_rfl) (blkR_snoc (by kernel_rfl) trivial) ⟨(by kernel_rfl), by simp only [lsV_snoc]; kernel_rfl, sI ew, trivial⟩, by show s.size - (i + n) < s.size - i; omega⟩
        rw [if_neg (by rw [k2]; simp)] at hs
        refine ⟨⟨(by first | omega | (simp only; omega)), by rw [ew]; omega, by rw [ew]; omega⟩, ?_⟩
        set_option smartUnfolding false in conv => whnf
        refine acall_det (ps := [.str (s.extract (Int.toNat i) (Int.toNat (IntKind.wrap .i64 (i + n))))]) (kw_r _) ?_
        set_option smartUnfolding false in conv => whnf
        refine br_intro (fun k3 => ?_) (fun k3 => ?_) <;> set_option smartUnfolding false in conv => whnf
        · rw [if_pos k3] at hs
          refine ⟨⟨(by first | omega | (simp only; omega)), by rw [ew]; omega, by rw [ew]; omega⟩, ?_⟩
          set_option smartUnfolding false in conv => whnf
          refine ⟨Nat.le_refl 1, ?_⟩
          set_option smartUnfolding false in conv => whnf
          cases ps with
          | nil =>
            set_option smartUnfolding false in conv => whnf
            refine ⟨⟨⟨by decide, by decide⟩, by decide⟩, ?_⟩
            set_option smartUnfolding false in conv => whnf
            exact ⟨(f, i + n, [] ++ [tokP 4 (s.extract (Int.toNat i) (Int.toNat (IntKind.wrap .i64 (i + n)))) i]), ⟨(by first | omega | (simp only; omega)), (by first | omega | (simp only; omega)), hs, by simp; omega⟩, weak_ren [2] 3 (by kernel_rfl) (blk (by kernel_rfl) trivial) ⟨(by kernel_rfl), (by kernel_rfl), sI ew, trivial⟩, by show s.size - (i + n) < s.size - i; omega⟩
          | cons p ps =>
            set_option smartUnfolding false in conv => whnf
            simp only [List.length_cons] at hpl
            refine ⟨⟨⟨by simp [pvs_len], by simp only [Nat.succ_eq_add_one]; omega⟩, by rw [show ((S.E 0).te 127).bytes = 32 from rfl]; simp only [Nat.succ_eq_add_one]; omega⟩, ?_⟩
            set_option smartUnfolding false in conv => whnf
            exact ⟨(f, i + n, (p :: ps) ++ [tokP 4 (s.extract (Int.toNat i) (Int.toNat (IntKind.wrap .i64 (i + n)))) i]), ⟨(by first | omega | (simp only; omega)), (by first | omega | (simp only; omega)), hs, by simp; omega⟩, weak_ren [2] 3 (by kernel_rfl) (blkR_snoc (by kernel_rfl) trivial) ⟨(by kernel_rfl), by simp only [lsV_snoc]; kernel_rfl, sI ew, trivial⟩, by show s.size - (i + n) < s.size - i; omega⟩
        · rw [if_neg (by rw [k3]; simp)] at hs
          refine ⟨⟨(by first | omega | (simp only; omega)), by rw [ew]; omega, by rw [ew]; omega⟩, ?_⟩
          set_option smartUnfolding false in conv => whnf
          refine ⟨Nat.le_refl 1, ?_⟩
          set_option smartUnfolding false in conv => whnf
          cases ps with
          | nil =>
            set_option smartUnfolding false in conv => whnf
            refine ⟨⟨⟨by decide, by decide⟩, by decide⟩, ?_⟩
            set_option smartUnfolding false in conv => whnf
            exact ⟨(f, i + n, [] ++ [tokP 1 (s.extract (Int.toNat i) (Int.toNat (IntKind.wrap .i64 (i + n)))) i]), ⟨(by first | omega | (simp only; omega)), (by first | omega | (simp only; omega)), hs, by simp; omega⟩, weak_ren [2] 3 (by kernel_rfl) (blk (by kernel_rfl) trivial) ⟨(by kernel_rfl), (by kernel_rfl), sI ew, trivial⟩, by show s.size - (i + n) < s.size - i; omega⟩
          | cons p ps =>
            set_option smartUnfolding false in conv => whnf
            simp only [List.length_cons] at hpl
            refine ⟨⟨⟨by simp [pvs_len], by simp only [Nat.succ_eq_add_one]; omega⟩, by rw [show ((S.E 0).te 127).bytes = 32 from rfl]; simp only [Nat.succ_eq_add_one]; omega⟩, ?_⟩
            set_option smartUnfolding false in conv => whnf
            exact ⟨(f, i + n, (p :: ps) ++ [tokP 1 (s.extract (Int.toNat i) (Int.toNat (IntKind.wrap .i64 (i + n)))) i]), ⟨(by first | omega | (simp only; omega)), (by first | omega | (simp only; omega)), hs, by simp; omega⟩, weak_ren [2] 3 (by kernel_rfl) (blkR_snoc (by kernel_rfl) trivial) ⟨(by kernel_rfl), by simp only [lsV_snoc]; kernel_rfl, sI ew, trivial⟩, by show s.size - (i + n) < s.size - i; omega⟩
    · have h := dF h
      rw [ew] at h
      rw [show s.size - (i + n) = 0 by omega, endOf_zero] at hj
      subst hj
      refine br_intro (fun k => ?_) (fun k => ?_) <;> set_option smartUnfolding false in conv => whnf
      · have k := dT k
        rw [if_pos (by omega)] at hs
        rw [← hs]
        exact rd_err _ _
      have k := dF k
      rw [if_neg (by omega), ← ex] at hs
      refine acall_det (ps := [.int .u8 (bt s i)]) (gr_r _) ?_
      set_option smartUnfolding false in conv => whnf
      refine br_intro (fun k2 => ?_) (fun k2 => ?_) <;> set_option smartUnfolding false in conv => whnf
      · rw [if_pos k2] at hs
        refine ⟨⟨(by first | omega | (simp only; omega)), by rw [ew]; omega, by rw [ew]; omega⟩, ?_⟩
        set_option smartUnfolding false in conv => whnf
        refine ⟨Nat.le_refl 1, ?_⟩
        set_option smartUnfolding false in conv => whnf
        cases ps with
        | nil =>
          set_option smartUnfolding false in conv => whnf
          refine ⟨⟨⟨by decide, by decide⟩, by decide⟩, ?_⟩
          set_option smartUnfolding false in conv => whnf
          exact ⟨(f, i + n, [] ++ [tokP 2 (s.extract (Int.toNat i) (Int.toNat (IntKind.wrap .i64 (i + n)))) i]), ⟨(by first | omega | (simp only; omega)), (by first | omega | (simp only; omega)), hs, by simp; omega⟩, weak_ren [2] 3 (by kernel_rfl) (blk (by kernel_rfl) trivial) ⟨(by kernel_rfl), (by kernel_rfl), sI ew, trivial⟩, by show s.size - (i + n) < s.size - i; omega⟩
        | cons p ps =>
          set_option smartUnfolding false in conv => whnf
          simp only [List.length_cons] at hpl
          refine ⟨⟨⟨by simp [pvs_len], by simp only [Nat.succ_eq_add_one]; omega⟩, by rw [show ((S.E 0).te 127).bytes = 32 from rfl]; simp only [Nat.succ_eq_add_one]; omega⟩, ?_⟩
          set_option smartUnfolding false in conv => whnf
          exact ⟨(f, i + n, (p :: ps) ++ [tokP 2 (s.extract (Int.toNat i) (Int.toNat (IntKind.wrap .i64 (i + n)))) i]), ⟨(by first | omega | (simp only; omega)), (by first | omega | (simp only; omega)), hs, by simp; omega⟩, weak_ren [2] 3 (by kernel_rfl) (blkR_snoc (by kernel_rfl) trivial) ⟨(by kernel_rfl), by simp only [lsV_snoc]; kernel_rfl, sI ew, trivial⟩, by show s.size - (i + n) < s.size - i; omega⟩
      rw [if_neg (by rw [k2]; simp)] at hs
      refine ⟨⟨(by first | omega | (simp only; omega)), by rw [ew]; omega, by rw [ew]; omega⟩, ?_⟩
      set_option smartUnfolding false in conv => whnf
      refine acall_det (ps := [.str (s.extract (Int.toNat i) (Int.toNat (IntKind.wrap .i64 (i + n))))]) (kw_r _) ?_
      set_option smartUnfolding false in conv => whnf
      refine br_intro (fun k3 => ?_) (fun k3 => ?_) <;> set_option smartUnfolding false in conv => whnf
      · rw [if_pos k3] at hs
        refine ⟨⟨(by first | omega | (simp only; omega)), by rw [ew]; omega, by rw [ew]; omega⟩, ?_⟩
        set_option smartUnfolding false in conv => whnf
        refine ⟨Nat.le_refl 1, ?_⟩
        set_option smartUnfolding false in conv => whnf
        cases ps with
        | nil =>
          set_option smartUnfolding false in conv => whnf
          refine ⟨⟨⟨by decide, by decide⟩, by decide⟩, ?_⟩
          set_option smartUnfolding false in conv => whnf
          exact ⟨(f, i + n, [] ++ [tokP 4 (s.extract (Int.toNat i) (Int.toNat (IntKind.wrap .i64 (i + n)))) i]), ⟨(by first | omega | (simp only; omega)), (by first | omega | (simp only; omega)), hs, by simp; omega⟩, weak_ren [2] 3 (by kernel_rfl) (blk (by kernel_rfl) trivial) ⟨(by kernel_rfl), (by kernel_rfl), sI ew, trivial⟩, by show s.size - (i + n) < s.size - i; omega⟩
        | cons p ps =>
          set_option smartUnfolding false in conv => whnf
          simp only [List.length_cons] at hpl
          refine ⟨⟨⟨by simp [pvs_len], by simp only [Nat.succ_eq_add_one]; omega⟩, by rw [show ((S.E 0).te 127).bytes = 32 from rfl]; simp only [Nat.succ_eq_add_one]; omega⟩, ?_⟩
          set_option smartUnfolding false in conv => whnf
          exact ⟨(f, i + n, (p :: ps) ++ [tokP 4 (s.extract (Int.toNat i) (Int.toNat (IntKind.wrap .i64 (i + n)))) i]), ⟨(by first | omega | (simp only; omega)), (by first | omega | (simp only; omega)), hs, by simp; omega⟩, weak_ren [2] 3 (by kernel_rfl) (blkR_snoc (by kernel_rfl) trivial) ⟨(by kernel_rfl), by simp only [lsV_snoc]; kernel_rfl, sI ew, trivial⟩, by show s.size - (i + n) < s.size - i; omega⟩
      · rw [if_neg (by rw [k3]; simp)] at hs
        refine ⟨⟨(by first | omega | (simp only; omega)), by rw [ew]; omega, by rw [ew]; omega⟩, ?_⟩
        set_option smartUnfolding false in conv => whnf
        refine ⟨Nat.le_refl 1, ?_⟩
        set_option smartUnfolding false in conv => whnf
        cases ps with
        | nil =>
          set_option smartUnfolding false in conv => whnf
          refine ⟨⟨⟨by decide, by decide⟩, by decide⟩, ?_⟩
          set_option smartUnfolding false in conv => whnf
          exact ⟨(f, i + n, [] ++ [tokP 1 (s.extract (Int.toNat i) (Int.toNat (IntKind.wrap .i64 (i + n)))) i]), ⟨(by first | omega | (simp only; omega)), (by first | omega | (simp only; omega)), hs, by simp; omega⟩, weak_ren [2] 3 (by kernel_rfl) (blk (by kernel_rfl) trivial) ⟨(by kernel_rfl), (by kernel_rfl), sI ew, trivial⟩, by show s.size - (i + n) < s.size - i; omega⟩
        | cons p ps =>
          set_option smartUnfolding false in conv => whnf
          simp only [List.length_cons] at hpl
          refine ⟨⟨⟨by simp [pvs_len], by simp only [Nat.succ_eq_add_one]; omega⟩, by rw [show ((S.E 0).te 127).bytes = 32 from rfl]; simp only [Nat.succ_eq_add_one]; omega⟩, ?_⟩
          set_option smartUnfolding false in conv => whnf
          exact ⟨(f, i + n, (p :: ps) ++ [tokP 1 (s.extract (Int.toNat i) (Int.toNat (IntKind.wrap .i64 (i + n)))) i]), ⟨(by first | omega | (simp only; omega)), (by first | omega | (simp only; omega)), hs, by simp; omega⟩, weak_ren [2] 3 (by kernel_rfl) (blkR_snoc (by kernel_rfl) trivial) ⟨(by kernel_rfl), by simp only [lsV_snoc]; kernel_rfl, sI ew, trivial⟩, by show s.size - (i + n) < s.size - i; omega⟩
  rw [if_neg (by rw [show bSm (bt s i) = false from a1, show bGr (bt s i) = false from a2]; simp)] at hs
  refine acall_det (ps := [.int .u8 (bt s i)]) (dg_r _) ?_
  set_option smartUnfolding false in conv => whnf
  refine br_intro (fun a3 => ?_) (fun a3 => ?_) <;> set_option smartUnfolding false in conv => whnf
  · have hdg : bDg (bt s i) = true := a3
    rw [if_pos hdg] at hs
    have hE := endOf_le bDg s (s.size - (i + 1)) (i + 1)
    generalize hEd : endOf bDg s (s.size - (i + 1)) (i + 1) = E at hs hE
    refine vloop_intro (σ := Nat) (fun n => 1 ≤ n ∧ i + n ≤ s.size ∧ endOf bDg s (s.size - (i + n)) (i + n) = E) (fun n => [(0, .pv (.str s)), (5, lsV 0 ps), (6, .pv (.int .i64 i)), (7, .pv (.int .u8 (bt s i))), (8, .pv (.int .i64 n))])
      (fun _ => [lsB 127 3 ps]) (fun n => s.size - (i + n)) 1 ⟨by omega, by omega, hEd⟩ (weak_ren [0] 1 (by kernel_rfl) (blkR_ls (by kernel_rfl) trivial) ⟨(by kernel_rfl), sLs (by kernel_rfl), (by kernel_rfl), (by kernel_rfl), (by kernel_rfl), trivial⟩) ?_
    rintro n ⟨hn1, hn2, hj⟩
    have ew : IntKind.wrap .i64 ((i : Int) + n) = ((i + n : Nat) : Int) := by rw [wrapI (by omega) (by omega)]; rfl
    have ex : s.extract (Int.toNat i) (Int.toNat (IntKind.wrap .i64 ((i : Int) + n))) = s.extract i (i + n) := by rw [ew]; rfl
    set_option smartUnfolding false in conv => whnf
    refine br_intro (fun h => ?_) (fun h => ?_) <;> set_option smartUnfolding false in conv => whnf
    · have h := dT h
      rw [ew] at h
      rw [show s.size - (i + n) = (s.size - (i + (n + 1))) + 1 by omega, endOf_succ] at hj
      refine ⟨⟨by rw [ew]; omega, by rw [ew]; omega⟩, ?_⟩
      set_option smartUnfolding false in conv => whnf
      refine acall_det (ps := [.int .u8 (byteAt s (IntKind.wrap .i64 ((i : Int) + n)))]) (dg_r _) ?_
      set_option smartUnfolding false in conv => whnf
      refine br_intro (fun c1 => ?_) (fun c1 => ?_) <;> set_option smartUnfolding false in conv => whnf
      · rw [ew] at c1
        rw [if_pos (show bDg (bt s (i + n)) = true from c1)] at hj
        exact ⟨n + 1, ⟨by omega, by omega, hj⟩, weak_ren [0] 1 (by kernel_rfl) (blkR_ls (by kernel_rfl) trivial) ⟨(by kernel_rfl), sLs (by kernel_rfl), (by kernel_rfl), (by kernel_rfl), sI (wrapI (by omega) (by omega)), trivial⟩, by show s.size - (i + (n + 1)) < s.size - (i + n); omega⟩
      · rw [ew] at c1
        rw [if_neg (by rw [show bDg (bt s (i + n)) = false from c1]; simp)] at hj
        subst hj
        refine br_intro (fun k => ?_) (fun k => ?_) <;> set_option smartUnfolding false in conv => whnf
        · have k := dT k
          refine br_intro (fun k2 => ?_) (fun k2 => ?_) <;> set_option smartUnfolding false in conv => whnf
          · have k2 : bt s i = 48 := dT k2
            rw [if_pos ⟨by omega, k2⟩] at hs
            rw [← hs]
            exact rd_err _ _
          have k2 : ¬ bt s i = 48 := dF k2
          rw [if_neg (fun h => k2 h.2), ← ex] at hs
          refine ⟨⟨(by first | omega | (simp only; omega)), by rw [ew]; omega, by rw [ew]; omega⟩, ?_⟩
          set_option smartUnfolding false in conv => whnf
          refine acall_det (ps := [.str (s.extract (Int.toNat i) (Int.toNat (IntKind.wrap .i64 (i + n))))]) (value_r _ (by rw [ex, ByteArray.size_extract]; omega)) ?_
          set_option smartUnfolding false in conv => whnf
          refine br_intro (fun k3 => ?_) (fun k3 => ?_) <;> set_option smartUnfolding false in conv => whnf
          · rw [if_pos (by simpa using k3)] at hs
            rw [← hs]
            exact rd_err _ _
          rw [if_neg (by simpa using k3)] at hs
          refine ⟨⟨(by first | omega | (simp only; omega)), by rw [ew]; omega, by rw [ew]; omega⟩, ?_⟩
          set_option smartUnfolding false in conv => whnf
          refine ⟨Nat.le_refl 1, ?_⟩
          set_option smartUnfolding false in conv => whnf
          cases ps with
          | nil =>
            set_option smartUnfolding false in conv => whnf
            refine ⟨⟨⟨by decide, by decide⟩, by decide⟩, ?_⟩
            set_option smartUnfolding false in conv => whnf
            exact ⟨(f, i + n, [] ++ [tokP 3 (s.extract (Int.toNat i) (Int.toNat (IntKind.wrap .i64 (i + n)))) i]), ⟨(by first | omega | (simp only; omega)), (by first | omega | (simp only; omega)), hs, by simp; omega⟩, weak_ren [2] 3 (by kernel_rfl) (blk (by kernel_rfl) trivial) ⟨(by kernel_rfl), (by kernel_rfl), sI ew, trivial⟩, by show s.size - (i + n) < s.size - i; omega⟩
          | cons p ps =>
            set_option smartUnfolding false in conv => whnf
            simp only [List.length_cons] at hpl
            refine ⟨⟨⟨by simp [pvs_len], by simp only [Nat.succ_eq_add_one]; omega⟩, by rw [show ((S.E 0).te 127).bytes = 32 from rfl]; simp only [Nat.succ_eq_add_one]; omega⟩, ?_⟩
            set_option smartUnfolding false in conv => whnf
            exact ⟨(f, i + n, (p :: ps) ++ [tokP 3 (s.extract (Int.toNat i) (Int.toNat (IntKind.wrap .i64 (i + n)))) i]), ⟨(by first | omega | (simp only; omega)), (by first | omega | (simp only; omega)), hs, by simp; omega⟩, weak_ren [2] 3 (by kernel_rfl) (blkR_snoc (by kernel_rfl) trivial) ⟨(by kernel_rfl), by simp only [lsV_snoc]; kernel_rfl, sI ew, trivial⟩, by show s.size - (i + n) < s.size - i; omega⟩
        have k := dF k
        rw [if_neg (fun h => by omega), ← ex] at hs
        refine ⟨⟨(by first | omega | (simp only; omega)), by rw [ew]; omega, by rw [ew]; omega⟩, ?_⟩
        set_option smartUnfolding false in conv => whnf
        refine acall_det (ps := [.str (s.extract (Int.toNat i) (Int.toNat (IntKind.wrap .i64 (i + n))))]) (value_r _ (by rw [ex, ByteArray.size_extract]; omega)) ?_
        set_option smartUnfolding false in conv => whnf
        refine br_intro (fun k3 => ?_) (fun k3 => ?_) <;> set_option smartUnfolding false in conv => whnf
        · rw [if_pos (by simpa using k3)] at hs
          rw [← hs]
          exact rd_err _ _
        rw [if_neg (by simpa using k3)] at hs
        refine ⟨⟨(by first | omega | (simp only; omega)), by rw [ew]; omega, by rw [ew]; omega⟩, ?_⟩
        set_option smartUnfolding false in conv => whnf
        refine ⟨Nat.le_refl 1, ?_⟩
        set_option smartUnfolding false in conv => whnf
        cases ps with
        | nil =>
          set_option smartUnfolding false in conv => whnf
          refine ⟨⟨⟨by decide, by decide⟩, by decide⟩, ?_⟩
          set_option smartUnfolding false in conv => whnf
          exact ⟨(f, i + n, [] ++ [tokP 3 (s.extract (Int.toNat i) (Int.toNat (IntKind.wrap .i64 (i + n)))) i]), ⟨(by first | omega | (simp only; omega)), (by first | omega | (simp only; omega)), hs, by simp; omega⟩, weak_ren [2] 3 (by kernel_rfl) (blk (by kernel_rfl) trivial) ⟨(by kernel_rfl), (by kernel_rfl), sI ew, trivial⟩, by show s.size - (i + n) < s.size - i; omega⟩
        | cons p ps =>
          set_option smartUnfolding false in conv => whnf
          simp only [List.length_cons] at hpl
          refine ⟨⟨⟨by simp [pvs_len], by simp only [Nat.succ_eq_add_one]; omega⟩, by rw [show ((S.E 0).te 127).bytes = 32 from rfl]; simp only [Nat.succ_eq_add_one]; omega⟩, ?_⟩
          set_option smartUnfolding false in conv => whnf
          exact ⟨(f, i + n, (p :: ps) ++ [tokP 3 (s.extract (Int.toNat i) (Int.toNat (IntKind.wrap .i64 (i + n)))) i]), ⟨(by first | omega | (simp only; omega)), (by first | omega | (simp only; omega)), hs, by simp; omega⟩, weak_ren [2] 3 (by kernel_rfl) (blkR_snoc (by kernel_rfl) trivial) ⟨(by kernel_rfl), by simp only [lsV_snoc]; kernel_rfl, sI ew, trivial⟩, by show s.size - (i + n) < s.size - i; omega⟩
    · have h := dF h
      rw [ew] at h
      rw [show s.size - (i + n) = 0 by omega, endOf_zero] at hj
      subst hj
      refine br_intro (fun k => ?_) (fun k => ?_) <;> set_option smartUnfolding false in conv => whnf
      · have k := dT k
        refine br_intro (fun k2 => ?_) (fun k2 => ?_) <;> set_option smartUnfolding false in conv => whnf
        · have k2 : bt s i = 48 := dT k2
          rw [if_pos ⟨by omega, k2⟩] at hs
          rw [← hs]
          exact rd_err _ _
        have k2 : ¬ bt s i = 48 := dF k2
        rw [if_neg (fun h => k2 h.2), ← ex] at hs
        refine ⟨⟨(by first | omega | (simp only; omega)), by rw [ew]; omega, by rw [ew]; omega⟩, ?_⟩
        set_option smartUnfolding false in conv => whnf
        refine acall_det (ps := [.str (s.extract (Int.toNat i) (Int.toNat (IntKind.wrap .i64 (i + n))))]) (value_r _ (by rw [ex, ByteArray.size_extract]; omega)) ?_
        set_option smartUnfolding false in conv => whnf
        refine br_intro (fun k3 => ?_) (fun k3 => ?_) <;> set_option smartUnfolding false in conv => whnf
        · rw [if_pos (by simpa using k3)] at hs
          rw [← hs]
          exact rd_err _ _
        rw [if_neg (by simpa using k3)] at hs
        refine ⟨⟨(by first | omega | (simp only; omega)), by rw [ew]; omega, by rw [ew]; omega⟩, ?_⟩
        set_option smartUnfolding false in conv => whnf
        refine ⟨Nat.le_refl 1, ?_⟩
        set_option smartUnfolding false in conv => whnf
        cases ps with
        | nil =>
          set_option smartUnfolding false in conv => whnf
          refine ⟨⟨⟨by decide, by decide⟩, by decide⟩, ?_⟩
          set_option smartUnfolding false in conv => whnf
          exact ⟨(f, i + n, [] ++ [tokP 3 (s.extract (Int.toNat i) (Int.toNat (IntKind.wrap .i64 (i + n)))) i]), ⟨(by first | omega | (simp only; omega)), (by first | omega | (simp only; omega)), hs, by simp; omega⟩, weak_ren [2] 3 (by kernel_rfl) (blk (by kernel_rfl) trivial) ⟨(by kernel_rfl), (by kernel_rfl), sI ew, trivial⟩, by show s.size - (i + n) < s.size - i; omega⟩
        | cons p ps =>
          set_option smartUnfolding false in conv => whnf
          simp only [List.length_cons] at hpl
          refine ⟨⟨⟨by simp [pvs_len], by simp only [Nat.succ_eq_add_one]; omega⟩, by rw [show ((S.E 0).te 127).bytes = 32 from rfl]; simp only [Nat.succ_eq_add_one]; omega⟩, ?_⟩
          set_option smartUnfolding false in conv => whnf
          exact ⟨(f, i + n, (p :: ps) ++ [tokP 3 (s.extract (Int.toNat i) (Int.toNat (IntKind.wrap .i64 (i + n)))) i]), ⟨(by first | omega | (simp only; omega)), (by first | omega | (simp only; omega)), hs, by simp; omega⟩, weak_ren [2] 3 (by kernel_rfl) (blkR_snoc (by kernel_rfl) trivial) ⟨(by kernel_rfl), by simp only [lsV_snoc]; kernel_rfl, sI ew, trivial⟩, by show s.size - (i + n) < s.size - i; omega⟩
      have k := dF k
      rw [if_neg (fun h => by omega), ← ex] at hs
      refine ⟨⟨(by first | omega | (simp only; omega)), by rw [ew]; omega, by rw [ew]; omega⟩, ?_⟩
      set_option smartUnfolding false in conv => whnf
      refine acall_det (ps := [.str (s.extract (Int.toNat i) (Int.toNat (IntKind.wrap .i64 (i + n))))]) (value_r _ (by rw [ex, ByteArray.size_extract]; omega)) ?_
      set_option smartUnfolding false in conv => whnf
      refine br_intro (fun k3 => ?_) (fun k3 => ?_) <;> set_option smartUnfolding false in conv => whnf
      · rw [if_pos (by simpa using k3)] at hs
        rw [← hs]
        exact rd_err _ _
      rw [if_neg (by simpa using k3)] at hs
      refine ⟨⟨(by first | omega | (simp only; omega)), by rw [ew]; omega, by rw [ew]; omega⟩, ?_⟩
      set_option smartUnfolding false in conv => whnf
      refine ⟨Nat.le_refl 1, ?_⟩
      set_option smartUnfolding false in conv => whnf
      cases ps with
      | nil =>
        set_option smartUnfolding false in conv => whnf
        refine ⟨⟨⟨by decide, by decide⟩, by decide⟩, ?_⟩
        set_option smartUnfolding false in conv => whnf
        exact ⟨(f, i + n, [] ++ [tokP 3 (s.extract (Int.toNat i) (Int.toNat (IntKind.wrap .i64 (i + n)))) i]), ⟨(by first | omega | (simp only; omega)), (by first | omega | (simp only; omega)), hs, by simp; omega⟩, weak_ren [2] 3 (by kernel_rfl) (blk (by kernel_rfl) trivial) ⟨(by kernel_rfl), (by kernel_rfl), sI ew, trivial⟩, by show s.size - (i + n) < s.size - i; omega⟩
      | cons p ps =>
        set_option smartUnfolding false in conv => whnf
        simp only [List.length_cons] at hpl
        refine ⟨⟨⟨by simp [pvs_len], by simp only [Nat.succ_eq_add_one]; omega⟩, by rw [show ((S.E 0).te 127).bytes = 32 from rfl]; simp only [Nat.succ_eq_add_one]; omega⟩, ?_⟩
        set_option smartUnfolding false in conv => whnf
        exact ⟨(f, i + n, (p :: ps) ++ [tokP 3 (s.extract (Int.toNat i) (Int.toNat (IntKind.wrap .i64 (i + n)))) i]), ⟨(by first | omega | (simp only; omega)), (by first | omega | (simp only; omega)), hs, by simp; omega⟩, weak_ren [2] 3 (by kernel_rfl) (blkR_snoc (by kernel_rfl) trivial) ⟨(by kernel_rfl), by simp only [lsV_snoc]; kernel_rfl, sI ew, trivial⟩, by show s.size - (i + n) < s.size - i; omega⟩
  rw [if_neg (by rw [show bDg (bt s i) = false from a3]; simp)] at hs
  have hsz : (s.extract i s.size).size = s.size - i := by rw [ByteArray.size_extract]; omega
  have hle := signR_le (s.extract i s.size) (by omega)
  have hsg := sign_r (s.extract i s.size) (by omega) (by omega)
  obtain ⟨n, hn⟩ : ∃ n : Nat, signR (s.extract i s.size) = n := ⟨_, (Int.toNat_of_nonneg hle.1).symm⟩
  rw [hn] at hs hsg hle
  simp only [Int.toNat_natCast] at hs hle
  refine ⟨⟨(by first | omega | (simp only; omega)), (by first | omega | (simp only; omega))⟩, ?_⟩
  set_option smartUnfolding false in conv => whnf
  refine acall_det (ps := [.str (s.extract i s.size)]) hsg ?_
  set_option smartUnfolding false in conv => whnf
  refine br_intro (fun k => ?_) (fun k => ?_) <;> set_option smartUnfolding false in conv => whnf
  · rw [if_pos (dT k)] at hs
    rw [← hs]
    exact rd_err _ _
  have k := dF k
  have ew : IntKind.wrap .i64 ((i : Int) + n) = ((i + n : Nat) : Int) := by rw [wrapI (by omega) (by omega)]; rfl
  have ex : s.extract (Int.toNat i) (Int.toNat (IntKind.wrap .i64 ((i : Int) + n))) = s.extract i (i + n) := by rw [ew]; rfl
  rw [if_neg k, ← ex] at hs
  refine ⟨⟨(by first | omega | (simp only; omega)), by simp only; rw [ew]; omega, by simp only; rw [ew]; omega⟩, ?_⟩
  set_option smartUnfolding false in conv => whnf
  refine ⟨Nat.le_refl 1, ?_⟩
  set_option smartUnfolding false in conv => whnf
  cases ps with
  | nil =>
    set_option smartUnfolding false in conv => whnf
    refine ⟨⟨⟨by decide, by decide⟩, by decide⟩, ?_⟩
    set_option smartUnfolding false in conv => whnf
    exact ⟨(f, i + n, [] ++ [tokP 5 (s.extract (Int.toNat i) (Int.toNat (IntKind.wrap .i64 (i + n)))) i]), ⟨(by first | omega | (simp only; omega)), (by first | omega | (simp only; omega)), hs, by simp; omega⟩, weak_ren [2] 3 (by kernel_rfl) (blk (by kernel_rfl) trivial) ⟨(by kernel_rfl), (by kernel_rfl), sI ew, trivial⟩, by show s.size - (i + n) < s.size - i; omega⟩
  | cons p ps =>
    set_option smartUnfolding false in conv => whnf
    simp only [List.length_cons] at hpl
    refine ⟨⟨⟨by simp [pvs_len], by simp only [Nat.succ_eq_add_one]; omega⟩, by rw [show ((S.E 0).te 127).bytes = 32 from rfl]; simp only [Nat.succ_eq_add_one]; omega⟩, ?_⟩
    set_option smartUnfolding false in conv => whnf
    exact ⟨(f, i + n, (p :: ps) ++ [tokP 5 (s.extract (Int.toNat i) (Int.toNat (IntKind.wrap .i64 (i + n)))) i]), ⟨(by first | omega | (simp only; omega)), (by first | omega | (simp only; omega)), hs, by simp; omega⟩, weak_ren [2] 3 (by kernel_rfl) (blkR_snoc (by kernel_rfl) trivial) ⟨(by kernel_rfl), by simp only [lsV_snoc]; kernel_rfl, sI ew, trivial⟩, by show s.size - (i + n) < s.size - i; omega⟩
end Go.AM

set_option linter.all false
set_option maxRecDepth 20000
set_option maxHeartbeats 20000000
namespace Go.AM
open Go.Proofs

def nStep (v b : Int) : Int := if 1000001 < digStep v b then 1000001 else digStep v b
def numGo (s : ByteArray) : Nat → Nat → Int → Int
  | 0, _, v => v
  | m + 1, j, v => if bDg (bt s j) = true then numGo s m (j + 1) (nStep v (bt s j)) else v
theorem numGo_zero (s : ByteArray) (j : Nat) (v : Int) : numGo s 0 j v = v := rfl
theorem numGo_succ (s : ByteArray) (m j : Nat) (v : Int) : numGo s (m + 1) j v = if bDg (bt s j) = true then numGo s m (j + 1) (nStep v (bt s j)) else v := rfl
attribute [irreducible] numGo
/-- The token at i: its kind, its text; whether it is in error. -/
def nextS (s : ByteArray) (i : Nat) : Int × ByteArray × Int :=
  if (bSm (bt s i) || bGr (bt s i)) = true then (if bGr (bt s i) = true then 2 else if inL (s.extract i (endOf bPt s (s.size - (i + 1)) (i + 1))) words = true then 4 else 1, s.extract i (endOf bPt s (s.size - (i + 1)) (i + 1)), if i + 24 < endOf bPt s (s.size - (i + 1)) (i + 1) then 9 else 0)
  else if bDg (bt s i) = true then (3, s.extract i (endOf bDg s (s.size - (i + 1)) (i + 1)), if bt s i = 48 ∧ i + 1 < endOf bDg s (s.size - (i + 1)) (i + 1) then 2 else if 1000000 < numGo s (s.size - (i + 1)) (i + 1) (IntKind.wrap .i64 (IntKind.wrap .u8 (bt s i - 48))) then 9 else 0)
  else (5, signT (s.extract i s.size), if ((signT (s.extract i s.size)).toList == (⟨#[]⟩ : ByteArray).toList) = true then 2 else 0)
def nextP (s : ByteArray) (i : Nat) : PV := .tuple [tokP (nextS s i).1 (nextS s i).2.1 i, .int .i64 (nextS s i).2.2]


theorem next_t (s : ByteArray) (i : Nat) (hi : i < s.size) (hz : s.size ≤ 10000) : Det Tryz.prog 145 [.str s, .int .i64 i] (nextP s i) := by
  generalize hR : nextP s i = R
  unfold nextP nextS at hR
  have ew1 : IntKind.wrap .i64 ((i : Int) + 1) = i + 1 := wrapI (by omega) (by omega)
  refine det_of_vct (E := S.E 0) rfl fol Tryz.func145 rfl rfl (cell := (4, 143, 5)) rfl rfl fun hw => ?_
  set_option smartUnfolding false in conv => whnf
  refine ⟨⟨by omega, by omega⟩, ?_⟩
  set_option smartUnfolding false in conv => whnf
  refine acall_det (ps := [.int .u8 (bt s i)]) (sm_t _) ?_
  set_option smartUnfolding false in conv => whnf
  refine br_intro (fun a1 => ?_) (fun a1 => ?_) <;> set_option smartUnfolding false in conv => whnf
  · have hnm : (bSm (bt s i) || bGr (bt s i)) = true := by rw [show bSm (bt s i) = true from a1]; rfl
    rw [if_pos hnm] at hR
    have hE := endOf_le bPt s (s.size - (i + 1)) (i + 1)
    generalize hEd : endOf bPt s (s.size - (i + 1)) (i + 1) = E at hR hE
    refine vloop_intro (σ := Nat) (fun j => i + 1 ≤ j ∧ j ≤ s.size ∧ endOf bPt s (s.size - j) j = E) (fun j => [(0, .pv (.str s)), (1, .pv (.int .i64 i)), (4, .bp 0 0), (6, .pv (.int .u8 (bt s i))), (7, .pv (.int .i64 j)), (8, .bp 1 0)])
      (fun _ => [.box 143 [.pv (.int .i64 0), .pv (.str ⟨#[]⟩), .pv (.int .i64 0)], .box 143 [.pv (.int .i64 0), .pv (.str ⟨#[]⟩), .pv (.int .i64 i)]]) (fun j => s.size - j) (i + 1) ⟨by omega, by omega, hEd⟩ (weak_ren [0, 1] 2 (by kernel_rfl) (blk (by kernel_rfl) (blk (by kernel_rfl) trivial)) ⟨(by kernel_rfl), (by kernel_rfl), (by kernel_rfl), (by kernel_rfl), sI ew1, (by kernel_rfl), trivial⟩) ?_
    rintro j ⟨hj1, hj2, hj⟩
    have ej : IntKind.wrap .i64 ((j : Int) - i) = j - i := wrapI (by omega) (by omega)
    set_option smartUnfolding false in conv => whnf
    refine br_intro (fun h => ?_) (fun h => ?_) <;> set_option smartUnfolding false in conv => whnf
    · have h := dT h
      rw [show s.size - j = (s.size - (j + 1)) + 1 by omega, endOf_succ] at hj
      refine ⟨⟨by omega, by omega⟩, ?_⟩
      set_option smartUnfolding false in conv => whnf
      refine acall_det (ps := [.int .u8 (bt s j)]) (pt_t _) ?_
      set_option smartUnfolding false in conv => whnf
      refine br_intro (fun c => ?_) (fun c => ?_) <;> set_option smartUnfolding false in conv => whnf
      · rw [if_pos (show bPt (bt s j) = true from c)] at hj
        exact ⟨j + 1, ⟨by omega, by omega, hj⟩, weak_sub ⟨(by kernel_rfl), (by kernel_rfl), (by kernel_rfl), (by kernel_rfl), sUp (n := s.size) (by omega) (by omega), (by kernel_rfl), trivial⟩, by show s.size - (j + 1) < s.size - j; omega⟩
      · rw [if_neg (by rw [show bPt (bt s j) = false from c]; simp)] at hj
        subst hj
        refine ⟨⟨by omega, by omega, by omega⟩, ?_⟩
        set_option smartUnfolding false in conv => whnf
        refine acall_det (ps := [.int .u8 (bt s i)]) (gr_t _) ?_
        set_option smartUnfolding false in conv => whnf
        refine br_intro (fun k2 => ?_) (fun k2 => ?_) <;> set_option smartUnfolding false in conv => whnf
        · rw [if_pos (show bGr (bt s i) = true from k2)] at hR
          refine br_intro (fun k => ?_) (fun k => ?_) <;> set_option smartUnfolding false in conv => whnf
          · have k := dT k
            rw [ej] at k
            rw [if_pos (by omega)] at hR
            exact rdP (by rw [← hR]; rfl)
          · have k := dF k
            rw [ej] at k
            rw [if_neg (by omega)] at hR
            exact rdP (by rw [← hR]; rfl)
        rw [if_neg (by rw [show bGr (bt s i) = false from k2]; simp)] at hR
        refine acall_det (ps := [.str (s.extract (Int.toNat i) (Int.toNat j))]) (kw_t _) ?_
        set_option smartUnfolding false in conv => whnf
        refine br_intro (fun k3 => ?_) (fun k3 => ?_) <;> set_option smartUnfolding false in conv => whnf
        · rw [if_pos (show inL (s.extract i j) words = true from k3)] at hR
          refine br_intro (fun k => ?_) (fun k => ?_) <;> set_option smartUnfolding false in conv => whnf
          · have k := dT k
            rw [ej] at k
            rw [if_pos (by omega)] at hR
            exact rdP (by rw [← hR]; rfl)
          · have k := dF k
            rw [ej] at k
            rw [if_neg (by omega)] at hR
            exact rdP (by rw [← hR]; rfl)
        · rw [if_neg (by rw [show inL (s.extract i j) words = false from k3]; simp)] at hR
          refine br_intro (fun k => ?_) (fun k => ?_) <;> set_option smartUnfolding false in conv => whnf
          · have k := dT k
            rw [ej] at k
            rw [if_pos (by omega)] at hR
            exact rdP (by rw [← hR]; rfl)
          · have k := dF k
            rw [ej] at k
            rw [if_neg (by omega)] at hR
            exact rdP (by rw [← hR]; rfl)
    · have h := dF h
      rw [show s.size - j = 0 by omega, endOf_zero] at hj
      subst hj
      refine ⟨⟨by omega, by omega, by omega⟩, ?_⟩
      set_option smartUnfolding false in conv => whnf
      refine acall_det (ps := [.int .u8 (bt s i)]) (gr_t _) ?_
      set_option smartUnfolding false in conv => whnf
      refine br_intro (fun k2 => ?_) (fun k2 => ?_) <;> set_option smartUnfolding false in conv => whnf
      · rw [if_pos (show bGr (bt s i) = true from k2)] at hR
        refine br_intro (fun k => ?_) (fun k => ?_) <;> set_option smartUnfolding false in conv => whnf
        · have k := dT k
          rw [ej] at k
          rw [if_pos (by omega)] at hR
          exact rdP (by rw [← hR]; rfl)
        · have k := dF k
          rw [ej] at k
          rw [if_neg (by omega)] at hR
          exact rdP (by rw [← hR]; rfl)
      rw [if_neg (by rw [show bGr (bt s i) = false from k2]; simp)] at hR
      refine acall_det (ps := [.str (s.extract (Int.toNat i) (Int.toNat j))]) (kw_t _) ?_
      set_option smartUnfolding false in conv => whnf
      refine br_intro (fun k3 => ?_) (fun k3 => ?_) <;> set_option smartUnfolding false in conv => whnf
      · rw [if_pos (show inL (s.extract i j) words = true from k3)] at hR
        refine br_intro (fun k => ?_) (fun k => ?_) <;> set_option smartUnfolding false in conv => whnf
        · have k := dT k
          rw [ej] at k
          rw [if_pos (by omega)] at hR
          exact rdP (by rw [← hR]; rfl)
        · have k := dF k
          rw [ej] at k
          rw [if_neg (by omega)] at hR
          exact rdP (by rw [← hR]; rfl)
      · rw [if_neg (by rw [show inL (s.extract i j) words = false from k3]; simp)] at hR
        refine br_intro (fun k => ?_) (fun k => ?_) <;> set_option smartUnfolding false in conv => whnf
        · have k := dT k
          rw [ej] at k
          rw [if_pos (by omega)] at hR
          exact rdP (by rw [← hR]; rfl)
        · have k := dF k
          rw [ej] at k
          rw [if_neg (by omega)] at hR
          exact rdP (by rw [← hR]; rfl)
  refine acall_det (ps := [.int .u8 (bt s i)]) (gr_t _) ?_
  set_option smartUnfolding false in conv => whnf
  refine br_intro (fun a2 => ?_) (fun a2 => ?_) <;> set_option smartUnfolding false in conv => whnf
  · have hnm : (bSm (bt s i) || bGr (bt s i)) = true := by rw [show bGr (bt s i) = true from a2]; simp
    rw [if_pos hnm] at hR
    have hE := endOf_le bPt s (s.size - (i + 1)) (i + 1)
    generalize hEd : endOf bPt s (s.size - (i + 1)) (i + 1) = E at hR hE
    refine vloop_intro (σ := Nat) (fun j => i + 1 ≤ j ∧ j ≤ s.size ∧ endOf bPt s (s.size - j) j = E) (fun j => [(0, .pv (.str s)), (1, .pv (.int .i64 i)), (4, .bp 0 0), (6, .pv (.int .u8 (bt s i))), (7, .pv (.int .i64 j)), (8, .bp 1 0)])
      (fun _ => [.box 143 [.pv (.int .i64 0), .pv (.str ⟨#[]⟩), .pv (.int .i64 0)], .box 143 [.pv (.int .i64 0), .pv (.str ⟨#[]⟩), .pv (.int .i64 i)]]) (fun j => s.size - j) (i + 1) ⟨by omega, by omega, hEd⟩ (weak_ren [0, 1] 2 (by kernel_rfl) (blk (by kernel_rfl) (blk (by kernel_rfl) trivial)) ⟨(by kernel_rfl), (by kernel_rfl), (by kernel_rfl), (by kernel_rfl), sI ew1, (by kernel_rfl), trivial⟩) ?_
    rintro j ⟨hj1, hj2, hj⟩
    have ej : IntKind.wrap .i64 ((j : Int) - i) = j - i := wrapI (by omega) (by omega)
    set_option smartUnfolding false in conv => whnf
    refine br_intro (fun h => ?_) (fun h => ?_) <;> set_option smartUnfolding false in conv => whnf
    · have h := dT h
      rw [show s.size - j = (s.size - (j + 1)) + 1 by omega, endOf_succ] at hj
      refine ⟨⟨by omega, by omega⟩, ?_⟩
      set_option smartUnfolding false in conv => whnf
      refine acall_det (ps := [.int .u8 (bt s j)]) (pt_t _) ?_
      set_option smartUnfolding false in conv => whnf
      refine br_intro (fun c => ?_) (fun c => ?_) <;> set_option smartUnfolding false in conv => whnf
      · rw [if_pos (show bPt (bt s j) = true from c)] at hj
        exact ⟨j + 1, ⟨by omega, by omega, hj⟩, weak_sub ⟨(by kernel_rfl), (by kernel_rfl), (by kernel_rfl), (by kernel_rfl), sUp (n := s.size) (by omega) (by omega), (by kernel_rfl), trivial⟩, by show s.size - (j + 1) < s.size - j; omega⟩
      · rw [if_neg (by rw [show bPt (bt s j) = false from c]; simp)] at hj
        subst hj
        refine ⟨⟨by omega, by omega, by omega⟩, ?_⟩
        set_option smartUnfolding false in conv => whnf
        refine acall_det (ps := [.int .u8 (bt s i)]) (gr_t _) ?_
        set_option smartUnfolding false in conv => whnf
        refine br_intro (fun k2 => ?_) (fun k2 => ?_) <;> set_option smartUnfolding false in conv => whnf
        · rw [if_pos (show bGr (bt s i) = true from k2)] at hR
          refine br_intro (fun k => ?_) (fun k => ?_) <;> set_option smartUnfolding false in conv => whnf
          · have k := dT k
            rw [ej] at k
            rw [if_pos (by omega)] at hR
            exact rdP (by rw [← hR]; rfl)
          · have k := dF k
            rw [ej] at k
            rw [if_neg (by omega)] at hR
            exact rdP (by rw [← hR]; rfl)
        rw [if_neg (by rw [show bGr (bt s i) = false from k2]; simp)] at hR
        refine acall_det (ps := [.str (s.extract (Int.toNat i) (Int.toNat j))]) (kw_t _) ?_
        set_option smartUnfolding false in conv => whnf
        refine br_intro (fun k3 => ?_) (fun k3 => ?_) <;> set_option smartUnfolding false in conv => whnf
        · rw [if_pos (show inL (s.extract i j) words = true from k3)] at hR
          refine br_intro (fun k => ?_) (fun k => ?_) <;> set_option smartUnfolding false in conv => whnf
          · have k := dT k
            rw [ej] at k
            rw [if_pos (by omega)] at hR
            exact rdP (by rw [← hR]; rfl)
          · have k := dF k
            rw [ej] at k
            rw [if_neg (by omega)] at hR
            exact rdP (by rw [← hR]; rfl)
        · rw [if_neg (by rw [show inL (s.extract i j) words = false from k3]; simp)] at hR
          refine br_intro (fun k => ?_) (fun k => ?_) <;> set_option smartUnfolding false in conv => whnf
          · have k := dT k
            rw [ej] at k
            rw [if_pos (by omega)] at hR
            exact rdP (by rw [← hR]; rfl)
          · have k := dF k
            rw [ej] at k
            rw [if_neg (by omega)] at hR
            exact rdP (by rw [← hR]; rfl)
    · have h := dF h
      rw [show s.size - j = 0 by omega, endOf_zero] at hj
      subst hj
      refine ⟨⟨by omega, by omega, by omega⟩, ?_⟩
      set_option smartUnfolding false in conv => whnf
      refine acall_det (ps := [.int .u8 (bt s i)]) (gr_t _) ?_
      set_option smartUnfolding false in conv => whnf
      refine br_intro (fun k2 => ?_) (fun k2 => ?_) <;> set_option smartUnfolding false in conv => whnf
      · rw [if_pos (show bGr (bt s i) = true from k2)] at hR
        refine br_intro (fun k => ?_) (fun k => ?_) <;> set_option smartUnfolding false in conv => whnf
        · have k := dT k
          rw [ej] at k
          rw [if_pos (by omega)] at hR
          exact rdP (by rw [← hR]; rfl)
        · have k := dF k
          rw [ej] at k
          rw [if_neg (by omega)] at hR
          exact rdP (by rw [← hR]; rfl)
      rw [if_neg (by rw [show bGr (bt s i) = false from k2]; simp)] at hR
      refine acall_det (ps := [.str (s.extract (Int.toNat i) (Int.toNat j))]) (kw_t _) ?_
      set_option smartUnfolding false in conv => whnf
      refine br_intro (fun k3 => ?_) (fun k3 => ?_) <;> set_option smartUnfolding false in conv => whnf
      · rw [if_pos (show inL (s.extract i j) words = true from k3)] at hR
        refine br_intro (fun k => ?_) (fun k => ?_) <;> set_option smartUnfolding false in conv => whnf
        · have k := dT k
          rw [ej] at k
          rw [if_pos (by omega)] at hR
          exact rdP (by rw [← hR]; rfl)
        · have k := dF k
          rw [ej] at k
          rw [if_neg (by omega)] at hR
          exact rdP (by rw [← hR]; rfl)
      · rw [if_neg (by rw [show inL (s.extract i j) words = false from k3]; simp)] at hR
        refine br_intro (fun k => ?_) (fun k => ?_) <;> set_option smartUnfolding false in conv => whnf
        · have k := dT k
          rw [ej] at k
          rw [if_pos (by omega)] at hR
          exact rdP (by rw [← hR]; rfl)
        · have k := dF k
          rw [ej] at k
          rw [if_neg (by omega)] at hR
          exact rdP (by rw [← hR]; rfl)
  rw [if_neg (by rw [show bSm (bt s i) = false from a1, show bGr (bt s i) = false from a2]; simp)] at hR
  refine acall_det (ps := [.int .u8 (bt s i)]) (dg_t _) ?_
  set_option smartUnfolding false in conv => whnf
  refine br_intro (fun a3 => ?_) (fun a3 => ?_) <;> set_option smartUnfolding false in conv => whnf
  · rw [if_pos (show bDg (bt s i) = true from a3)] at hR
    have hE := endOf_le bDg s (s.size - (i + 1)) (i + 1)
    generalize hEd : endOf bDg s (s.size - (i + 1)) (i + 1) = E at hR hE
    generalize hVd : numGo s (s.size - (i + 1)) (i + 1) (IntKind.wrap .i64 (IntKind.wrap .u8 (bt s i - 48))) = Z at hR
    refine vloop_intro (σ := Nat × Int) (fun x => i + 1 ≤ x.1 ∧ x.1 ≤ s.size ∧ endOf bDg s (s.size - x.1) x.1 = E ∧ numGo s (s.size - x.1) x.1 x.2 = Z) (fun x => [(0, .pv (.str s)), (1, .pv (.int .i64 i)), (4, .bp 0 0), (6, .pv (.int .u8 (bt s i))), (7, .pv (.int .i64 x.1)), (8, .bp 1 0), (9, .pv (.int .i64 x.2))])
      (fun _ => [.box 143 [.pv (.int .i64 0), .pv (.str ⟨#[]⟩), .pv (.int .i64 0)], .box 143 [.pv (.int .i64 0), .pv (.str ⟨#[]⟩), .pv (.int .i64 i)]]) (fun x => s.size - x.1) (i + 1, IntKind.wrap .i64 (IntKind.wrap .u8 (bt s i - 48))) ⟨by simp, by simp only; omega, hEd, hVd⟩ (weak_ren [0, 1] 2 (by kernel_rfl) (blk (by kernel_rfl) (blk (by kernel_rfl) trivial)) ⟨(by kernel_rfl), (by kernel_rfl), (by kernel_rfl), (by kernel_rfl), sI ew1, (by kernel_rfl), (by kernel_rfl), trivial⟩) ?_
    rintro ⟨j, v⟩ ⟨hj1, hj2, hj, hv⟩
    simp only at hj1 hj2 hj hv
    have ej : IntKind.wrap .i64 ((j : Int) - i) = j - i := wrapI (by omega) (by omega)
    set_option smartUnfolding false in conv => whnf
    refine br_intro (fun h => ?_) (fun h => ?_) <;> set_option smartUnfolding false in conv => whnf
    · have h := dT h
      simp only at h
      rw [show s.size - j = (s.size - (j + 1)) + 1 by omega, endOf_succ] at hj
      rw [show s.size - j = (s.size - (j + 1)) + 1 by omega, numGo_succ] at hv
      refine ⟨⟨(by first | omega | (simp only; omega)), (by first | omega | (simp only; omega))⟩, ?_⟩
      set_option smartUnfolding false in conv => whnf
      refine acall_det (ps := [.int .u8 (bt s j)]) (dg_t _) ?_
      set_option smartUnfolding false in conv => whnf
      refine br_intro (fun c => ?_) (fun c => ?_) <;> set_option smartUnfolding false in conv => whnf
      · rw [if_pos (show bDg (bt s j) = true from c)] at hj hv
        refine ⟨⟨(by first | omega | (simp only; omega)), (by first | omega | (simp only; omega))⟩, ?_⟩
        set_option smartUnfolding false in conv => whnf
        exact ⟨(j + 1, nStep v (bt s j)), ⟨by simp only; omega, by simp only; omega, hj, hv⟩, weak_sub ⟨(by kernel_rfl), (by kernel_rfl), (by kernel_rfl), (by kernel_rfl), sUp (n := s.size) (by omega) (by omega), (by kernel_rfl), (by kernel_rfl), trivial⟩, by show s.size - (j + 1) < s.size - j; omega⟩
      · rw [if_neg (by rw [show bDg (bt s j) = false from c]; simp)] at hj hv
        subst hj
        subst hv
        refine ⟨⟨(by first | omega | (simp only; omega)), (by first | omega | (simp only; omega)), (by first | omega | (simp only; omega))⟩, ?_⟩
        set_option smartUnfolding false in conv => whnf
        refine br_intro (fun k => ?_) (fun k => ?_) <;> set_option smartUnfolding false in conv => whnf
        · have k : bt s i = 48 := dT k
          refine br_intro (fun k2 => ?_) (fun k2 => ?_) <;> set_option smartUnfolding false in conv => whnf
          · have k2 := dT k2
            rw [ej] at k2
            rw [if_pos ⟨k, by omega⟩] at hR
            exact rdP (by rw [← hR]; rfl)
          have k2 := dF k2
          simp only at k2
          rw [ej] at k2
          rw [if_neg (fun h => by omega)] at hR
          refine br_intro (fun k3 => ?_) (fun k3 => ?_) <;> set_option smartUnfolding false in conv => whnf
          · rw [if_pos (dT k3)] at hR
            exact rdP (by rw [← hR]; rfl)
          · rw [if_neg (dF k3)] at hR
            exact rdP (by rw [← hR]; rfl)
        have k : ¬ bt s i = 48 := dF k
        rw [if_neg (fun h => k h.1)] at hR
        refine br_intro (fun k3 => ?_) (fun k3 => ?_) <;> set_option smartUnfolding false in conv => whnf
        · rw [if_pos (dT k3)] at hR
          exact rdP (by rw [← hR]; rfl)
        · rw [if_neg (dF k3)] at hR
          exact rdP (by rw [← hR]; rfl)
    · have h := dF h
      simp only at h
      rw [show s.size - j = 0 by omega, endOf_zero] at hj
      rw [show s.size - j = 0 by omega, numGo_zero] at hv
      subst hj
      subst hv
      refine ⟨⟨(by first | omega | (simp only; omega)), (by first | omega | (simp only; omega)), (by first | omega | (simp only; omega))⟩, ?_⟩
      set_option smartUnfolding false in conv => whnf
      refine br_intro (fun k => ?_) (fun k => ?_) <;> set_option smartUnfolding false in conv => whnf
      · have k : bt s i = 48 := dT k
        refine br_intro (fun k2 => ?_) (fun k2 => ?_) <;> set_option smartUnfolding false in conv => whnf
        · have k2 := dT k2
          rw [ej] at k2
          rw [if_pos ⟨k, by omega⟩] at hR
          exact rdP (by rw [← hR]; rfl)
        have k2 := dF k2
        simp only at k2
        rw [ej] at k2
        rw [if_neg (fun h => by omega)] at hR
        refine br_intro (fun k3 => ?_) (fun k3 => ?_) <;> set_option smartUnfolding false in conv => whnf
        · rw [if_pos (dT k3)] at hR
          exact rdP (by rw [← hR]; rfl)
        · rw [if_neg (dF k3)] at hR
          exact rdP (by rw [← hR]; rfl)
      have k : ¬ bt s i = 48 := dF k
      rw [if_neg (fun h => k h.1)] at hR
      refine br_intro (fun k3 => ?_) (fun k3 => ?_) <;> set_option smartUnfolding false in conv => whnf
      · rw [if_pos (dT k3)] at hR
        exact rdP (by rw [← hR]; rfl)
      · rw [if_neg (dF k3)] at hR
        exact rdP (by rw [← hR]; rfl)
  rw [if_neg (by rw [show bDg (bt s i) = false from a3]; simp)] at hR
  have hsz : (s.extract i s.size).size = s.size - i := by rw [ByteArray.size_extract]; omega
  refine ⟨⟨by omega, by omega⟩, ?_⟩
  set_option smartUnfolding false in conv => whnf
  refine acall_det (ps := [.str (s.extract i s.size)]) (sign_t _ (by omega) (by omega)) ?_
  set_option smartUnfolding false in conv => whnf
  refine br_intro (fun k => ?_) (fun k => ?_) <;> set_option smartUnfolding false in conv => whnf
  · rw [if_pos k] at hR
    exact rdP (by rw [← hR]; rfl)
  · rw [if_neg (by rw [k]; simp)] at hR
    exact rdP (by rw [← hR]; rfl)
attribute [irreducible] nextS
end Go.AM
