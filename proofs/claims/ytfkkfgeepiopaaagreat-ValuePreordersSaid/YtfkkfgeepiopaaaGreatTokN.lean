import Derived.Test.YtfkkfgeepiopaaaGreatTokR
set_option linter.all false
set_option maxRecDepth 20000
set_option maxHeartbeats 20000000
namespace Go.AM
open Go.Proofs

def nStep (v b : Int) : Int := if 1000001 < digStep v b then 1000001 else digStep v b
def numGo (s : ByteArray) : Nat → Nat → Int → Int
  | 0, _, v => v
  | m + 1, j, v => if bDg (bt s j) = true then numGo s m (j + 1) (nStep v (bt s j)) else v
theorem numGo_zero (s : ByteArray) (j : Nat) (v : Int) : numGo s 0 j v = v := rfl
theorem numGo_succ (s : ByteArray) (m j : Nat) (v : Int) : numGo s (m + 1) j v = if bDg (bt s j) = true then numGo s m (j + 1) (nStep v (bt s j)) else v := rfl
attribute [irreducible] numGo
/-- The token at i: its kind, its text; whether it is in error. -/
def nextS (s : ByteArray) (i : Nat) : Int × ByteArray × Int :=
  if (bSm (bt s i) || bGr (bt s i)) = true then (if bGr (bt s i) = true then 2 else if inL (s.extract i (endOf bPt s (s.size - (i + 1)) (i + 1))) words = true then 4 else 1, s.extract i (endOf bPt s (s.size - (i + 1)) (i + 1)), if i + 24 < endOf bPt s (s.size - (i + 1)) (i + 1) then 9 else 0)
  else if bDg (bt s i) = true then (3, s.extract i (endOf bDg s (s.size - (i + 1)) (i + 1)), if bt s i = 48 ∧ i + 1 < endOf bDg s (s.size - (i + 1)) (i + 1) then 2 else if 1000000 < numGo s (s.size - (i + 1)) (i + 1) (IntKind.wrap .i64 (IntKind.wrap .u8 (bt s i - 48))) then 9 else 0)
  else (5, signT (s.extract i s.size), if ((signT (s.extract i s.size)).toList == (⟨#[]⟩ : ByteArray).toList) = true then 2 else 0)
def nextP (s : ByteArray) (i : Nat) : PV := .tuple [tokP (nextS s i).1 (nextS s i).2.1 i, .int .i64 (nextS s i).2.2]


theorem next_t (s : ByteArray) (i : Nat) (hi : i < s.size) (hz : s.size ≤ 10000) : Det Tryz.prog 94 [.str s, .int .i64 i] (nextP s i) := by
  generalize hR : nextP s i = R
  unfold nextP nextS at hR
  have ew1 : IntKind.wrap .i64 ((i : Int) + 1) = i + 1 := wrapI (by omega) (by omega)
  refine det_of_vct (E := S.E 0) rfl fol Tryz.func94 rfl rfl (cell := (4, 107, 5)) rfl rfl fun hw => ?_
  set_option smartUnfolding false in conv => whnf
  refine ⟨⟨by omega, by omega⟩, ?_⟩
  set_option smartUnfolding false in conv => whnf
  refine acall_det (ps := [.int .u8 (bt s i)]) (sm_t _) ?_
  set_option smartUnfolding false in conv => whnf
  refine br_intro (fun a1 => ?_) (fun a1 => ?_) <;> set_option smartUnfolding false in conv => whnf
  · have hnm : (bSm (bt s i) || bGr (bt s i)) = true := by rw [show bSm (bt s i) = true from a1]; rfl
    rw [if_pos hnm] at hR
    have hE := endOf_le bPt s (s.size - (i + 1)) (i + 1)
    generalize hEd : endOf bPt s (s.size - (i + 1)) (i + 1) = E at hR hE
    refine vloop_intro (σ := Nat) (fun j => i + 1 ≤ j ∧ j ≤ s.size ∧ endOf bPt s (s.size - j) j = E) (fun j => [(0, .pv (.str s)), (1, .pv (.int .i64 i)), (4, .bp 0 0), (6, .pv (.int .u8 (bt s i))), (7, .pv (.int .i64 j)), (8, .bp 1 0)])
      (fun _ => [.box 107 [.pv (.int .i64 0), .pv (.str ⟨#[]⟩), .pv (.int .i64 0)], .box 107 [.pv (.int .i64 0), .pv (.str ⟨#[]⟩), .pv (.int .i64 i)]]) (fun j => s.size - j) (i + 1) ⟨by omega, by omega, hEd⟩ (weak_ren [0, 1] 2 (by kernel_rfl) (blk (by kernel_rfl) (blk (by kernel_rfl) trivial)) ⟨(by kernel_rfl), (by kernel_rfl), (by kernel_rfl), (by kernel_rfl), sI ew1, (by kernel_rfl), trivial⟩) ?_
    rintro j ⟨hj1, hj2, hj⟩
    have ej : IntKind.wrap .i64 ((j : Int) - i) = j - i := wrapI (by omega) (by omega)
    set_option smartUnfolding false in conv => whnf
    refine br_intro (fun h => ?_) (fun h => ?_) <;> set_option smartUnfolding false in conv => whnf
    · have h := dT h
      rw [show s.size - j = (s.size - (j + 1)) + 1 by omega, endOf_succ] at hj
      refine ⟨⟨by omega, by omega⟩, ?_⟩
      set_option smartUnfolding false in conv => whnf
      refine acall_det (ps := [.int .u8 (bt s j)]) (pt_t _) ?_
      set_option smartUnfolding false in conv => whnf
      refine br_intro (fun c => ?_) (fun c => ?_) <;> set_option smartUnfolding false in conv => whnf
      · rw [if_pos (show bPt (bt s j) = true from c)] at hj
        exact ⟨j + 1, ⟨by omega, by omega, hj⟩, weak_sub ⟨(by kernel_rfl), (by kernel_rfl), (by kernel_rfl), (by kernel_rfl), sUp (n := s.size) (by omega) (by omega), (by kernel_rfl), trivial⟩, by show s.size - (j + 1) < s.size - j; omega⟩
      · rw [if_neg (by rw [show bPt (bt s j) = false from c]; simp)] at hj
        subst hj
        refine ⟨⟨by omega, by omega, by omega⟩, ?_⟩
        set_option smartUnfolding false in conv => whnf
        refine acall_det (ps := [.int .u8 (bt s i)]) (gr_t _) ?_
        set_option smartUnfolding false in conv => whnf
        refine br_intro (fun k2 => ?_) (fun k2 => ?_) <;> set_option smartUnfolding false in conv => whnf
        · rw [if_pos (show bGr (bt s i) = true from k2)] at hR
          refine br_intro (fun k => ?_) (fun k => ?_) <;> set_option smartUnfolding false in conv => whnf
          · have k := dT k
            rw [ej] at k
            rw [if_pos (by omega)] at hR
            exact rdP (by rw [← hR]; rfl)
          · have k := dF k
            rw [ej] at k
            rw [if_neg (by omega)] at hR
            exact rdP (by rw [← hR]; rfl)
        rw [if_neg (by rw [show bGr (bt s i) = false from k2]; simp)] at hR
        refine acall_det (ps := [.str (s.extract (Int.toNat i) (Int.toNat j))]) (kw_t _) ?_
        set_option smartUnfolding false in conv => whnf
        refine br_intro (fun k3 => ?_) (fun k3 => ?_) <;> set_option smartUnfolding false in conv => whnf
        · rw [if_pos (show inL (s.extract i j) words = true from k3)] at hR
          refine br_intro (fun k => ?_) (fun k => ?_) <;> set_option smartUnfolding false in conv => whnf
          · have k := dT k
            rw [ej] at k
            rw [if_pos (by omega)] at hR
            exact rdP (by rw [← hR]; rfl)
          · have k := dF k
            rw [ej] at k
            rw [if_neg (by omega)] at hR
            exact rdP (by rw [← hR]; rfl)
        · rw [if_neg (by rw [show inL (s.extract i j) words = false from k3]; simp)] at hR
          refine br_intro (fun k => ?_) (fun k => ?_) <;> set_option smartUnfolding false in conv => whnf
          · have k := dT k
            rw [ej] at k
            rw [if_pos (by omega)] at hR
            exact rdP (by rw [← hR]; rfl)
          · have k := dF k
            rw [ej] at k
            rw [if_neg (by omega)] at hR
            exact rdP (by rw [← hR]; rfl)
    · have h := dF h
      rw [show s.size - j = 0 by omega, endOf_zero] at hj
      subst hj
      refine ⟨⟨by omega, by omega, by omega⟩, ?_⟩
      set_option smartUnfolding false in conv => whnf
      refine acall_det (ps := [.int .u8 (bt s i)]) (gr_t _) ?_
      set_option smartUnfolding false in conv => whnf
      refine br_intro (fun k2 => ?_) (fun k2 => ?_) <;> set_option smartUnfolding false in conv => whnf
      · rw [if_pos (show bGr (bt s i) = true from k2)] at hR
        refine br_intro (fun k => ?_) (fun k => ?_) <;> set_option smartUnfolding false in conv => whnf
        · have k := dT k
          rw [ej] at k
          rw [if_pos (by omega)] at hR
          exact rdP (by rw [← hR]; rfl)
        · have k := dF k
          rw [ej] at k
          rw [if_neg (by omega)] at hR
          exact rdP (by rw [← hR]; rfl)
      rw [if_neg (by rw [show bGr (bt s i) = false from k2]; simp)] at hR
      refine acall_det (ps := [.str (s.extract (Int.toNat i) (Int.toNat j))]) (kw_t _) ?_
      set_option smartUnfolding false in conv => whnf
      refine br_intro (fun k3 => ?_) (fun k3 => ?_) <;> set_option smartUnfolding false in conv => whnf
      · rw [if_pos (show inL (s.extract i j) words = true from k3)] at hR
        refine br_intro (fun k => ?_) (fun k => ?_) <;> set_option smartUnfolding false in conv => whnf
        · have k := dT k
          rw [ej] at k
          rw [if_pos (by omega)] at hR
          exact rdP (by rw [← hR]; rfl)
        · have k := dF k
          rw [ej] at k
          rw [if_neg (by omega)] at hR
          exact rdP (by rw [← hR]; rfl)
      · rw [if_neg (by rw [show inL (s.extract i j) words = false from k3]; simp)] at hR
        refine br_intro (fun k => ?_) (fun k => ?_) <;> set_option smartUnfolding false in conv => whnf
        · have k := dT k
          rw [ej] at k
          rw [if_pos (by omega)] at hR
          exact rdP (by rw [← hR]; rfl)
        · have k := dF k
          rw [ej] at k
          rw [if_neg (by omega)] at hR
          exact rdP (by rw [← hR]; rfl)
  refine acall_det (ps := [.int .u8 (bt s i)]) (gr_t _) ?_
  set_option smartUnfolding false in conv => whnf
  refine br_intro (fun a2 => ?_) (fun a2 => ?_) <;> set_option smartUnfolding false in conv => whnf
  · have hnm : (bSm (bt s i) || bGr (bt s i)) = true := by rw [show bGr (bt s i) = true from a2]; simp
    rw [if_pos hnm] at hR
    have hE := endOf_le bPt s (s.size - (i + 1)) (i + 1)
    generalize hEd : endOf bPt s (s.size - (i + 1)) (i + 1) = E at hR hE
    refine vloop_intro (σ := Nat) (fun j => i + 1 ≤ j ∧ j ≤ s.size ∧ endOf bPt s (s.size - j) j = E) (fun j => [(0, .pv (.str s)), (1, .pv (.int .i64 i)), (4, .bp 0 0), (6, .pv (.int .u8 (bt s i))), (7, .pv (.int .i64 j)), (8, .bp 1 0)])
      (fun _ => [.box 107 [.pv (.int .i64 0), .pv (.str ⟨#[]⟩), .pv (.int .i64 0)], .box 107 [.pv (.int .i64 0), .pv (.str ⟨#[]⟩), .pv (.int .i64 i)]]) (fun j => s.size - j) (i + 1) ⟨by omega, by omega, hEd⟩ (weak_ren [0, 1] 2 (by kernel_rfl) (blk (by kernel_rfl) (blk (by kernel_rfl) trivial)) ⟨(by kernel_rfl), (by kernel_rfl), (by kernel_rfl), (by kernel_rfl), sI ew1, (by kernel_rfl), trivial⟩) ?_
    rintro j ⟨hj1, hj2, hj⟩
    have ej : IntKind.wrap .i64 ((j : Int) - i) = j - i := wrapI (by omega) (by omega)
    set_option smartUnfolding false in conv => whnf
    refine br_intro (fun h => ?_) (fun h => ?_) <;> set_option smartUnfolding false in conv => whnf
    · have h := dT h
      rw [show s.size - j = (s.size - (j + 1)) + 1 by omega, endOf_succ] at hj
      refine ⟨⟨by omega, by omega⟩, ?_⟩
      set_option smartUnfolding false in conv => whnf
      refine acall_det (ps := [.int .u8 (bt s j)]) (pt_t _) ?_
      set_option smartUnfolding false in conv => whnf
      refine br_intro (fun c => ?_) (fun c => ?_) <;> set_option smartUnfolding false in conv => whnf
      · rw [if_pos (show bPt (bt s j) = true from c)] at hj
        exact ⟨j + 1, ⟨by omega, by omega, hj⟩, weak_sub ⟨(by kernel_rfl), (by kernel_rfl), (by kernel_rfl), (by kernel_rfl), sUp (n := s.size) (by omega) (by omega), (by kernel_rfl), trivial⟩, by show s.size - (j + 1) < s.size - j; omega⟩
      · rw [if_neg (by rw [show bPt (bt s j) = false from c]; simp)] at hj
        subst hj
        refine ⟨⟨by omega, by omega, by omega⟩, ?_⟩
        set_option smartUnfolding false in conv => whnf
        refine acall_det (ps := [.int .u8 (bt s i)]) (gr_t _) ?_
        set_option smartUnfolding false in conv => whnf
        refine br_intro (fun k2 => ?_) (fun k2 => ?_) <;> set_option smartUnfolding false in conv => whnf
        · rw [if_pos (show bGr (bt s i) = true from k2)] at hR
          refine br_intro (fun k => ?_) (fun k => ?_) <;> set_option smartUnfolding false in conv => whnf
          · have k := dT k
            rw [ej] at k
            rw [if_pos (by omega)] at hR
            exact rdP (by rw [← hR]; rfl)
          · have k := dF k
            rw [ej] at k
            rw [if_neg (by omega)] at hR
            exact rdP (by rw [← hR]; rfl)
        rw [if_neg (by rw [show bGr (bt s i) = false from k2]; simp)] at hR
        refine acall_det (ps := [.str (s.extract (Int.toNat i) (Int.toNat j))]) (kw_t _) ?_
        set_option smartUnfolding false in conv => whnf
        refine br_intro (fun k3 => ?_) (fun k3 => ?_) <;> set_option smartUnfolding false in conv => whnf
        · rw [if_pos (show inL (s.extract i j) words = true from k3)] at hR
          refine br_intro (fun k => ?_) (fun k => ?_) <;> set_option smartUnfolding false in conv => whnf
          · have k := dT k
            rw [ej] at k
            rw [if_pos (by omega)] at hR
            exact rdP (by rw [← hR]; rfl)
          · have k := dF k
            rw [ej] at k
            rw [if_neg (by omega)] at hR
            exact rdP (by rw [← hR]; rfl)
        · rw [if_neg (by rw [show inL (s.extract i j) words = false from k3]; simp)] at hR
          refine br_intro (fun k => ?_) (fun k => ?_) <;> set_option smartUnfolding false in conv => whnf
          · have k := dT k
            rw [ej] at k
            rw [if_pos (by omega)] at hR
            exact rdP (by rw [← hR]; rfl)
          · have k := dF k
            rw [ej] at k
            rw [if_neg (by omega)] at hR
            exact rdP (by rw [← hR]; rfl)
    · have h := dF h
      rw [show s.size - j = 0 by omega, endOf_zero] at hj
      subst hj
      refine ⟨⟨by omega, by omega, by omega⟩, ?_⟩
      set_option smartUnfolding false in conv => whnf
      refine acall_det (ps := [.int .u8 (bt s i)]) (gr_t _) ?_
      set_option smartUnfolding false in conv => whnf
      refine br_intro (fun k2 => ?_) (fun k2 => ?_) <;> set_option smartUnfolding false in conv => whnf
      · rw [if_pos (show bGr (bt s i) = true from k2)] at hR
        refine br_intro (fun k => ?_) (fun k => ?_) <;> set_option smartUnfolding false in conv => whnf
        · have k := dT k
          rw [ej] at k
          rw [if_pos (by omega)] at hR
          exact rdP (by rw [← hR]; rfl)
        · have k := dF k
          rw [ej] at k
          rw [if_neg (by omega)] at hR
          exact rdP (by rw [← hR]; rfl)
      rw [if_neg (by rw [show bGr (bt s i) = false from k2]; simp)] at hR
      refine acall_det (ps := [.str (s.extract (Int.toNat i) (Int.toNat j))]) (kw_t _) ?_
      set_option smartUnfolding false in conv => whnf
      refine br_intro (fun k3 => ?_) (fun k3 => ?_) <;> set_option smartUnfolding false in conv => whnf
      · rw [if_pos (show inL (s.extract i j) words = true from k3)] at hR
        refine br_intro (fun k => ?_) (fun k => ?_) <;> set_option smartUnfolding false in conv => whnf
        · have k := dT k
          rw [ej] at k
          rw [if_pos (by omega)] at hR
          exact rdP (by rw [← hR]; rfl)
        · have k := dF k
          rw [ej] at k
          rw [if_neg (by omega)] at hR
          exact rdP (by rw [← hR]; rfl)
      · rw [if_neg (by rw [show inL (s.extract i j) words = false from k3]; simp)] at hR
        refine br_intro (fun k => ?_) (fun k => ?_) <;> set_option smartUnfolding false in conv => whnf
        · have k := dT k
          rw [ej] at k
          rw [if_pos (by omega)] at hR
          exact rdP (by rw [← hR]; rfl)
        · have k := dF k
          rw [ej] at k
          rw [if_neg (by omega)] at hR
          exact rdP (by rw [← hR]; rfl)
  rw [if_neg (by rw [show bSm (bt s i) = false from a1, show bGr (bt s i) = false from a2]; simp)] at hR
  refine acall_det (ps := [.int .u8 (bt s i)]) (dg_t _) ?_
  set_option smartUnfolding false in conv => whnf
  refine br_intro (fun a3 => ?_) (fun a3 => ?_) <;> set_option smartUnfolding false in conv => whnf
  · rw [if_pos (show bDg (bt s i) = true from a3)] at hR
    have hE := endOf_le bDg s (s.size - (i + 1)) (i + 1)
    generalize hEd : endOf bDg s (s.size - (i + 1)) (i + 1) = E at hR hE
    generalize hVd : numGo s (s.size - (i + 1)) (i + 1) (IntKind.wrap .i64 (IntKind.wrap .u8 (bt s i - 48))) = Z at hR
    refine vloop_intro (σ := Nat × Int) (fun x => i + 1 ≤ x.1 ∧ x.1 ≤ s.size ∧ endOf bDg s (s.size - x.1) x.1 = E ∧ numGo s (s.size - x.1) x.1 x.2 = Z) (fun x => [(0, .pv (.str s)), (1, .pv (.int .i64 i)), (4, .bp 0 0), (6, .pv (.int .u8 (bt s i))), (7, .pv (.int .i64 x.1)), (8, .bp 1 0), (9, .pv (.int .i64 x.2))])
      (fun _ => [.box 107 [.pv (.int .i64 0), .pv (.str ⟨#[]⟩), .pv (.int .i64 0)], .box 107 [.pv (.int .i64 0), .pv (.str ⟨#[]⟩), .pv (.int .i64 i)]]) (fun x => s.size - x.1) (i + 1, IntKind.wrap .i64 (IntKind.wrap .u8 (bt s i - 48))) ⟨by simp, by simp only; omega, hEd, hVd⟩ (weak_ren [0, 1] 2 (by kernel_rfl) (blk (by kernel_rfl) (blk (by kernel_rfl) trivial)) ⟨(by kernel_rfl), (by kernel_rfl), (by kernel_rfl), (by kernel_rfl), sI ew1, (by kernel_rfl), (by kernel_rfl), trivial⟩) ?_
    rintro ⟨j, v⟩ ⟨hj1, hj2, hj, hv⟩
    simp only at hj1 hj2 hj hv
    have ej : IntKind.wrap .i64 ((j : Int) - i) = j - i := wrapI (by omega) (by omega)
    set_option smartUnfolding false in conv => whnf
    refine br_intro (fun h => ?_) (fun h => ?_) <;> set_option smartUnfolding false in conv => whnf
    · have h := dT h
      simp only at h
      rw [show s.size - j = (s.size - (j + 1)) + 1 by omega, endOf_succ] at hj
      rw [show s.size - j = (s.size - (j + 1)) + 1 by omega, numGo_succ] at hv
      refine ⟨⟨(by first | omega | (simp only; omega)), (by first | omega | (simp only; omega))⟩, ?_⟩
      set_option smartUnfolding false in conv => whnf
      refine acall_det (ps := [.int .u8 (bt s j)]) (dg_t _) ?_
      set_option smartUnfolding false in conv => whnf
      refine br_intro (fun c => ?_) (fun c => ?_) <;> set_option smartUnfolding false in conv => whnf
      · rw [if_pos (show bDg (bt s j) = true from c)] at hj hv
        refine ⟨⟨(by first | omega | (simp only; omega)), (by first | omega | (simp only; omega))⟩, ?_⟩
        set_option smartUnfolding false in conv => whnf
        exact ⟨(j + 1, nStep v (bt s j)), ⟨by simp only; omega, by simp only; omega, hj, hv⟩, weak_sub ⟨(by kernel_rfl), (by kernel_rfl), (by kernel_rfl), (by kernel_rfl), sUp (n := s.size) (by omega) (by omega), (by kernel_rfl), (by kernel_rfl), trivial⟩, by show s.size - (j + 1) < s.size - j; omega⟩
      · rw [if_neg (by rw [show bDg (bt s j) = false from c]; simp)] at hj hv
        subst hj
        subst hv
        refine ⟨⟨(by first | omega | (simp only; omega)), (by first | omega | (simp only; omega)), (by first | omega | (simp only; omega))⟩, ?_⟩
        set_option smartUnfolding false in conv => whnf
        refine br_intro (fun k => ?_) (fun k => ?_) <;> set_option smartUnfolding false in conv => whnf
        · have k : bt s i = 48 := dT k
          refine br_intro (fun k2 => ?_) (fun k2 => ?_) <;> set_option smartUnfolding false in conv => whnf
          · have k2 := dT k2
            rw [ej] at k2
            rw [if_pos ⟨k, by omega⟩] at hR
            exact rdP (by rw [← hR]; rfl)
          have k2 := dF k2
          simp only at k2
          rw [ej] at k2
          rw [if_neg (fun h => by omega)] at hR
          refine br_intro (fun k3 => ?_) (fun k3 => ?_) <;> set_option smartUnfolding false in conv => whnf
          · rw [if_pos (dT k3)] at hR
            exact rdP (by rw [← hR]; rfl)
          · rw [if_neg (dF k3)] at hR
            exact rdP (by rw [← hR]; rfl)
        have k : ¬ bt s i = 48 := dF k
        rw [if_neg (fun h => k h.1)] at hR
        refine br_intro (fun k3 => ?_) (fun k3 => ?_) <;> set_option smartUnfolding false in conv => whnf
        · rw [if_pos (dT k3)] at hR
          exact rdP (by rw [← hR]; rfl)
        · rw [if_neg (dF k3)] at hR
          exact rdP (by rw [← hR]; rfl)
    · have h := dF h
      simp only at h
      rw [show s.size - j = 0 by omega, endOf_zero] at hj
      rw [show s.size - j = 0 by omega, numGo_zero] at hv
      subst hj
      subst hv
      refine ⟨⟨(by first | omega | (simp only; omega)), (by first | omega | (simp only; omega)), (by first | omega | (simp only; omega))⟩, ?_⟩
      set_option smartUnfolding false in conv => whnf
      refine br_intro (fun k => ?_) (fun k => ?_) <;> set_option smartUnfolding false in conv => whnf
      · have k : bt s i = 48 := dT k
        refine br_intro (fun k2 => ?_) (fun k2 => ?_) <;> set_option smartUnfolding false in conv => whnf
        · have k2 := dT k2
          rw [ej] at k2
          rw [if_pos ⟨k, by omega⟩] at hR
          exact rdP (by rw [← hR]; rfl)
        have k2 := dF k2
        simp only at k2
        rw [ej] at k2
        rw [if_neg (fun h => by omega)] at hR
        refine br_intro (fun k3 => ?_) (fun k3 => ?_) <;> set_option smartUnfolding false in conv => whnf
        · rw [if_pos (dT k3)] at hR
          exact rdP (by rw [← hR]; rfl)
        · rw [if_neg (dF k3)] at hR
          exact rdP (by rw [← hR]; rfl)
      have k : ¬ bt s i = 48 := dF k
      rw [if_neg (fun h => k h.1)] at hR
      refine br_intro (fun k3 => ?_) (fun k3 => ?_) <;> set_option smartUnfolding false in conv => whnf
      · rw [if_pos (dT k3)] at hR
        exact rdP (by rw [← hR]; rfl)
      · rw [if_neg (dF k3)] at hR
        exact rdP (by rw [← hR]; rfl)
  rw [if_neg (by rw [show bDg (bt s i) = false from a3]; simp)] at hR
  have hsz : (s.extract i s.size).size = s.size - i := by rw [ByteArray.size_extract]; omega
  refine ⟨⟨by omega, by omega⟩, ?_⟩
  set_option smartUnfolding false in conv => whnf
  refine acall_det (ps := [.str (s.extract i s.size)]) (sign_t _ (by omega) (by omega)) ?_
  set_option smartUnfolding false in conv => whnf
  refine br_intro (fun k => ?_) (fun k => ?_) <;> set_option smartUnfolding false in conv => whnf
  · rw [if_pos k] at hR
    exact rdP (by rw [← hR]; rfl)
  · rw [if_neg (by rw [k]; simp)] at hR
    exact rdP (by rw [← hR]; rfl)
attribute [irreducible] nextS
end Go.AM
