import Derived.Test.YtfkkfgeepiopaaaGreatTokN
set_option linter.all false
set_option maxRecDepth 20000
set_option maxHeartbeats 20000000
namespace Go.AM
open Go.Proofs

theorem signT_size (s : ByteArray) (h : 0 < s.size) : (signT s).size ≤ s.size := by
  unfold signT
  split
  · rw [ByteArray.size_extract]; omega
  · split
    · rw [ByteArray.size_extract]; omega
    · exact Nat.zero_le _
theorem ba_nil {b : ByteArray} (h : b.size = 0) : (b.toList == (⟨#[]⟩ : ByteArray).toList) = true := by
  have : b = ⟨#[]⟩ := by
    obtain ⟨a⟩ := b
    simp only [ByteArray.size] at h
    rw [Array.eq_empty_of_size_eq_zero h]
  rw [this]; simp
theorem nextS_ok (s : ByteArray) (i : Nat) (hi : i < s.size) (h : (nextS s i).2.2 = 0) : 1 ≤ (nextS s i).2.1.size ∧ i + (nextS s i).2.1.size ≤ s.size := by
  unfold nextS at h ⊢
  split
  · have := endOf_le bPt s (s.size - (i + 1)) (i + 1)
    simp only
    rw [ByteArray.size_extract]; omega
  · rename_i hn
    rw [if_neg hn] at h
    split
    · have := endOf_le bDg s (s.size - (i + 1)) (i + 1)
      simp only
      rw [ByteArray.size_extract]; omega
    · rename_i hd
      rw [if_neg hd] at h
      simp only at h ⊢
      have hsz : (s.extract i s.size).size = s.size - i := by rw [ByteArray.size_extract]; omega
      have := signT_size (s.extract i s.size) (by omega)
      refine ⟨?_, by omega⟩
      rcases Nat.eq_zero_or_pos (signT (s.extract i s.size)).size with h0 | h0
      · rw [if_pos (ba_nil h0)] at h; omega
      · exact h0

/-- The program's tokens, from i on. -/
def splitT (s : ByteArray) : Nat → Nat → List PV → PV
  | 0, _, ps => finP s ps
  | f + 1, i, ps =>
    if s.size ≤ i then finP s ps
    else if bt s i = 9 ∨ bt s i = 10 ∨ bt s i = 13 ∨ bt s i = 32 then splitT s f (i + 1) ps
    else if bt s i = 35 then splitT s f (endOf bLine s (s.size - i) i) ps
    else if (nextS s i).2.2 = 0 then splitT s f (i + (nextS s i).2.1.size) (ps ++ [tokP (nextS s i).1 (nextS s i).2.1 i])
    else errP i (nextS s i).2.2
theorem splitT_succ (s : ByteArray) (f i : Nat) (ps : List PV) : splitT s (f + 1) i ps =
    if s.size ≤ i then finP s ps
    else if bt s i = 9 ∨ bt s i = 10 ∨ bt s i = 13 ∨ bt s i = 32 then splitT s f (i + 1) ps
    else if bt s i = 35 then splitT s f (endOf bLine s (s.size - i) i) ps
    else if (nextS s i).2.2 = 0 then splitT s f (i + (nextS s i).2.1.size) (ps ++ [tokP (nextS s i).1 (nextS s i).2.1 i])
    else errP i (nextS s i).2.2 := rfl
theorem splitT_end (s : ByteArray) (f i : Nat) (ps : List PV) (h : s.size ≤ i) : splitT s f i ps = finP s ps := by
  cases f with
  | zero => rfl
  | succ f => rw [splitT_succ, if_pos h]
attribute [irreducible] splitT

theorem split_t (s : ByteArray) (hz : s.size ≤ 10000) : Det Tryz.prog 80 [.str s] (splitT s s.size 0 []) := by
  generalize hR : splitT s s.size 0 [] = R
  refine det_of_vc' (E := S.E 0) rfl fol Tryz.func80 rfl rfl (slots := [2, 3, 4]) rfl rfl fun hw => ?_
  set_option smartUnfolding false in conv => whnf
  apply br_intro <;> intro h0
  · have := dT h0; omega
  set_option smartUnfolding false in conv => whnf
  refine vloop_intro (σ := Nat × Nat × List PV) (fun x => x.2.1 ≤ s.size ∧ s.size - x.2.1 ≤ x.1 ∧ splitT s x.1 x.2.1 x.2.2 = R ∧ x.2.2.length ≤ x.2.1) (fun x => [(0, .pv (.str s)), (5, lsV 0 x.2.2), (6, .pv (.int .i64 x.2.1))])
    (fun x => [lsB 107 3 x.2.2]) (fun x => s.size - x.2.1) (s.size, 0, []) ⟨by simp, by simp, hR, by simp⟩ (weak_ren [0] 1 (by kernel_rfl) (blkD trivial) ⟨(by kernel_rfl), (by kernel_rfl), (by kernel_rfl), trivial⟩) ?_
  rintro ⟨f, i, ps⟩ ⟨hi, hf, hs, hpl⟩
  simp only at hi hf hs hpl
  set_option smartUnfolding false in conv => whnf
  refine br_intro (fun h => ?_) (fun h => ?_) <;> set_option smartUnfolding false in conv => whnf
  rotate_left
  · replace h : s.size ≤ i := by have := dF h; simp only at this; omega
    rw [splitT_end s f i ps h] at hs
    refine ⟨Nat.le_refl 1, ?_⟩
    set_option smartUnfolding false in conv => whnf
    rw [← hs]
    cases ps with
    | nil =>
      set_option smartUnfolding false in conv => whnf
      refine ⟨⟨⟨by decide, by decide⟩, by decide⟩, ?_⟩
      set_option smartUnfolding false in conv => whnf
      exact .tup (.cons (rd_lsE (k := 2) (l := [] ++ [tokP 6 ⟨#[]⟩ s.size]) (t := 107) rfl rfl trivial rfl) (.cons (.pv _) (.cons (.pv _) .nil)))
    | cons p ps =>
      set_option smartUnfolding false in conv => whnf
      simp only [List.length_cons] at hpl
      refine ⟨⟨⟨by simp [pvs_len], by simp only [Nat.succ_eq_add_one]; omega⟩, by rw [show ((S.E 0).te 107).bytes = 32 from rfl]; simp only [Nat.succ_eq_add_one]; omega⟩, ?_⟩
      set_option smartUnfolding false in conv => whnf
      exact .tup (.cons (rd_lsE (k := 2) (l := (p :: ps) ++ [tokP 6 ⟨#[]⟩ s.size]) (t := 107) rfl (by simp only [lsV_snoc]; rfl) trivial (by rw [lsB_snoc]; rfl)) (.cons (.pv _) (.cons (.pv _) .nil)))
  replace h : i < s.size := by have := dT h; simp only at this; omega
  obtain ⟨f, rfl⟩ : ∃ f', f = f' + 1 := ⟨f - 1, by omega⟩
  rw [splitT_succ, if_neg (by omega)] at hs
  refine ⟨⟨(by first | omega | (simp only; omega)), (by first | omega | (simp only; omega))⟩, ?_⟩
  set_option smartUnfolding false in conv => whnf
  have ew1 : IntKind.wrap .i64 ((i : Int) + 1) = i + 1 := wrapI (by omega) (by omega)
  refine br_intro (fun g1 => ?_) (fun g1 => ?_) <;> set_option smartUnfolding false in conv => whnf
  · rw [if_pos (.inl (show bt s i = 9 from dT g1))] at hs
    exact ⟨(f, i + 1, ps), ⟨(by first | omega | (simp only; omega)), (by first | omega | (simp only; omega)), hs, (by first | omega | (simp only; omega))⟩, weak_ren [0] 1 (by kernel_rfl) (blkR_ls (by kernel_rfl) trivial) ⟨(by kernel_rfl), sLs (by kernel_rfl), sI ew1, trivial⟩, by show s.size - (i + 1) < s.size - i; omega⟩
  have g1 : ¬ bt s i = 9 := dF g1
  refine br_intro (fun g2 => ?_) (fun g2 => ?_) <;> set_option smartUnfolding false in conv => whnf
  · rw [if_pos (.inr (.inl (show bt s i = 10 from dT g2)))] at hs
    exact ⟨(f, i + 1, ps), ⟨(by first | omega | (simp only; omega)), (by first | omega | (simp only; omega)), hs, (by first | omega | (simp only; omega))⟩, weak_ren [0] 1 (by kernel_rfl) (blkR_ls (by kernel_rfl) trivial) ⟨(by kernel_rfl), sLs (by kernel_rfl), sI ew1, trivial⟩, by show s.size - (i + 1) < s.size - i; omega⟩
  have g2 : ¬ bt s i = 10 := dF g2
  refine br_intro (fun g3 => ?_) (fun g3 => ?_) <;> set_option smartUnfolding false in conv => whnf
  · rw [if_pos (.inr (.inr (.inl (show bt s i = 13 from dT g3))))] at hs
    exact ⟨(f, i + 1, ps), ⟨(by first | omega | (simp only; omega)), (by first | omega | (simp only; omega)), hs, (by first | omega | (simp only; omega))⟩, weak_ren [0] 1 (by kernel_rfl) (blkR_ls (by kernel_rfl) trivial) ⟨(by kernel_rfl), sLs (by kernel_rfl), sI ew1, trivial⟩, by show s.size - (i + 1) < s.size - i; omega⟩
  have g3 : ¬ bt s i = 13 := dF g3
  refine br_intro (fun g4 => ?_) (fun g4 => ?_) <;> set_option smartUnfolding false in conv => whnf
  · rw [if_pos (.inr (.inr (.inr (show bt s i = 32 from dT g4))))] at hs
    exact ⟨(f, i + 1, ps), ⟨(by first | omega | (simp only; omega)), (by first | omega | (simp only; omega)), hs, (by first | omega | (simp only; omega))⟩, weak_ren [0] 1 (by kernel_rfl) (blkR_ls (by kernel_rfl) trivial) ⟨(by kernel_rfl), sLs (by kernel_rfl), sI ew1, trivial⟩, by show s.size - (i + 1) < s.size - i; omega⟩
  have g4 : ¬ bt s i = 32 := dF g4
  rw [if_neg (by rintro (h | h | h | h) <;> contradiction)] at hs
  refine br_intro (fun g5 => ?_) (fun g5 => ?_) <;> set_option smartUnfolding false in conv => whnf
  · -- a comment
    have g5 : bt s i = 35 := dT g5
    rw [if_pos g5] at hs
    have hE := endOf_le bLine s (s.size - i) i
    have hE1 : i + 1 ≤ endOf bLine s (s.size - i) i := by
      rw [show s.size - i = (s.size - (i + 1)) + 1 by omega, endOf_succ, if_pos (by rw [g5]; rfl)]
      exact (endOf_le bLine s _ _).1
    generalize hEd : endOf bLine s (s.size - i) i = E at hs hE hE1
    refine vloop_intro (σ := Nat) (fun j => i ≤ j ∧ j ≤ s.size ∧ endOf bLine s (s.size - j) j = E) (fun j => [(0, .pv (.str s)), (5, lsV 0 ps), (6, .pv (.int .i64 j))])
      (fun _ => [lsB 107 3 ps]) (fun j => s.size - j) i ⟨by omega, by omega, hEd⟩ (weak_ren [0] 1 (by kernel_rfl) (blkR_ls (by kernel_rfl) trivial) ⟨(by kernel_rfl), sLs (by kernel_rfl), (by kernel_rfl), trivial⟩) ?_
    rintro j ⟨hj1, hj2, hj⟩
    set_option smartUnfolding false in conv => whnf
    refine br_intro (fun h => ?_) (fun h => ?_) <;> set_option smartUnfolding false in conv => whnf
    · have h := dT h
      rw [show s.size - j = (s.size - (j + 1)) + 1 by omega, endOf_succ] at hj
      refine ⟨⟨by omega, by omega⟩, ?_⟩
      set_option smartUnfolding false in conv => whnf
      refine br_intro (fun k => ?_) (fun k => ?_) <;> set_option smartUnfolding false in conv => whnf
      · have k : bt s j = 10 := dT k
        rw [if_neg (by rw [k]; decide)] at hj
        subst hj
        exact ⟨(f, j, ps), ⟨(by first | omega | (simp only; omega)), (by first | omega | (simp only; omega)), hs, (by first | omega | (simp only; omega))⟩, weak_ren [0] 1 (by kernel_rfl) (blkR_ls (by kernel_rfl) trivial) ⟨(by kernel_rfl), sLs (by kernel_rfl), (by kernel_rfl), trivial⟩, by show s.size - j < s.size - i; omega⟩
      · have k : ¬ bt s j = 10 := dF k
        rw [if_pos (by unfold bLine; rw [decide_eq_false k]; rfl)] at hj
        exact ⟨j + 1, ⟨by omega, by omega, hj⟩, weak_ren [0] 1 (by kernel_rfl) (blkR_ls (by kernel_rfl) trivial) ⟨(by kernel_rfl), sLs (by kernel_rfl), sUp (n := s.size) (by omega) (by omega), trivial⟩, by show s.size - (j + 1) < s.size - j; omega⟩
    · have h := dF h
      rw [show s.size - j = 0 by omega, endOf_zero] at hj
      subst hj
      rw [splitT_end s f j ps (by omega)] at hs
      refine ⟨Nat.le_refl 1, ?_⟩
      set_option smartUnfolding false in conv => whnf
      rw [← hs]
      cases ps with
      | nil =>
        set_option smartUnfolding false in conv => whnf
        refine ⟨⟨⟨by decide, by decide⟩, by decide⟩, ?_⟩
        set_option smartUnfolding false in conv => whnf
        exact .tup (.cons (rd_lsE (k := 2) (l := [] ++ [tokP 6 ⟨#[]⟩ s.size]) (t := 107) rfl rfl trivial rfl) (.cons (.pv _) (.cons (.pv _) .nil)))
      | cons p ps =>
        set_option smartUnfolding false in conv => whnf
        simp only [List.length_cons] at hpl
        refine ⟨⟨⟨by simp [pvs_len], by simp only [Nat.succ_eq_add_one]; omega⟩, by rw [show ((S.E 0).te 107).bytes = 32 from rfl]; simp only [Nat.succ_eq_add_one]; omega⟩, ?_⟩
        set_option smartUnfolding false in conv => whnf
        exact .tup (.cons (rd_lsE (k := 2) (l := (p :: ps) ++ [tokP 6 ⟨#[]⟩ s.size]) (t := 107) rfl (by simp only [lsV_snoc]; rfl) trivial (by rw [lsB_snoc]; rfl)) (.cons (.pv _) (.cons (.pv _) .nil)))
  have g5 : ¬ bt s i = 35 := dF g5
  rw [if_neg g5] at hs
  have hnx := next_t s i h hz
  have hok := nextS_ok s i h
  unfold nextP at hnx
  generalize hN : nextS s i = N at hnx hs hok
  obtain ⟨kd, tx, er⟩ := N
  simp only at hnx hs hok
  refine acall_det (ps := [.str s, .int .i64 i]) hnx ?_
  set_option smartUnfolding false in conv => whnf
  refine br_intro (fun k => ?_) (fun k => ?_) <;> set_option smartUnfolding false in conv => whnf
  · have k : ¬ er = 0 := by simpa using k
    rw [if_neg k] at hs
    rw [← hs]
    exact rd_err _ _
  have k : er = 0 := by simpa using k
  rw [if_pos k] at hs
  have hok := hok k
  have ew : IntKind.wrap .i64 ((i : Int) + tx.size) = ((i + tx.size : Nat) : Int) := by rw [wrapI (by omega) (by omega)]; rfl
  refine ⟨Nat.le_refl 1, ?_⟩
  set_option smartUnfolding false in conv => whnf
  cases ps with
  | nil =>
    set_option smartUnfolding false in conv => whnf
    refine ⟨⟨⟨by decide, by decide⟩, by decide⟩, ?_⟩
    set_option smartUnfolding false in conv => whnf
    exact ⟨(f, i + tx.size, [] ++ [tokP kd tx i]), ⟨(by first | omega | (simp only; omega)), (by first | omega | (simp only; omega)), hs, by simp; omega⟩, weak_ren [3] 4 (by kernel_rfl) (blk (by kernel_rfl) trivial) ⟨(by kernel_rfl), (by kernel_rfl), sI ew, trivial⟩, by show s.size - (i + tx.size) < s.size - i; omega⟩
  | cons p ps =>
    set_option smartUnfolding false in conv => whnf
    simp only [List.length_cons] at hpl
    refine ⟨⟨⟨by simp [pvs_len], by simp only [Nat.succ_eq_add_one]; omega⟩, by rw [show ((S.E 0).te 107).bytes = 32 from rfl]; simp only [Nat.succ_eq_add_one]; omega⟩, ?_⟩
    set_option smartUnfolding false in conv => whnf
    exact ⟨(f, i + tx.size, (p :: ps) ++ [tokP kd tx i]), ⟨(by first | omega | (simp only; omega)), (by first | omega | (simp only; omega)), hs, by simp; omega⟩, weak_ren [3] 4 (by kernel_rfl) (blkR_snoc (by kernel_rfl) trivial) ⟨(by kernel_rfl), by simp only [lsV_snoc]; kernel_rfl, sI ew, trivial⟩, by show s.size - (i + tx.size) < s.size - i; omega⟩
end Go.AM
