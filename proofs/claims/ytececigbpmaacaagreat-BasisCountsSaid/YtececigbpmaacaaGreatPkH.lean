import Derived.Test.YtececigbpmaacaaGreatPkG
set_option linter.all false
set_option maxRecDepth 20000
set_option maxHeartbeats 20000000
namespace Go.AM
open Go.Proofs

theorem signT_size (s : ByteArray) (h : 0 < s.size) : (signT s).size ≤ s.size := by
  unfold signT
  split
  · rw [ByteArray.size_extract]; omega
  · split
    · rw [ByteArray.size_extract]; omega
    · exact Nat.zero_le _
theorem ba_nil {b : ByteArray} (h : b.size = 0) : (b.toList == (⟨#[]⟩ : ByteArray).toList) = true := by
  have : b = ⟨#[]⟩ := by
    obtain ⟨a⟩ := b
    simp only [ByteArray.size] at h
    rw [Array.eq_empty_of_size_eq_zero h]
  rw [this]; simp
theorem nextS_ok (s : ByteArray) (i : Nat) (hi : i < s.size) (h : (nextS s i).2.2 = 0) : 1 ≤ (nextS s i).2.1.size ∧ i + (nextS s i).2.1.size ≤ s.size := by
  unfold nextS at h ⊢
  split
  · have := endOf_le bPt s (s.size - (i + 1)) (i + 1)
    simp only
    rw [ByteArray.size_extract]; omega
  · rename_i hn
    rw [if_neg hn] at h
    split
    · have := endOf_le bDg s (s.size - (i + 1)) (i + 1)
      simp only
      rw [ByteArray.size_extract]; omega
    · rename_i hd
      rw [if_neg hd] at h
      simp only at h ⊢
      have hsz : (s.extract i s.size).size = s.size - i := by rw [ByteArray.size_extract]; omega
      have := signT_size (s.extract i s.size) (by omega)
      refine ⟨?_, by omega⟩
      rcases Nat.eq_zero_or_pos (signT (s.extract i s.size)).size with h0 | h0
      · rw [if_pos (ba_nil h0)] at h; omega
      · exact h0

/-- The program's tokens, from i on. -/
def splitT (s : ByteArray) : Nat → Nat → List PV → PV
  | 0, _, ps => finP s ps
  | f + 1, i, ps =>
    if s.size ≤ i then finP s ps
    else if bt s i = 9 ∨ bt s i = 10 ∨ bt s i = 13 ∨ bt s i = 32 then splitT s f (i + 1) ps
    else if bt s i = 35 then splitT s f (endOf bLine s (s.size - i) i) ps
    else if (nextS s i).2.2 = 0 then splitT s f (i + (nextS s i).2.1.size) (ps ++ [tokP (nextS s i).1 (nextS s i).2.1 i])
    else errP i (nextS s i).2.2
theorem splitT_succ (s : ByteArray) (f i : Nat) (ps : List PV) : splitT s (f + 1) i ps =
    if s.size ≤ i then finP s ps
    else if bt s i = 9 ∨ bt s i = 10 ∨ bt s i = 13 ∨ bt s i = 32 then splitT s f (i + 1) ps
    else if bt s i = 35 then splitT s f (endOf bLine s (s.size - i) i) ps
    else if (nextS s i).2.2 = 0 then splitT s f (i + (nextS s i).2.1.size) (ps ++ [tokP (nextS s i).1 (nextS s i).2.1 i])
    else errP i (nextS s i).2.2 := rfl
theorem splitT_end (s : ByteArray) (f i : Nat) (ps : List PV) (h : s.size ≤ i) : splitT s f i ps = finP s ps := by
  cases f with
  | zero => rfl
  | succ f => rw [splitT_succ, if_pos h]
attribute [irreducible] splitT

theorem split_t (s : ByteArray) (hz : s.size ≤ 10000) : Det Tryz.prog 109 [.str s] (splitT s s.size 0 []) := by
  generalize hR : splitT s s.size 0 [] = R
  refine det_of_vc' (E := S.E 0) rfl fol Tryz.func109 rfl rfl (slots := [2, 3, 4]) rfl rfl fun hw => ?_
  set_option smartUnfolding false in conv => whnf
  apply br_intro <;> intro h0
  · have := dT h0; omega
  set_option smartUnfolding false in conv => whnf
  refine vloop_intro (σ := Nat × Nat × List PV) (fun x => x.2.1 ≤ s.size ∧ s.size - x.2.1 ≤ x.1 ∧ splitT s x.1 x.2.1 x.2.2 = R ∧ x.2.2.length ≤ x.2.1) (fun x => [(0, .pv (.str s)), (5, lsV 0 x.2.2), (6, .pv (.int .i64 x.2.1))])
    (fun x => [lsB 143 3 x.2.2]) (fun x => s.size - x.2.1) (s.size, 0, []) ⟨by simp, by simp, hR, by simp⟩ (weak_ren [0] 1 (by kernel_rfl) (blkD trivial) ⟨(by kernel_rfl), (by kernel_rfl), (by kernel_rfl), trivial⟩) ?_
  rintro ⟨f, i, ps⟩ ⟨hi, hf, hs, hpl⟩
  simp only at hi hf hs hpl
  set_option smartUnfolding false in conv => whnf
  refine br_intro (fun h => ?_) (fun h => ?_) <;> set_option smartUnfolding false in conv => whnf
  rotate_left
  · replace h : s.size ≤ i := by have := dF h; simp only at this; omega
    rw [splitT_end s f i ps h] at hs
    refine ⟨Nat.le_refl 1, ?_⟩
    set_option smartUnfolding false in conv => whnf
    rw [← hs]
    cases ps with
    | nil =>
      set_option smartUnfolding false in conv => whnf
      refine ⟨⟨⟨by decide, by decide⟩, by decide⟩, ?_⟩
      set_option smartUnfolding false in conv => whnf
      exact .tup (.cons (rd_lsE (k := 2) (l := [] ++ [tokP 6 ⟨#[]⟩ s.size]) (t := 143) rfl rfl trivial rfl) (.cons (.pv _) (.cons (.pv _) .nil)))
    | cons p ps =>
      set_option smartUnfolding false in conv => whnf
      simp only [List.length_cons] at hpl
      refine ⟨⟨⟨by simp [pvs_len], by simp only [Nat.succ_eq_add_one]; omega⟩, by rw [show ((S.E 0).te 143).bytes = 32 from rfl]; simp only [Nat.succ_eq_add_one]; omega⟩, ?_⟩
      set_option smartUnfolding false in conv => whnf
      exact .tup (.cons (rd_lsE (k := 2) (l := (p :: ps) ++ [tokP 6 ⟨#[]⟩ s.size]) (t := 143) rfl (by simp only [lsV_snoc]; rfl) trivial (by rw [lsB_snoc]; rfl)) (.cons (.pv _) (.cons (.pv _) .nil)))
  replace h : i < s.size := by have := dT h; simp only at this; omega
  obtain ⟨f, rfl⟩ : ∃ f', f = f' + 1 := ⟨f - 1, by omega⟩
  rw [splitT_succ, if_neg (by omega)] at hs
  refine ⟨⟨(by first | omega | (simp only; omega)), (by first | omega | (simp only; omega))⟩, ?_⟩
  set_option smartUnfolding false in conv => whnf
  have ew1 : IntKind.wrap .i64 ((i : Int) + 1) = i + 1 := wrapI (by omega) (by omega)
  refine br_intro (fun g1 => ?_) (fun g1 => ?_) <;> set_option smartUnfolding false in conv => whnf
  · rw [if_pos (.inl (show bt s i = 9 from dT g1))] at hs
    exact ⟨(f, i + 1, ps), ⟨(by first | omega | (simp only; omega)), (by first | omega | (simp only; omega)), hs, (by first | omega | (simp only; omega))⟩, weak_ren [0] 1 (by kernel_rfl) (blkR_ls (by kernel_rfl) trivial) ⟨(by kernel_rfl), sLs (by kernel_rfl), sI ew1, trivial⟩, by show s.size - (i + 1) < s.size - i; omega⟩
  have g1 : ¬ bt s i = 9 := dF g1
  refine br_intro (fun g2 => ?_) (fun g2 => ?_) <;> set_option smartUnfolding false in conv => whnf
  · rw [if_pos (.inr (.inl (show bt s i = 10 from dT g2)))] at hs
    exact ⟨(f, i + 1, ps), ⟨(by first | omega | (simp only; omega)), (by first | omega | (simp only; omega)), hs, (by first | omega | (simp only; omega))⟩, weak_ren [0] 1 (by kernel_rfl) (blkR_ls (by kernel_rfl) trivial) ⟨(by kernel_rfl), sLs (by kernel_rfl), sI ew1, trivial⟩, by show s.size - (i + 1) < s.size - i; omega⟩
  have g2 : ¬ bt s i = 10 := dF g2
  refine br_intro (fun g3 => ?_) (fun g3 => ?_) <;> set_option smartUnfolding false in conv => whnf
  · rw [if_pos (.inr (.inr (.inl (show bt s i = 13 from dT g3))))] at hs
    exact ⟨(f, i + 1, ps), ⟨(by first | omega | (simp only; omega)), (by first | omega | (simp only; omega)), hs, (by first | omega | (simp only; omega))⟩, weak_ren [0] 1 (by kernel_rfl) (blkR_ls (by kernel_rfl) trivial) ⟨(by kernel_rfl), sLs (by kernel_rfl), sI ew1, trivial⟩, by show s.size - (i + 1) < s.size - i; omega⟩
  have g3 : ¬ bt s i = 13 := dF g3
  refine br_intro (fun g4 => ?_) (fun g4 => ?_) <;> set_option smartUnfolding false in conv => whnf
  · rw [if_pos (.inr (.inr (.inr (show bt s i = 32 from dT g4))))] at hs
    exact ⟨(f, i + 1, ps), ⟨(by first | omega | (simp only; omega)), (by first | omega | (simp only; omega)), hs, (by first | omega | (simp only; omega))⟩, weak_ren [0] 1 (by kernel_rfl) (blkR_ls (by kernel_rfl) trivial) ⟨(by kernel_rfl), sLs (by kernel_rfl), sI ew1, trivial⟩, by show s.size - (i + 1) < s.size - i; omega⟩
  have g4 : ¬ bt s i = 32 := dF g4
  rw [if_neg (by rintro (h | h | h | h) <;> contradiction)] at hs
  refine br_intro (fun g5 => ?_) (fun g5 => ?_) <;> set_option smartUnfolding false in conv => whnf
  · -- a comment
    have g5 : bt s i = 35 := dT g5
    rw [if_pos g5] at hs
    have hE := endOf_le bLine s (s.size - i) i
    have hE1 : i + 1 ≤ endOf bLine s (s.size - i) i := by
      rw [show s.size - i = (s.size - (i + 1)) + 1 by omega, endOf_succ, if_pos (by rw [g5]; rfl)]
      exact (endOf_le bLine s _ _).1
    generalize hEd : endOf bLine s (s.size - i) i = E at hs hE hE1
    refine vloop_intro (σ := Nat) (fun j => i ≤ j ∧ j ≤ s.size ∧ endOf bLine s (s.size - j) j = E) (fun j => [(0, .pv (.str s)), (5, lsV 0 ps), (6, .pv (.int .i64 j))])
      (fun _ => [lsB 143 3 ps]) (fun j => s.size - j) i ⟨by omega, by omega, hEd⟩ (weak_ren [0] 1 (by kernel_rfl) (blkR_ls (by kernel_rfl) trivial) ⟨(by kernel_rfl), sLs (by kernel_rfl), (by kernel_rfl), trivial⟩) ?_
    rintro j ⟨hj1, hj2, hj⟩
    set_option smartUnfolding false in conv => whnf
    refine br_intro (fun h => ?_) (fun h => ?_) <;> set_option smartUnfolding false in conv => whnf
    · have h := dT h
      rw [show s.size - j = (s.size - (j + 1)) + 1 by omega, endOf_succ] at hj
      refine ⟨⟨by omega, by omega⟩, ?_⟩
      set_option smartUnfolding false in conv => whnf
      refine br_intro (fun k => ?_) (fun k => ?_) <;> set_option smartUnfolding false in conv => whnf
      · have k : bt s j = 10 := dT k
        rw [if_neg (by rw [k]; decide)] at hj
        subst hj
        exact ⟨(f, j, ps), ⟨(by first | omega | (simp only; omega)), (by first | omega | (simp only; omega)), hs, (by first | omega | (simp only; omega))⟩, weak_ren [0] 1 (by kernel_rfl) (blkR_ls (by kernel_rfl) trivial) ⟨(by kernel_rfl), sLs (by kernel_rfl), (by kernel_rfl), trivial⟩, by show s.size - j < s.size - i; omega⟩
      · have k : ¬ bt s j = 10 := dF k
        rw [if_pos (by unfold bLine; rw [decide_eq_false k]; rfl)] at hj
        exact ⟨j + 1, ⟨by omega, by omega, hj⟩, weak_ren [0] 1 (by kernel_rfl) (blkR_ls (by kernel_rfl) trivial) ⟨(by kernel_rfl), sLs (by kernel_rfl), sUp (n := s.size) (by omega) (by omega), trivial⟩, by show s.size - (j + 1) < s.size - j; omega⟩
    · have h := dF h
      rw [show s.size - j = 0 by omega, endOf_zero] at hj
      subst hj
      rw [splitT_end s f j ps (by omega)] at hs
      refine ⟨Nat.le_refl 1, ?_⟩
      set_option smartUnfolding false in conv => whnf
      rw [← hs]
      cases ps with
      | nil =>
        set_option smartUnfolding false in conv => whnf
        refine ⟨⟨⟨by decide, by decide⟩, by decide⟩, ?_⟩
        set_option smartUnfolding false in conv => whnf
        exact .tup (.cons (rd_lsE (k := 2) (l := [] ++ [tokP 6 ⟨#[]⟩ s.size]) (t := 143) rfl rfl trivial rfl) (.cons (.pv _) (.cons (.pv _) .nil)))
      | cons p ps =>
        set_option smartUnfolding false in conv => whnf
        simp only [List.length_cons] at hpl
        refine ⟨⟨⟨by simp [pvs_len], by simp only [Nat.succ_eq_add_one]; omega⟩, by rw [show ((S.E 0).te 143).bytes = 32 from rfl]; simp only [Nat.succ_eq_add_one]; omega⟩, ?_⟩
        set_option smartUnfolding false in conv => whnf
        exact .tup (.cons (rd_lsE (k := 2) (l := (p :: ps) ++ [tokP 6 ⟨#[]⟩ s.size]) (t := 143) rfl (by simp only [lsV_snoc]; rfl) trivial (by rw [lsB_snoc]; rfl)) (.cons (.pv _) (.cons (.pv _) .nil)))
  have g5 : ¬ bt s i = 35 := dF g5
  rw [if_neg g5] at hs
  have hnx := next_t s i h hz
  have hok := nextS_ok s i h
  unfold nextP at hnx
  generalize hN : nextS s i = N at hnx hs hok
  obtain ⟨kd, tx, er⟩ := N
  simp only at hnx hs hok
  refine acall_det (ps := [.str s, .int .i64 i]) hnx ?_
  set_option smartUnfolding false in conv => whnf
  refine br_intro (fun k => ?_) (fun k => ?_) <;> set_option smartUnfolding false in conv => whnf
  · have k : ¬ er = 0 := by simpa using k
    rw [if_neg k] at hs
    rw [← hs]
    exact rd_err _ _
  have k : er = 0 := by simpa using k
  rw [if_pos k] at hs
  have hok := hok k
  have ew : IntKind.wrap .i64 ((i : Int) + tx.size) = ((i + tx.size : Nat) : Int) := by rw [wrapI (by omega) (by omega)]; rfl
  refine ⟨Nat.le_refl 1, ?_⟩
  set_option smartUnfolding false in conv => whnf
  cases ps with
  | nil =>
    set_option smartUnfolding false in conv => whnf
    refine ⟨⟨⟨by decide, by decide⟩, by decide⟩, ?_⟩
    set_option smartUnfolding false in conv => whnf
    exact ⟨(f, i + tx.size, [] ++ [tokP kd tx i]), ⟨(by first | omega | (simp only; omega)), (by first | omega | (simp only; omega)), hs, by simp; omega⟩, weak_ren [3] 4 (by kernel_rfl) (blk (by kernel_rfl) trivial) ⟨(by kernel_rfl), (by kernel_rfl), sI ew, trivial⟩, by show s.size - (i + tx.size) < s.size - i; omega⟩
  | cons p ps =>
    set_option smartUnfolding false in conv => whnf
    simp only [List.length_cons] at hpl
    refine ⟨⟨⟨by simp [pvs_len], by simp only [Nat.succ_eq_add_one]; omega⟩, by rw [show ((S.E 0).te 143).bytes = 32 from rfl]; simp only [Nat.succ_eq_add_one]; omega⟩, ?_⟩
    set_option smartUnfolding false in conv => whnf
    exact ⟨(f, i + tx.size, (p :: ps) ++ [tokP kd tx i]), ⟨(by first | omega | (simp only; omega)), (by first | omega | (simp only; omega)), hs, by simp; omega⟩, weak_ren [3] 4 (by kernel_rfl) (blkR_snoc (by kernel_rfl) trivial) ⟨(by kernel_rfl), by simp only [lsV_snoc]; kernel_rfl, sI ew, trivial⟩, by show s.size - (i + tx.size) < s.size - i; omega⟩
end Go.AM

set_option linter.all false
set_option maxRecDepth 20000
set_option maxHeartbeats 2000000
namespace Go.AM
open Go.Proofs

/-! ### Upper names -/
def UpN (s : ByteArray) : Prop := 1 ≤ s.size ∧ s.size ≤ 24 ∧ bGr (bt s 0) = true ∧ ∀ k, k < s.size → bPt (bt s k) = true
open Classical in
noncomputable def upName (s : ByteArray) : Bool := decide (UpN s)
def TokOK (s : ByteArray) (q : PV) : Prop := ∃ k t p, q = tokP k t p ∧ (k = 2 → ∃ i, t = s.extract i (i + t.size) ∧ i + t.size ≤ s.size ∧ 1 ≤ t.size ∧ t.size ≤ 24 ∧ bGr (bt s i) = true ∧ ∀ j, i ≤ j → j < i + t.size → bPt (bt s j) = true)
theorem bGr_bPt {b : Int} (h : bGr b = true) : bPt b = true := by rw [bPt_of, h]; simp
theorem bGr_num {b : Int} (h : bGr b = true) : 65 ≤ b ∧ b ≤ 90 := by
  unfold bGr at h
  simpa using h
theorem tok_name {s : ByteArray} {i : Nat} (hi : i < s.size) (hg : bGr (bt s i) = true) (he : endOf bPt s (s.size - (i + 1)) (i + 1) ≤ i + 24) : TokOK s (tokP 2 (s.extract i (endOf bPt s (s.size - (i + 1)) (i + 1))) i) := by
  have hE := endOf_le bPt s (s.size - (i + 1)) (i + 1)
  have hall := endOf_all bPt s (s.size - (i + 1)) (i + 1)
  generalize endOf bPt s (s.size - (i + 1)) (i + 1) = E at *
  have hsz : (s.extract i E).size = E - i := by rw [ByteArray.size_extract]; omega
  refine ⟨_, _, _, rfl, fun _ => ⟨i, ?_, by omega, by omega, by omega, hg, fun j h1 h2 => ?_⟩⟩
  · rw [hsz, show i + (E - i) = E by omega]
  · by_cases e : i = j
    · subst e; exact bGr_bPt hg
    · exact hall j (by omega) (by omega)
theorem tok_other {s : ByteArray} {k : Int} {t : ByteArray} {p : Int} (h : ¬ k = 2) : TokOK s (tokP k t p) := ⟨k, t, p, rfl, fun e => absurd e h⟩

/-- What both Splits come to. -/
def SplitOK (s : ByteArray) (ps : List PV) (r : PV) : Prop := (∃ qs, r = finP s (ps ++ qs) ∧ ∀ q ∈ qs, TokOK s q) ∨ ∃ i e : Int, r = errP i e ∧ ¬ e = 0
theorem SplitOK.cons {s : ByteArray} {ps : List PV} {q r : PV} (hq : TokOK s q) (h : SplitOK s (ps ++ [q]) r) : SplitOK s ps r := by
  rcases h with ⟨qs, h1, h2⟩ | h
  · refine .inl ⟨q :: qs, by rw [h1]; simp, fun x hx => ?_⟩
    rcases List.mem_cons.1 hx with rfl | hx
    · exact hq
    · exact h2 x hx
  · exact .inr h
theorem SplitOK.fin (s : ByteArray) (ps : List PV) : SplitOK s ps (finP s ps) := .inl ⟨[], by simp, by simp⟩
theorem SplitOK.err (s : ByteArray) (ps : List PV) (i : Int) {e : Int} (h : ¬ e = 0) : SplitOK s ps (errP i e) := .inr ⟨i, e, rfl, h⟩
theorem splitR_ok (s : ByteArray) : ∀ (f i : Nat) (ps : List PV), SplitOK s ps (splitR s f i ps)
  | 0, i, ps => by unfold splitR; exact .fin s ps
  | f + 1, i, ps => by
    rw [splitR_succ]
    split
    · exact .fin s ps
    rename_i hi
    split
    · exact splitR_ok s f _ ps
    split
    · exact splitR_ok s f _ ps
    split
    · split
      · exact .err s ps _ (by omega)
      · refine .cons ?_ (splitR_ok s f _ _)
        split
        · rename_i hg; exact tok_name (by omega) hg (by omega)
        · split <;> exact tok_other (by omega)
    split
    · split
      · exact .err s ps _ (by omega)
      split
      · exact .err s ps _ (by omega)
      · exact .cons (tok_other (by omega)) (splitR_ok s f _ _)
    split
    · exact .err s ps _ (by omega)
    · exact .cons (tok_other (by omega)) (splitR_ok s f _ _)
theorem nextS_tok (s : ByteArray) (i : Nat) (hi : i < s.size) (h : (nextS s i).2.2 = 0) : TokOK s (tokP (nextS s i).1 (nextS s i).2.1 i) := by
  unfold nextS at h ⊢
  split
  · rename_i hn
    rw [if_pos hn] at h
    simp only at h ⊢
    split
    · rename_i hg
      refine tok_name hi hg ?_
      rcases Nat.lt_or_ge (i + 24) (endOf bPt s (s.size - (i + 1)) (i + 1)) with h' | h'
      · rw [if_pos h'] at h; omega
      · exact h'
    · split <;> exact tok_other (by omega)
  · split <;> exact tok_other (by simp only; omega)
theorem splitT_ok (s : ByteArray) : ∀ (f i : Nat) (ps : List PV), SplitOK s ps (splitT s f i ps)
  | 0, i, ps => by unfold splitT; exact .fin s ps
  | f + 1, i, ps => by
    rw [splitT_succ]
    split
    · exact .fin s ps
    rename_i hi
    split
    · exact splitT_ok s f _ ps
    split
    · exact splitT_ok s f _ ps
    split
    · rename_i h
      exact .cons (nextS_tok s i (by omega) h) (splitT_ok s f _ _)
    · rename_i h
      exact .err s ps _ h
theorem up_full {s : ByteArray} (h : UpN s) : endOf bPt s (s.size - (0 + 1)) (0 + 1) = s.size := by
  obtain ⟨h1, h2, h3, h4⟩ := h
  rw [endOf_full bPt s _ _ fun k k1 k2 => h4 k (by omega)]; omega
theorem splitR_up {s : ByteArray} (h : UpN s) : splitR s s.size 0 [] = finP s [tokP 2 s 0] := by
  have hf := up_full h
  obtain ⟨h1, h2, h3, h4⟩ := h
  have hb := bGr_num h3
  obtain ⟨m, hm⟩ : ∃ m, s.size = m + 1 := ⟨s.size - 1, by omega⟩
  have e : splitR s s.size 0 [] = splitR s (m + 1) 0 [] := by rw [hm]
  rw [e, splitR_succ, if_neg (by omega), if_neg (by omega), if_neg (by omega), if_pos (by rw [h3]; simp), hf, if_neg (by omega), if_pos h3, splitR_end s m _ _ (Nat.le_refl _)]
  simp
theorem splitT_up {s : ByteArray} (h : UpN s) : splitT s s.size 0 [] = finP s [tokP 2 s 0] := by
  have hf := up_full h
  obtain ⟨h1, h2, h3, h4⟩ := h
  have hb := bGr_num h3
  obtain ⟨m, hm⟩ : ∃ m, s.size = m + 1 := ⟨s.size - 1, by omega⟩
  have e : splitT s s.size 0 [] = splitT s (m + 1) 0 [] := by rw [hm]
  have en : nextS s 0 = (2, s, 0) := by
    unfold nextS
    rw [if_pos (by rw [h3]; simp), hf, if_pos h3, if_neg (by omega)]
    simp
  rw [e, splitT_succ, if_neg (by omega), if_neg (by omega), if_neg (by omega), en]
  simp only [if_pos]
  rw [splitT_end s m _ _ (by omega)]
  simp
theorem up_of_tok {s t : ByteArray} {p : Int} (h : TokOK s (tokP 2 t p)) (ht : t = s) : UpN s := by
  subst ht
  obtain ⟨k, t', p', e, h⟩ := h
  injection e with e
  injection e with e1 e2
  injection e2 with e2 e3
  injection e1 with _ e1
  injection e2 with e2
  subst e1 e2
  obtain ⟨i, h1, h2, h3, h4, h5, h6⟩ := h rfl
  have : i = 0 := by omega
  subst this
  exact ⟨h3, h4, h5, fun k hk => h6 k (by omega) (by omega)⟩
end Go.AM

set_option linter.all false
set_option maxRecDepth 20000
set_option maxHeartbeats 2000000
namespace Go.AM
open Go.Proofs

theorem upper_t (s : ByteArray) (hz : s.size ≤ 10000) : Det Tryz.prog 70 [.str s] (.bool (upName s)) := by
  have hs := split_t s hz
  have hfin : ∀ ps r, r = finP s ps → r = .tuple [.lst 3 (ps ++ [tokP 6 ⟨#[]⟩ s.size]), .int .i64 0, .int .i64 0] := fun ps r h => h
  by_cases hu : UpN s
  · have e1 : upName s = true := by simp [upName, hu]
    rw [splitT_up hu] at hs
    unfold finP at hs
    rw [e1]
    refine det_of_vc' (E := S.E 0) rfl fol Tryz.func70 rfl rfl (slots := [2]) rfl rfl fun hw => ?_
    set_option smartUnfolding false in conv => whnf
    refine acall_det (ps := [.str s]) hs ?_
    set_option smartUnfolding false in conv => whnf
    refine ⟨tokP 2 s 0, ⟨by omega, rfl⟩, ?_⟩
    set_option smartUnfolding false in conv => whnf
    refine ⟨tokP 2 s 0, ⟨by omega, rfl⟩, ?_⟩
    set_option smartUnfolding false in conv => whnf
    exact rdB (by simp)
  have e1 : upName s = false := by simp [upName, hu]
  rw [e1]
  rcases splitT_ok s s.size 0 [] with ⟨qs, h1, h2⟩ | ⟨i, e, h1, h2⟩
  · rw [h1] at hs
    unfold finP at hs
    rw [List.nil_append] at hs
    match qs, h2, hs with
    | [], h2, hs =>
      refine det_of_vc' (E := S.E 0) rfl fol Tryz.func70 rfl rfl (slots := [2]) rfl rfl fun hw => ?_
      set_option smartUnfolding false in conv => whnf
      refine acall_det (ps := [.str s]) hs ?_
      set_option smartUnfolding false in conv => whnf
      exact rdB rfl
    | [q], h2, hs =>
      obtain ⟨k, t, p, rfl, h3⟩ := h2 q (by simp)
      refine det_of_vc' (E := S.E 0) rfl fol Tryz.func70 rfl rfl (slots := [2]) rfl rfl fun hw => ?_
      set_option smartUnfolding false in conv => whnf
      refine acall_det (ps := [.str s]) hs ?_
      set_option smartUnfolding false in conv => whnf
      refine ⟨tokP k t p, ⟨by omega, rfl⟩, ?_⟩
      set_option smartUnfolding false in conv => whnf
      refine br_intro (fun g => ?_) (fun g => ?_) <;> set_option smartUnfolding false in conv => whnf
      · refine ⟨tokP k t p, ⟨by omega, rfl⟩, ?_⟩
        set_option smartUnfolding false in conv => whnf
        refine rdB ?_
        cases hb : (t.toList == s.toList) with
        | false => rfl
        | true =>
          have g := dT g
          subst g
          exact absurd (up_of_tok ⟨2, t, p, rfl, h3⟩ (ba_toList (by simpa using hb))) hu
      · exact rdB rfl
    | q1 :: q2 :: qs, h2, hs =>
      refine det_of_vc' (E := S.E 0) rfl fol Tryz.func70 rfl rfl (slots := [2]) rfl rfl fun hw => ?_
      set_option smartUnfolding false in conv => whnf
      refine acall_det (ps := [.str s]) hs ?_
      set_option smartUnfolding false in conv => whnf
      apply br_intro <;> intro g
      · have := dT g
        simp at this; omega
      set_option smartUnfolding false in conv => whnf
      exact rdB rfl
  · rw [h1] at hs
    unfold errP at hs
    refine det_of_vc' (E := S.E 0) rfl fol Tryz.func70 rfl rfl (slots := [2]) rfl rfl fun hw => ?_
    set_option smartUnfolding false in conv => whnf
    refine acall_det (ps := [.str s]) hs ?_
    set_option smartUnfolding false in conv => whnf
    apply br_intro <;> intro g
    · exact absurd (dT g) h2
    set_option smartUnfolding false in conv => whnf
    exact rdB rfl
theorem upper_r (s : ByteArray) (hz : s.size ≤ 10000) : Det Tryz.prog 54 [.str s] (.bool (upName s)) := by
  have hs := split_r s hz
  have hfin : ∀ ps r, r = finP s ps → r = .tuple [.lst 3 (ps ++ [tokP 6 ⟨#[]⟩ s.size]), .int .i64 0, .int .i64 0] := fun ps r h => h
  by_cases hu : UpN s
  · have e1 : upName s = true := by simp [upName, hu]
    rw [splitR_up hu] at hs
    unfold finP at hs
    rw [e1]
    refine det_of_vc' (E := S.E 0) rfl fol Tryz.func54 rfl rfl (slots := [2]) rfl rfl fun hw => ?_
    set_option smartUnfolding false in conv => whnf
    refine acall_det (ps := [.str s]) hs ?_
    set_option smartUnfolding false in conv => whnf
    refine ⟨tokP 2 s 0, ⟨by omega, rfl⟩, ?_⟩
    set_option smartUnfolding false in conv => whnf
    refine ⟨tokP 2 s 0, ⟨by omega, rfl⟩, ?_⟩
    set_option smartUnfolding false in conv => whnf
    exact rdB (by simp)
  have e1 : upName s = false := by simp [upName, hu]
  rw [e1]
  rcases splitR_ok s s.size 0 [] with ⟨qs, h1, h2⟩ | ⟨i, e, h1, h2⟩
  · rw [h1] at hs
    unfold finP at hs
    rw [List.nil_append] at hs
    match qs, h2, hs with
    | [], h2, hs =>
      refine det_of_vc' (E := S.E 0) rfl fol Tryz.func54 rfl rfl (slots := [2]) rfl rfl fun hw => ?_
      set_option smartUnfolding false in conv => whnf
      refine acall_det (ps := [.str s]) hs ?_
      set_option smartUnfolding false in conv => whnf
      exact rdB rfl
    | [q], h2, hs =>
      obtain ⟨k, t, p, rfl, h3⟩ := h2 q (by simp)
      refine det_of_vc' (E := S.E 0) rfl fol Tryz.func54 rfl rfl (slots := [2]) rfl rfl fun hw => ?_
      set_option smartUnfolding false in conv => whnf
      refine acall_det (ps := [.str s]) hs ?_
      set_option smartUnfolding false in conv => whnf
      refine ⟨tokP k t p, ⟨by omega, rfl⟩, ?_⟩
      set_option smartUnfolding false in conv => whnf
      refine br_intro (fun g => ?_) (fun g => ?_) <;> set_option smartUnfolding false in conv => whnf
      · refine ⟨tokP k t p, ⟨by omega, rfl⟩, ?_⟩
        set_option smartUnfolding false in conv => whnf
        refine rdB ?_
        cases hb : (t.toList == s.toList) with
        | false => rfl
        | true =>
          have g := dT g
          subst g
          exact absurd (up_of_tok ⟨2, t, p, rfl, h3⟩ (ba_toList (by simpa using hb))) hu
      · exact rdB rfl
    | q1 :: q2 :: qs, h2, hs =>
      refine det_of_vc' (E := S.E 0) rfl fol Tryz.func54 rfl rfl (slots := [2]) rfl rfl fun hw => ?_
      set_option smartUnfolding false in conv => whnf
      refine acall_det (ps := [.str s]) hs ?_
      set_option smartUnfolding false in conv => whnf
      apply br_intro <;> intro g
      · have := dT g
        simp at this; omega
      set_option smartUnfolding false in conv => whnf
      exact rdB rfl
  · rw [h1] at hs
    unfold errP at hs
    refine det_of_vc' (E := S.E 0) rfl fol Tryz.func54 rfl rfl (slots := [2]) rfl rfl fun hw => ?_
    set_option smartUnfolding false in conv => whnf
    refine acall_det (ps := [.str s]) hs ?_
    set_option smartUnfolding false in conv => whnf
    apply br_intro <;> intro g
    · exact absurd (dT g) h2
    set_option smartUnfolding false in conv => whnf
    exact rdB rfl
end Go.AM

set_option linter.all false
set_option maxRecDepth 4000
namespace Go.AM
open Go.Proofs

/-- Where a list first holds what is looked for, -1 if nowhere. -/
def fidx {α : Type} (q : α → Bool) : List α → Nat → Int
  | [], _ => -1
  | v :: l, i => if q v then i else fidx q l (i + 1)
theorem fidx_nil {α : Type} (q : α → Bool) (i : Nat) : fidx q [] i = -1 := rfl
theorem fidx_cons {α : Type} (q : α → Bool) (v : α) (l : List α) (i : Nat) : fidx q (v :: l) i = if q v then (i : Int) else fidx q l (i + 1) := rfl
theorem fidx_any {α : Type} (q : α → Bool) : ∀ (l : List α) (i : Nat), decide (0 ≤ fidx q l i) = l.any q
  | [], i => by simp [fidx_nil]
  | v :: l, i => by
    rw [fidx_cons]
    cases h : q v with
    | true => simp [h]
    | false => simp [h, ← fidx_any q l (i + 1)]
attribute [irreducible] fidx

theorem idxT_det (ks : List V) (g : Nat) (caps : List PV) (q : V → Bool) (hq : ∀ v ∈ ks, Det Tryz.prog g (v.pv :: caps) (.bool (q v))) :
    Det Tryz.prog 111 [.lst 3 (V.pvL ks), .fn g caps] (.int .i64 (fidx q ks 0)) := by
  refine det_of_vc' (E := S.E 0) rfl fol Tryz.func111 rfl rfl (slots := [4]) rfl rfl fun hw => ?_
  have hl : ks.length ≤ 9223372036854775807 := by have := hw.1.1; rwa [V.pvL_len] at this
  set_option smartUnfolding false in conv => whnf
  refine vloop_intro (σ := Nat) (fun i => i ≤ ks.length ∧ fidx q (ks.drop i) i = fidx q ks 0)
    (fun i => [(0, .pv (.lst 3 (V.pvL ks))), (1, .pv (.fn g caps)), (7, .pv (.int .i64 (V.pvL ks).length)), (8, .pv (.int .i64 i))])
    (fun _ => []) (fun i => ks.length - i) 0 ⟨by simp, by simp⟩ (weak_bare rfl ⟨(by kernel_rfl), (by kernel_rfl), (by kernel_rfl), (by kernel_rfl), trivial⟩) ?_
  rintro i ⟨hi, hs⟩
  set_option smartUnfolding false in conv => whnf
  refine br_intro (fun h => ?_) (fun h => ?_) <;> set_option smartUnfolding false in conv => whnf
  · replace h : i < ks.length := by have := dT h; rw [V.pvL_len] at this; simpa using this
    obtain ⟨⟨k1, n1, ks1⟩, hv, hg, _, hd⟩ := V.get_pvL h
    rw [V.pv_mk] at hg
    rw [hd, fidx_cons] at hs
    have hq1 := hq _ hv
    rw [V.pv_mk] at hq1
    refine ⟨V.ag k1 n1 ks1, ⟨by simp, by simpa using hg⟩, ?_⟩
    set_option smartUnfolding false in conv => whnf
    refine acall_det (ps := V.ag k1 n1 ks1 :: caps) hq1 ?_
    set_option smartUnfolding false in conv => whnf
    refine br_intro (fun h2 => ?_) (fun h2 => ?_) <;> set_option smartUnfolding false in conv => whnf
    · rw [if_pos h2] at hs
      exact rdI hs
    · rw [if_neg (by simp [h2])] at hs
      refine ⟨i + 1, ⟨h, hs⟩, weak_bare rfl ⟨(by kernel_rfl), (by kernel_rfl), (by kernel_rfl), sUp h hl, trivial⟩, subUp h⟩
  · replace h : ¬ i < ks.length := by have := dF h; rw [V.pvL_len] at this; simpa using this
    rw [List.drop_of_length_le (by omega), fidx_nil] at hs
    exact rdI hs

theorem hasT_det (ks : List V) (g : Nat) (caps : List PV) (q : V → Bool) (hq : ∀ v ∈ ks, Det Tryz.prog g (v.pv :: caps) (.bool (q v))) :
    Det Tryz.prog 72 [.lst 3 (V.pvL ks), .fn g caps] (.bool (ks.any q)) := by
  refine det_of_vc' (E := S.E 0) rfl fol Tryz.func72 rfl rfl (slots := [4]) rfl rfl fun hw => ?_
  set_option smartUnfolding false in conv => whnf
  refine acall_det (ps := [.lst 3 (V.pvL ks), .fn g caps]) (idxT_det ks g caps q hq) ?_
  set_option smartUnfolding false in conv => whnf
  exact rdB (fidx_any q ks 0)
end Go.AM

set_option linter.all false
set_option maxRecDepth 4000
namespace Go.AM
open Go.Proofs

/-! ### Valid types -/
/-- What a kind asks: of the number, of how many arguments. -/
def V.shape (D : List Dt) (vars : Int) (k n : Int) : Option (Bool × Int × Int) :=
  if k = 1 ∨ k = 2 ∨ k = 3 then some (decide (n = 0), 0, 0)
  else if k = 4 then some (decide (0 ≤ n) && decide (n < vars), 0, 0)
  else if k = 5 then (match D[n.toNat]? with | some d => some (decide (0 ≤ n), d.vars, d.vars) | Option.none => Option.none)
  else if k = 6 then some (decide (n = 0), 2, 6)
  else if k = 7 ∨ k = 8 then some (decide (n = 0), 1, 1)
  else if k = 9 then some (decide (n = 0), 1, 7)
  else Option.none
mutual
def V.okT (D : List Dt) (vars : Int) : V → Bool
  | .mk k n ts => match V.shape D vars k n with
    | some (b, lo, hi) => b && decide (lo ≤ (ts.length : Int)) && decide ((ts.length : Int) ≤ hi) && V.okTL D vars ts
    | Option.none => false
def V.okTL (D : List Dt) (vars : Int) : List V → Bool
  | [] => true
  | t :: l => V.okT D vars t && V.okTL D vars l
end
theorem V.okT_mk (D : List Dt) (vars k n : Int) (ts : List V) : V.okT D vars (.mk k n ts) = match V.shape D vars k n with
    | some (b, lo, hi) => b && decide (lo ≤ (ts.length : Int)) && decide ((ts.length : Int) ≤ hi) && V.okTL D vars ts
    | Option.none => false := by rw [V.okT]
theorem V.okTL_nil (D : List Dt) (vars : Int) : V.okTL D vars [] = true := by rw [V.okTL]
theorem V.okTL_cons (D : List Dt) (vars : Int) (t : V) (l : List V) : V.okTL D vars (t :: l) = (V.okT D vars t && V.okTL D vars l) := by rw [V.okTL]
theorem V.okTL_any (D : List Dt) (vars : Int) : ∀ l : List V, (!l.any fun t => !V.okT D vars t) = V.okTL D vars l
  | [] => by rw [V.okTL_nil]; rfl
  | t :: l => by rw [V.okTL_cons, ← V.okTL_any D vars l]; simp
/-- A valid type: its size, too. -/
def V.okW (D : List Dt) (vars : Int) (t : V) : Bool := decide (t.cnt ≤ 200) && V.okT D vars t
attribute [irreducible] V.okT V.okTL V.okW

theorem tvalid1_of (D : List Dt) (vars : Int) (t : V) (h : Det Tryz.prog 49 [.lst 3 (Dt.pvL D), t.pv, .int .i64 vars] (.bool (V.okT D vars t))) :
    Det Tryz.prog 85 [t.pv, .cp [.lst 3 (Dt.pvL D)], .cp [.int .i64 vars]] (.bool (!V.okT D vars t)) := by
  obtain ⟨k, n, ts⟩ := t
  rw [V.pv_mk] at h ⊢
  refine det_of_vc' (E := S.E 0) rfl fol Tryz.func85 rfl rfl (slots := [4]) rfl rfl fun hw => ?_
  set_option smartUnfolding false in conv => whnf
  refine acall_det (ps := [.lst 3 (Dt.pvL D), V.ag k n ts, .int .i64 vars]) h ?_
  set_option smartUnfolding false in conv => whnf
  exact rdB rfl


theorem tvalid_det (D : List Dt) (vars : Int) (t : V) : Det Tryz.prog 49 [.lst 3 (Dt.pvL D), t.pv, .int .i64 vars] (.bool (V.okT D vars t)) := by
  refine V.recOn' (p := fun t => Det Tryz.prog 49 [.lst 3 (Dt.pvL D), t.pv, .int .i64 vars] (.bool (V.okT D vars t))) (fun k n ts ih => ?_) t
  have hc := hasT_det ts 85 [.cp [.lst 3 (Dt.pvL D)], .cp [.int .i64 vars]] (fun t => !V.okT D vars t) fun t ht => tvalid1_of D vars t (ih t ht)
  rw [V.pv_mk]
  generalize hR : V.okT D vars (.mk k n ts) = R
  rw [V.okT_mk] at hR
  refine det_of_vc' (E := S.E 0) rfl fol Tryz.func49 rfl rfl (slots := [6]) rfl rfl fun hw => ?_
  set_option smartUnfolding false in conv => whnf
  refine br_intro (fun h1 => ?_) (fun h1 => ?_) <;> set_option smartUnfolding false in conv => whnf
  · rw [show V.shape D vars k n = some (decide (n = 0), 0, 0) by have h1 := dT h1; simp [V.shape, h1]] at hR
    simp only at hR
    refine br_intro (fun g1 => ?_) (fun g1 => ?_) <;> set_option smartUnfolding false in conv => whnf
    rotate_left
    · exact rdB (by rw [← hR, g1]; simp)
    rw [g1, Bool.true_and] at hR
    refine br_intro (fun g3 => ?_) (fun g3 => ?_) <;> set_option smartUnfolding false in conv => whnf
    rotate_left
    · exact rdB (by rw [V.pvL_len] at g3; rw [← hR, g3]; simp)
    refine acall_intro (adet_read (S := [0, 2]) hc (.cons (.pv _) (.cons (.fn (.cons (.bp (.head _) rfl (.cons (.pv _) .nil)) (.cons (.bp (.tail _ (.head _)) rfl (.cons (.pv _) .nil)) .nil))) .nil)) rfl) ?_
    set_option smartUnfolding false in conv => whnf
    refine rdB ?_
    rw [V.pvL_len] at g3
    rw [← hR, g3, V.okTL_any]; simp
  have h1 := dF h1
  refine br_intro (fun h2 => ?_) (fun h2 => ?_) <;> set_option smartUnfolding false in conv => whnf
  · rw [show V.shape D vars k n = some (decide (n = 0), 0, 0) by have h2 := dT h2; simp [V.shape, h2]] at hR
    simp only at hR
    refine br_intro (fun g1 => ?_) (fun g1 => ?_) <;> set_option smartUnfolding false in conv => whnf
    rotate_left
    · exact rdB (by rw [← hR, g1]; simp)
    rw [g1, Bool.true_and] at hR
    refine br_intro (fun g3 => ?_) (fun g3 => ?_) <;> set_option smartUnfolding false in conv => whnf
    rotate_left
    · exact rdB (by rw [V.pvL_len] at g3; rw [← hR, g3]; simp)
    refine acall_intro (adet_read (S := [0, 2]) hc (.cons (.pv _) (.cons (.fn (.cons (.bp (.head _) rfl (.cons (.pv _) .nil)) (.cons (.bp (.tail _ (.head _)) rfl (.cons (.pv _) .nil)) .nil))) .nil)) rfl) ?_
    set_option smartUnfolding false in conv => whnf
    refine rdB ?_
    rw [V.pvL_len] at g3
    rw [← hR, g3, V.okTL_any]; simp
  have h2 := dF h2
  refine br_intro (fun h3 => ?_) (fun h3 => ?_) <;> set_option smartUnfolding false in conv => whnf
  · rw [show V.shape D vars k n = some (decide (n = 0), 0, 0) by have h3 := dT h3; simp [V.shape, h3]] at hR
    simp only at hR
    refine br_intro (fun g1 => ?_) (fun g1 => ?_) <;> set_option smartUnfolding false in conv => whnf
    rotate_left
    · exact rdB (by rw [← hR, g1]; simp)
    rw [g1, Bool.true_and] at hR
    refine br_intro (fun g3 => ?_) (fun g3 => ?_) <;> set_option smartUnfolding false in conv => whnf
    rotate_left
    · exact rdB (by rw [V.pvL_len] at g3; rw [← hR, g3]; simp)
    refine acall_intro (adet_read (S := [0, 2]) hc (.cons (.pv _) (.cons (.fn (.cons (.bp (.head _) rfl (.cons (.pv _) .nil)) (.cons (.bp (.tail _ (.head _)) rfl (.cons (.pv _) .nil)) .nil))) .nil)) rfl) ?_
    set_option smartUnfolding false in conv => whnf
    refine rdB ?_
    rw [V.pvL_len] at g3
    rw [← hR, g3, V.okTL_any]; simp
  have h3 := dF h3
  refine br_intro (fun h4 => ?_) (fun h4 => ?_) <;> set_option smartUnfolding false in conv => whnf
  · rw [show V.shape D vars k n = some (decide (0 ≤ n) && decide (n < vars), 0, 0) by have h4 := dT h4; simp [V.shape, h4]] at hR
    simp only at hR
    refine br_intro (fun g0 => ?_) (fun g0 => ?_) <;> set_option smartUnfolding false in conv => whnf
    · rw [g0, Bool.true_and] at hR
      refine br_intro (fun g1 => ?_) (fun g1 => ?_) <;> set_option smartUnfolding false in conv => whnf
      rotate_left
      · exact rdB (by rw [← hR, g1]; simp)
      rw [g1, Bool.true_and] at hR
      refine br_intro (fun g3 => ?_) (fun g3 => ?_) <;> set_option smartUnfolding false in conv => whnf
      rotate_left
      · exact rdB (by rw [V.pvL_len] at g3; rw [← hR, g3]; simp)
      refine acall_intro (adet_read (S := [0, 2]) hc (.cons (.pv _) (.cons (.fn (.cons (.bp (.head _) rfl (.cons (.pv _) .nil)) (.cons (.bp (.tail _ (.head _)) rfl (.cons (.pv _) .nil)) .nil))) .nil)) rfl) ?_
      set_option smartUnfolding false in conv => whnf
      refine rdB ?_
      rw [V.pvL_len] at g3
      rw [← hR, g3, V.okTL_any]; simp
    · exact rdB (by rw [← hR, g0]; simp)
  have h4 := dF h4
  refine br_intro (fun h5 => ?_) (fun h5 => ?_) <;> set_option smartUnfolding false in conv => whnf
  · have h5 := dT h5
    refine br_intro (fun g0 => ?_) (fun g0 => ?_) <;> set_option smartUnfolding false in conv => whnf
    rotate_left
    · refine rdB ?_
      have g0 := dF g0
      rw [← hR, show V.shape D vars k n = (match D[n.toNat]? with | some d => some (decide (0 ≤ n), d.vars, d.vars) | Option.none => Option.none) by simp [V.shape, h5]]
      cases D[n.toNat]? <;> simp [g0]
    have g0 := dT g0
    refine br_intro (fun g00 => ?_) (fun g00 => ?_) <;> set_option smartUnfolding false in conv => whnf
    rotate_left
    · apply br_intro <;> intro g1
      · rw [g00] at g1; cases g1
      set_option smartUnfolding false in conv => whnf
      refine rdB ?_
      have g00 := dF g00
      rw [Dt.pvL_len] at g00
      rw [← hR, show V.shape D vars k n = (match D[n.toNat]? with | some d => some (decide (0 ≤ n), d.vars, d.vars) | Option.none => Option.none) by simp [V.shape, h5]]
      rw [List.getElem?_eq_none (by omega)]
    have g00' := dT g00
    rw [Dt.pvL_len] at g00'
    obtain ⟨nm, vs, cs, _, hg, hg2, _⟩ := Dt.get_pvL (l := D) (i := n.toNat) (by omega)
    rw [show V.shape D vars k n = some (decide (0 ≤ n), vs, vs) by simp [V.shape, h5, hg2]] at hR
    simp only [g0, decide_true, Bool.true_and] at hR
    refine ⟨Dt.ag nm vs cs, ⟨by omega, hg⟩, ?_⟩
    set_option smartUnfolding false in conv => whnf
    refine ⟨Dt.ag nm vs cs, ⟨by omega, hg⟩, ?_⟩
    set_option smartUnfolding false in conv => whnf
    apply br_intro <;> intro g1
    rotate_left
    · rw [g00] at g1; cases g1
    set_option smartUnfolding false in conv => whnf
    refine br_intro (fun g2 => ?_) (fun g2 => ?_) <;> set_option smartUnfolding false in conv => whnf
    rotate_left
    · exact rdB (by rw [V.pvL_len] at g2; rw [← hR, g2]; simp)
    refine br_intro (fun g3 => ?_) (fun g3 => ?_) <;> set_option smartUnfolding false in conv => whnf
    rotate_left
    · exact rdB (by rw [V.pvL_len] at g3; rw [← hR, g3]; simp)
    refine acall_intro (adet_read (S := [0, 2]) hc (.cons (.pv _) (.cons (.fn (.cons (.bp (.head _) rfl (.cons (.pv _) .nil)) (.cons (.bp (.tail _ (.head _)) rfl (.cons (.pv _) .nil)) .nil))) .nil)) rfl) ?_
    set_option smartUnfolding false in conv => whnf
    refine rdB ?_
    rw [V.pvL_len] at g2 g3
    rw [← hR, g2, g3, V.okTL_any]; rfl
  have h5 := dF h5
  refine br_intro (fun h6 => ?_) (fun h6 => ?_) <;> set_option smartUnfolding false in conv => whnf
  · rw [show V.shape D vars k n = some (decide (n = 0), 2, 6) by have h6 := dT h6; simp [V.shape, h6]] at hR
    simp only at hR
    refine br_intro (fun g1 => ?_) (fun g1 => ?_) <;> set_option smartUnfolding false in conv => whnf
    rotate_left
    · exact rdB (by rw [← hR, g1]; simp)
    rw [g1, Bool.true_and] at hR
    refine br_intro (fun g2 => ?_) (fun g2 => ?_) <;> set_option smartUnfolding false in conv => whnf
    rotate_left
    · exact rdB (by rw [V.pvL_len] at g2; rw [← hR, g2]; simp)
    refine br_intro (fun g3 => ?_) (fun g3 => ?_) <;> set_option smartUnfolding false in conv => whnf
    rotate_left
    · exact rdB (by rw [V.pvL_len] at g3; rw [← hR, g3]; simp)
    refine acall_intro (adet_read (S := [0, 2]) hc (.cons (.pv _) (.cons (.fn (.cons (.bp (.head _) rfl (.cons (.pv _) .nil)) (.cons (.bp (.tail _ (.head _)) rfl (.cons (.pv _) .nil)) .nil))) .nil)) rfl) ?_
    set_option smartUnfolding false in conv => whnf
    refine rdB ?_
    rw [V.pvL_len] at g2 g3
    rw [← hR, g2, g3, V.okTL_any]; rfl
  have h6 := dF h6
  refine br_intro (fun h7 => ?_) (fun h7 => ?_) <;> set_option smartUnfolding false in conv => whnf
  · rw [show V.shape D vars k n = some (decide (n = 0), 1, 1) by have h7 := dT h7; simp [V.shape, h7]] at hR
    simp only at hR
    refine br_intro (fun g1 => ?_) (fun g1 => ?_) <;> set_option smartUnfolding false in conv => whnf
    rotate_left
    · exact rdB (by rw [← hR, g1]; simp)
    rw [g1, Bool.true_and] at hR
    refine br_intro (fun g2 => ?_) (fun g2 => ?_) <;> set_option smartUnfolding false in conv => whnf
    rotate_left
    · exact rdB (by rw [V.pvL_len] at g2; rw [← hR, g2]; simp)
    refine br_intro (fun g3 => ?_) (fun g3 => ?_) <;> set_option smartUnfolding false in conv => whnf
    rotate_left
    · exact rdB (by rw [V.pvL_len] at g3; rw [← hR, g3]; simp)
    refine acall_intro (adet_read (S := [0, 2]) hc (.cons (.pv _) (.cons (.fn (.cons (.bp (.head _) rfl (.cons (.pv _) .nil)) (.cons (.bp (.tail _ (.head _)) rfl (.cons (.pv _) .nil)) .nil))) .nil)) rfl) ?_
    set_option smartUnfolding false in conv => whnf
    refine rdB ?_
    rw [V.pvL_len] at g2 g3
    rw [← hR, g2, g3, V.okTL_any]; rfl
  have h7 := dF h7
  refine br_intro (fun h8 => ?_) (fun h8 => ?_) <;> set_option smartUnfolding false in conv => whnf
  · rw [show V.shape D vars k n = some (decide (n = 0), 1, 1) by have h8 := dT h8; simp [V.shape, h8]] at hR
    simp only at hR
    refine br_intro (fun g1 => ?_) (fun g1 => ?_) <;> set_option smartUnfolding false in conv => whnf
    rotate_left
    · exact rdB (by rw [← hR, g1]; simp)
    rw [g1, Bool.true_and] at hR
    refine br_intro (fun g2 => ?_) (fun g2 => ?_) <;> set_option smartUnfolding false in conv => whnf
    rotate_left
    · exact rdB (by rw [V.pvL_len] at g2; rw [← hR, g2]; simp)
    refine br_intro (fun g3 => ?_) (fun g3 => ?_) <;> set_option smartUnfolding false in conv => whnf
    rotate_left
    · exact rdB (by rw [V.pvL_len] at g3; rw [← hR, g3]; simp)
    refine acall_intro (adet_read (S := [0, 2]) hc (.cons (.pv _) (.cons (.fn (.cons (.bp (.head _) rfl (.cons (.pv _) .nil)) (.cons (.bp (.tail _ (.head _)) rfl (.cons (.pv _) .nil)) .nil))) .nil)) rfl) ?_
    set_option smartUnfolding false in conv => whnf
    refine rdB ?_
    rw [V.pvL_len] at g2 g3
    rw [← hR, g2, g3, V.okTL_any]; rfl
  have h8 := dF h8
  refine br_intro (fun h9 => ?_) (fun h9 => ?_) <;> set_option smartUnfolding false in conv => whnf
  · rw [show V.shape D vars k n = some (decide (n = 0), 1, 7) by have h9 := dT h9; simp [V.shape, h9]] at hR
    simp only at hR
    refine br_intro (fun g1 => ?_) (fun g1 => ?_) <;> set_option smartUnfolding false in conv => whnf
    rotate_left
    · exact rdB (by rw [← hR, g1]; simp)
    rw [g1, Bool.true_and] at hR
    refine br_intro (fun g2 => ?_) (fun g2 => ?_) <;> set_option smartUnfolding false in conv => whnf
    rotate_left
    · exact rdB (by rw [V.pvL_len] at g2; rw [← hR, g2]; simp)
    refine br_intro (fun g3 => ?_) (fun g3 => ?_) <;> set_option smartUnfolding false in conv => whnf
    rotate_left
    · exact rdB (by rw [V.pvL_len] at g3; rw [← hR, g3]; simp)
    refine acall_intro (adet_read (S := [0, 2]) hc (.cons (.pv _) (.cons (.fn (.cons (.bp (.head _) rfl (.cons (.pv _) .nil)) (.cons (.bp (.tail _ (.head _)) rfl (.cons (.pv _) .nil)) .nil))) .nil)) rfl) ?_
    set_option smartUnfolding false in conv => whnf
    refine rdB ?_
    rw [V.pvL_len] at g2 g3
    rw [← hR, g2, g3, V.okTL_any]; rfl
  have h9 := dF h9
  exact rdB (by rw [← hR, show V.shape D vars k n = Option.none by simp [V.shape, h1, h2, h3, h4, h5, h6, h7, h8, h9]])

theorem tValid_det (D : List Dt) (vars : Int) (t : V) : Det Tryz.prog 25 [.lst 3 (Dt.pvL D), t.pv, .int .i64 vars] (.bool (V.okW D vars t)) := by
  have a1 := tsize_det t 201 (by omega) (by omega)
  have a2 := tvalid_det D vars t
  have e : V.okW D vars t = (decide (t.cnt ≤ 200) && V.okT D vars t) := by rw [V.okW]
  rw [e]
  obtain ⟨k, n, ts⟩ := t
  rw [V.pv_mk] at a1 a2 ⊢
  refine det_of_vc' (E := S.E 0) rfl fol Tryz.func25 rfl rfl (slots := [6]) rfl rfl fun hw => ?_
  set_option smartUnfolding false in conv => whnf
  refine acall_det (ps := [V.ag k n ts, .int .i64 201]) a1 ?_
  set_option smartUnfolding false in conv => whnf
  refine br_intro (fun h => ?_) (fun h => ?_) <;> set_option smartUnfolding false in conv => whnf
  · refine acall_det (ps := [.lst 3 (Dt.pvL D), V.ag k n ts, .int .i64 vars]) a2 ?_
    set_option smartUnfolding false in conv => whnf
    have h := dT h
    exact rdB (by rw [decide_eq_true (by omega), Bool.true_and])
  · have h := dF h
    exact rdB (by rw [decide_eq_false (by omega), Bool.false_and])
end Go.AM

set_option linter.all false
set_option maxRecDepth 4000
namespace Go.AM
open Go.Proofs


theorem len_zero {n : Nat} : decide ((n : Int) = 0) = (decide ((0 : Int) ≤ n) && decide ((n : Int) ≤ 0)) := by
  by_cases h : n = 0
  · subst h; rfl
  · rw [decide_eq_false (by omega), decide_eq_false (p := (n : Int) ≤ 0) (by omega)]; simp
theorem okTL_zero {D : List Dt} {vars : Int} {ts : List V} (h : decide ((ts.length : Int) = 0) = true) : V.okTL D vars ts = true := by
  have : ts = [] := List.eq_nil_of_length_eq_zero (by have := dT h; omega)
  subst this; exact V.okTL_nil _ _


theorem rvalid_det (D : List Dt) (vars : Int) (t : V) : Det Tryz.prog 58 [.lst 3 (Dt.pvL D), t.pv, .int .i64 vars] (.bool (V.okT D vars t)) := by
  refine V.recOn' (p := fun t => Det Tryz.prog 58 [.lst 3 (Dt.pvL D), t.pv, .int .i64 vars] (.bool (V.okT D vars t))) (fun k n ts ih => ?_) t
  rw [V.pv_mk]
  generalize hR : V.okT D vars (.mk k n ts) = R
  rw [V.okT_mk] at hR
  refine det_of_vc' (E := S.E 0) rfl fol Tryz.func58 rfl rfl (slots := [6]) rfl rfl fun hw => ?_
  have hl := V.lenle hw.2.1
  set_option smartUnfolding false in conv => whnf
  refine br_intro (fun h1 => ?_) (fun h1 => ?_) <;> set_option smartUnfolding false in conv => whnf
  · rw [show V.shape D vars k n = some (decide (n = 0), 0, 0) by have h1 := dT h1; simp [V.shape, h1]] at hR
    simp only at hR
    refine br_intro (fun g1 => ?_) (fun g1 => ?_) <;> set_option smartUnfolding false in conv => whnf
    rotate_left
    · exact rdB (by rw [← hR, g1]; simp)
    rw [g1, Bool.true_and] at hR
    refine rdB ?_
    rw [V.pvL_len, ← hR]
    cases g2 : decide ((ts.length : Int) = 0) with
    | true => rw [← len_zero, g2, okTL_zero g2]; rfl
    | false => rw [← len_zero, g2]; rfl
  have h1 := dF h1
  refine br_intro (fun h2 => ?_) (fun h2 => ?_) <;> set_option smartUnfolding false in conv => whnf
  · rw [show V.shape D vars k n = some (decide (n = 0), 0, 0) by have h2 := dT h2; simp [V.shape, h2]] at hR
    simp only at hR
    refine br_intro (fun g1 => ?_) (fun g1 => ?_) <;> set_option smartUnfolding false in conv => whnf
    rotate_left
    · exact rdB (by rw [← hR, g1]; simp)
    rw [g1, Bool.true_and] at hR
    refine rdB ?_
    rw [V.pvL_len, ← hR]
    cases g2 : decide ((ts.length : Int) = 0) with
    | true => rw [← len_zero, g2, okTL_zero g2]; rfl
    | false => rw [← len_zero, g2]; rfl
  have h2 := dF h2
  refine br_intro (fun h3 => ?_) (fun h3 => ?_) <;> set_option smartUnfolding false in conv => whnf
  · rw [show V.shape D vars k n = some (decide (n = 0), 0, 0) by have h3 := dT h3; simp [V.shape, h3]] at hR
    simp only at hR
    refine br_intro (fun g1 => ?_) (fun g1 => ?_) <;> set_option smartUnfolding false in conv => whnf
    rotate_left
    · exact rdB (by rw [← hR, g1]; simp)
    rw [g1, Bool.true_and] at hR
    refine rdB ?_
    rw [V.pvL_len, ← hR]
    cases g2 : decide ((ts.length : Int) = 0) with
    | true => rw [← len_zero, g2, okTL_zero g2]; rfl
    | false => rw [← len_zero, g2]; rfl
  have h3 := dF h3
  refine br_intro (fun h4 => ?_) (fun h4 => ?_) <;> set_option smartUnfolding false in conv => whnf
  · rw [show V.shape D vars k n = some (decide (0 ≤ n) && decide (n < vars), 0, 0) by have h4 := dT h4; simp [V.shape, h4]] at hR
    simp only at hR
    refine br_intro (fun g0 => ?_) (fun g0 => ?_) <;> set_option smartUnfolding false in conv => whnf
    · rw [g0, Bool.true_and] at hR
      refine br_intro (fun g1 => ?_) (fun g1 => ?_) <;> set_option smartUnfolding false in conv => whnf
      rotate_left
      · exact rdB (by rw [← hR, g1]; simp)
      rw [g1, Bool.true_and] at hR
      refine rdB ?_
      rw [V.pvL_len, ← hR]
      cases g2 : decide ((ts.length : Int) = 0) with
      | true => rw [← len_zero, g2, okTL_zero g2]; rfl
      | false => rw [← len_zero, g2]; rfl
    · exact rdB (by rw [← hR, g0]; simp)
  have h4 := dF h4
  refine br_intro (fun h5 => ?_) (fun h5 => ?_) <;> set_option smartUnfolding false in conv => whnf
  · have h5 := dT h5
    have e5 : V.shape D vars k n = (match D[n.toNat]? with | some d => some (decide (0 ≤ n), d.vars, d.vars) | Option.none => Option.none) := by simp [V.shape, h5] <;> rfl
    refine br_intro (fun g0 => ?_) (fun g0 => ?_) <;> set_option smartUnfolding false in conv => whnf
    · refine rdB ?_
      have g0 := dT g0
      rw [← hR, e5]
      cases D[n.toNat]? <;> simp; omega
    have g0 := dF g0
    refine br_intro (fun g00 => ?_) (fun g00 => ?_) <;> set_option smartUnfolding false in conv => whnf
    · refine rdB ?_
      have g00 := dT g00
      rw [Dt.pvL_len] at g00
      rw [← hR, e5, List.getElem?_eq_none (by omega)]
    have g00 := dF g00
    rw [Dt.pvL_len] at g00
    obtain ⟨nm, vs, cs, _, hg, hg2, _⟩ := Dt.get_pvL (l := D) (i := n.toNat) (by omega)
    rw [e5, hg2] at hR
    simp only [show 0 ≤ n by omega, decide_true, Bool.true_and] at hR
    refine ⟨Dt.ag nm vs cs, ⟨by omega, hg⟩, ?_⟩
    set_option smartUnfolding false in conv => whnf
    refine br_intro (fun g1 => ?_) (fun g1 => ?_) <;> set_option smartUnfolding false in conv => whnf
    · refine rdB ?_
      rw [V.pvL_len] at g1
      have g1 : ¬ (ts.length : Int) = vs := by simpa using g1
      rw [← hR]
      symm
      simp only [Bool.and_eq_false_iff, decide_eq_false_iff_not]
      left; omega
    rw [V.pvL_len] at g1
    have g1 : (ts.length : Int) = vs := by simpa using g1
    rw [← g1] at hR
    simp only [Int.le_refl, decide_true, Bool.true_and] at hR
    refine vloop_intro (σ := Nat) (fun i => i ≤ ts.length ∧ V.okTL D vars (ts.drop i) = R) (fun i => [(0, .pv (.lst 3 (Dt.pvL D))), (2, .pv (.int .i64 vars)), (4, .bp 0 0), (7, .pv (.int .i64 (V.pvL ts).length)), (8, .pv (.int .i64 i))])
      (fun _ => [.box 25 [.pv (.int .i64 k), .pv (.int .i64 n), .pv (.lst 3 (V.pvL ts))]]) (fun i => ts.length - i) 0 ⟨by simp, by simpa using hR⟩ (weak_sub ⟨(by kernel_rfl), (by kernel_rfl), (by kernel_rfl), (by kernel_rfl), (by kernel_rfl), trivial⟩) ?_
    rintro i ⟨hi, hs⟩
    set_option smartUnfolding false in conv => whnf
    refine br_intro (fun h => ?_) (fun h => ?_) <;> set_option smartUnfolding false in conv => whnf
    · replace h : i < ts.length := by have := dT h; rw [V.pvL_len] at this; simpa using this
      obtain ⟨⟨k', n', ts'⟩, hv, hg, _, hd⟩ := V.get_pvL h
      rw [V.pv_mk] at hg
      rw [hd, V.okTL_cons] at hs
      have hih := ih _ hv
      rw [V.pv_mk] at hih
      refine ⟨V.ag k' n' ts', ⟨by simp, by simpa using hg⟩, ?_⟩
      set_option smartUnfolding false in conv => whnf
      refine acall_det (ps := [.lst 3 (Dt.pvL D), V.ag k' n' ts', .int .i64 vars]) hih ?_
      set_option smartUnfolding false in conv => whnf
      refine br_intro (fun g => ?_) (fun g => ?_) <;> set_option smartUnfolding false in conv => whnf
      · have g : V.okT D vars (.mk k' n' ts') = false := by simpa using g
        exact rdB (by rw [← hs, g]; rfl)
      · have g : V.okT D vars (.mk k' n' ts') = true := by simpa using g
        rw [g, Bool.true_and] at hs
        refine ⟨i + 1, ⟨h, hs⟩, weak_sub ⟨(by kernel_rfl), (by kernel_rfl), (by kernel_rfl), (by kernel_rfl), sUp h hl, trivial⟩, subUp h⟩
    · replace h : ¬ i < ts.length := by have := dF h; rw [V.pvL_len] at this; simpa using this
      rw [List.drop_of_length_le (by omega), V.okTL_nil] at hs
      exact rdB hs
  have h5 := dF h5
  refine br_intro (fun h6 => ?_) (fun h6 => ?_) <;> set_option smartUnfolding false in conv => whnf
  · rw [show V.shape D vars k n = some (decide (n = 0), 2, 6) by have h6 := dT h6; simp [V.shape, h6]] at hR
    simp only at hR
    refine br_intro (fun g1 => ?_) (fun g1 => ?_) <;> set_option smartUnfolding false in conv => whnf
    · have g1 : ¬ n = 0 := by simpa using g1
      exact rdB (by rw [← hR]; simp [g1])
    have g1 : n = 0 := by simpa using g1
    refine br_intro (fun g2 => ?_) (fun g2 => ?_) <;> set_option smartUnfolding false in conv => whnf
    · have g2 := dT g2
      rw [V.pvL_len] at g2
      exact rdB (by rw [← hR, decide_eq_false (p := (2 : Int) ≤ _) (by omega)]; simp)
    refine br_intro (fun g3 => ?_) (fun g3 => ?_) <;> set_option smartUnfolding false in conv => whnf
    · have g3 := dT g3
      rw [V.pvL_len] at g3
      exact rdB (by rw [← hR, decide_eq_false (p := _ ≤ (6 : Int)) (by omega)]; simp)
    have g2 := dF g2
    have g3 := dF g3
    rw [V.pvL_len] at g2 g3
    rw [decide_eq_true g1, decide_eq_true (p := (2 : Int) ≤ _) (by omega), decide_eq_true (p := _ ≤ (6 : Int)) (by omega)] at hR
    simp only [Bool.true_and] at hR
    refine vloop_intro (σ := Nat) (fun i => i ≤ ts.length ∧ V.okTL D vars (ts.drop i) = R) (fun i => [(0, .pv (.lst 3 (Dt.pvL D))), (2, .pv (.int .i64 vars)), (4, .bp 0 0), (7, .pv (.int .i64 (V.pvL ts).length)), (8, .pv (.int .i64 i))])
      (fun _ => [.box 25 [.pv (.int .i64 k), .pv (.int .i64 n), .pv (.lst 3 (V.pvL ts))]]) (fun i => ts.length - i) 0 ⟨by simp, by simpa using hR⟩ (weak_sub ⟨(by kernel_rfl), (by kernel_rfl), (by kernel_rfl), (by kernel_rfl), (by kernel_rfl), trivial⟩) ?_
    rintro i ⟨hi, hs⟩
    set_option smartUnfolding false in conv => whnf
    refine br_intro (fun h => ?_) (fun h => ?_) <;> set_option smartUnfolding false in conv => whnf
    · replace h : i < ts.length := by have := dT h; rw [V.pvL_len] at this; simpa using this
      obtain ⟨⟨k', n', ts'⟩, hv, hg, _, hd⟩ := V.get_pvL h
      rw [V.pv_mk] at hg
      rw [hd, V.okTL_cons] at hs
      have hih := ih _ hv
      rw [V.pv_mk] at hih
      refine ⟨V.ag k' n' ts', ⟨by simp, by simpa using hg⟩, ?_⟩
      set_option smartUnfolding false in conv => whnf
      refine acall_det (ps := [.lst 3 (Dt.pvL D), V.ag k' n' ts', .int .i64 vars]) hih ?_
      set_option smartUnfolding false in conv => whnf
      refine br_intro (fun g => ?_) (fun g => ?_) <;> set_option smartUnfolding false in conv => whnf
      · have g : V.okT D vars (.mk k' n' ts') = false := by simpa using g
        exact rdB (by rw [← hs, g]; rfl)
      · have g : V.okT D vars (.mk k' n' ts') = true := by simpa using g
        rw [g, Bool.true_and] at hs
        refine ⟨i + 1, ⟨h, hs⟩, weak_sub ⟨(by kernel_rfl), (by kernel_rfl), (by kernel_rfl), (by kernel_rfl), sUp h hl, trivial⟩, subUp h⟩
    · replace h : ¬ i < ts.length := by have := dF h; rw [V.pvL_len] at this; simpa using this
      rw [List.drop_of_length_le (by omega), V.okTL_nil] at hs
      exact rdB hs
  have h6 := dF h6
  refine br_intro (fun h7 => ?_) (fun h7 => ?_) <;> set_option smartUnfolding false in conv => whnf
  · rw [show V.shape D vars k n = some (decide (n = 0), 1, 1) by have h7 := dT h7; simp [V.shape, h7]] at hR
    simp only at hR
    refine br_intro (fun g1 => ?_) (fun g1 => ?_) <;> set_option smartUnfolding false in conv => whnf
    · have g1 : ¬ n = 0 := by simpa using g1
      exact rdB (by rw [← hR]; simp [g1])
    have g1 : n = 0 := by simpa using g1
    refine br_intro (fun g2 => ?_) (fun g2 => ?_) <;> set_option smartUnfolding false in conv => whnf
    · rw [V.pvL_len] at g2
      have g2 : ¬ (ts.length : Int) = 1 := by simpa using g2
      refine rdB ?_
      rw [← hR]
      symm
      simp only [Bool.and_eq_false_iff, decide_eq_false_iff_not]
      left; omega
    rw [V.pvL_len] at g2
    have g2 : (ts.length : Int) = 1 := by simpa using g2
    rw [decide_eq_true g1, decide_eq_true (p := (1 : Int) ≤ _) (by omega), decide_eq_true (p := _ ≤ (1 : Int)) (by omega)] at hR
    simp only [Bool.true_and] at hR
    refine vloop_intro (σ := Nat) (fun i => i ≤ ts.length ∧ V.okTL D vars (ts.drop i) = R) (fun i => [(0, .pv (.lst 3 (Dt.pvL D))), (2, .pv (.int .i64 vars)), (4, .bp 0 0), (7, .pv (.int .i64 (V.pvL ts).length)), (8, .pv (.int .i64 i))])
      (fun _ => [.box 25 [.pv (.int .i64 k), .pv (.int .i64 n), .pv (.lst 3 (V.pvL ts))]]) (fun i => ts.length - i) 0 ⟨by simp, by simpa using hR⟩ (weak_sub ⟨(by kernel_rfl), (by kernel_rfl), (by kernel_rfl), (by kernel_rfl), (by kernel_rfl), trivial⟩) ?_
    rintro i ⟨hi, hs⟩
    set_option smartUnfolding false in conv => whnf
    refine br_intro (fun h => ?_) (fun h => ?_) <;> set_option smartUnfolding false in conv => whnf
    · replace h : i < ts.length := by have := dT h; rw [V.pvL_len] at this; simpa using this
      obtain ⟨⟨k', n', ts'⟩, hv, hg, _, hd⟩ := V.get_pvL h
      rw [V.pv_mk] at hg
      rw [hd, V.okTL_cons] at hs
      have hih := ih _ hv
      rw [V.pv_mk] at hih
      refine ⟨V.ag k' n' ts', ⟨by simp, by simpa using hg⟩, ?_⟩
      set_option smartUnfolding false in conv => whnf
      refine acall_det (ps := [.lst 3 (Dt.pvL D), V.ag k' n' ts', .int .i64 vars]) hih ?_
      set_option smartUnfolding false in conv => whnf
      refine br_intro (fun g => ?_) (fun g => ?_) <;> set_option smartUnfolding false in conv => whnf
      · have g : V.okT D vars (.mk k' n' ts') = false := by simpa using g
        exact rdB (by rw [← hs, g]; rfl)
      · have g : V.okT D vars (.mk k' n' ts') = true := by simpa using g
        rw [g, Bool.true_and] at hs
        refine ⟨i + 1, ⟨h, hs⟩, weak_sub ⟨(by kernel_rfl), (by kernel_rfl), (by kernel_rfl), (by kernel_rfl), sUp h hl, trivial⟩, subUp h⟩
    · replace h : ¬ i < ts.length := by have := dF h; rw [V.pvL_len] at this; simpa using this
      rw [List.drop_of_length_le (by omega), V.okTL_nil] at hs
      exact rdB hs
  have h7 := dF h7
  refine br_intro (fun h8 => ?_) (fun h8 => ?_) <;> set_option smartUnfolding false in conv => whnf
  · rw [show V.shape D vars k n = some (decide (n = 0), 1, 1) by have h8 := dT h8; simp [V.shape, h8]] at hR
    simp only at hR
    refine br_intro (fun g1 => ?_) (fun g1 => ?_) <;> set_option smartUnfolding false in conv => whnf
    · have g1 : ¬ n = 0 := by simpa using g1
      exact rdB (by rw [← hR]; simp [g1])
    have g1 : n = 0 := by simpa using g1
    refine br_intro (fun g2 => ?_) (fun g2 => ?_) <;> set_option smartUnfolding false in conv => whnf
    · rw [V.pvL_len] at g2
      have g2 : ¬ (ts.length : Int) = 1 := by simpa using g2
      refine rdB ?_
      rw [← hR]
      symm
      simp only [Bool.and_eq_false_iff, decide_eq_false_iff_not]
      left; omega
    rw [V.pvL_len] at g2
    have g2 : (ts.length : Int) = 1 := by simpa using g2
    rw [decide_eq_true g1, decide_eq_true (p := (1 : Int) ≤ _) (by omega), decide_eq_true (p := _ ≤ (1 : Int)) (by omega)] at hR
    simp only [Bool.true_and] at hR
    refine vloop_intro (σ := Nat) (fun i => i ≤ ts.length ∧ V.okTL D vars (ts.drop i) = R) (fun i => [(0, .pv (.lst 3 (Dt.pvL D))), (2, .pv (.int .i64 vars)), (4, .bp 0 0), (7, .pv (.int .i64 (V.pvL ts).length)), (8, .pv (.int .i64 i))])
      (fun _ => [.box 25 [.pv (.int .i64 k), .pv (.int .i64 n), .pv (.lst 3 (V.pvL ts))]]) (fun i => ts.length - i) 0 ⟨by simp, by simpa using hR⟩ (weak_sub ⟨(by kernel_rfl), (by kernel_rfl), (by kernel_rfl), (by kernel_rfl), (by kernel_rfl), trivial⟩) ?_
    rintro i ⟨hi, hs⟩
    set_option smartUnfolding false in conv => whnf
    refine br_intro (fun h => ?_) (fun h => ?_) <;> set_option smartUnfolding false in conv => whnf
    · replace h : i < ts.length := by have := dT h; rw [V.pvL_len] at this; simpa using this
      obtain ⟨⟨k', n', ts'⟩, hv, hg, _, hd⟩ := V.get_pvL h
      rw [V.pv_mk] at hg
      rw [hd, V.okTL_cons] at hs
      have hih := ih _ hv
      rw [V.pv_mk] at hih
      refine ⟨V.ag k' n' ts', ⟨by simp, by simpa using hg⟩, ?_⟩
      set_option smartUnfolding false in conv => whnf
      refine acall_det (ps := [.lst 3 (Dt.pvL D), V.ag k' n' ts', .int .i64 vars]) hih ?_
      set_option smartUnfolding false in conv => whnf
      refine br_intro (fun g => ?_) (fun g => ?_) <;> set_option smartUnfolding false in conv => whnf
      · have g : V.okT D vars (.mk k' n' ts') = false := by simpa using g
        exact rdB (by rw [← hs, g]; rfl)
      · have g : V.okT D vars (.mk k' n' ts') = true := by simpa using g
        rw [g, Bool.true_and] at hs
        refine ⟨i + 1, ⟨h, hs⟩, weak_sub ⟨(by kernel_rfl), (by kernel_rfl), (by kernel_rfl), (by kernel_rfl), sUp h hl, trivial⟩, subUp h⟩
    · replace h : ¬ i < ts.length := by have := dF h; rw [V.pvL_len] at this; simpa using this
      rw [List.drop_of_length_le (by omega), V.okTL_nil] at hs
      exact rdB hs
  have h8 := dF h8
  refine br_intro (fun h9 => ?_) (fun h9 => ?_) <;> set_option smartUnfolding false in conv => whnf
  · rw [show V.shape D vars k n = some (decide (n = 0), 1, 7) by have h9 := dT h9; simp [V.shape, h9]] at hR
    simp only at hR
    refine br_intro (fun g1 => ?_) (fun g1 => ?_) <;> set_option smartUnfolding false in conv => whnf
    · have g1 : ¬ n = 0 := by simpa using g1
      exact rdB (by rw [← hR]; simp [g1])
    have g1 : n = 0 := by simpa using g1
    refine br_intro (fun g2 => ?_) (fun g2 => ?_) <;> set_option smartUnfolding false in conv => whnf
    · have g2 := dT g2
      rw [V.pvL_len] at g2
      exact rdB (by rw [← hR, decide_eq_false (p := (1 : Int) ≤ _) (by omega)]; simp)
    refine br_intro (fun g3 => ?_) (fun g3 => ?_) <;> set_option smartUnfolding false in conv => whnf
    · have g3 := dT g3
      rw [V.pvL_len] at g3
      exact rdB (by rw [← hR, decide_eq_false (p := _ ≤ (7 : Int)) (by omega)]; simp)
    have g2 := dF g2
    have g3 := dF g3
    rw [V.pvL_len] at g2 g3
    rw [decide_eq_true g1, decide_eq_true (p := (1 : Int) ≤ _) (by omega), decide_eq_true (p := _ ≤ (7 : Int)) (by omega)] at hR
    simp only [Bool.true_and] at hR
    refine vloop_intro (σ := Nat) (fun i => i ≤ ts.length ∧ V.okTL D vars (ts.drop i) = R) (fun i => [(0, .pv (.lst 3 (Dt.pvL D))), (2, .pv (.int .i64 vars)), (4, .bp 0 0), (7, .pv (.int .i64 (V.pvL ts).length)), (8, .pv (.int .i64 i))])
      (fun _ => [.box 25 [.pv (.int .i64 k), .pv (.int .i64 n), .pv (.lst 3 (V.pvL ts))]]) (fun i => ts.length - i) 0 ⟨by simp, by simpa using hR⟩ (weak_sub ⟨(by kernel_rfl), (by kernel_rfl), (by kernel_rfl), (by kernel_rfl), (by kernel_rfl), trivial⟩) ?_
    rintro i ⟨hi, hs⟩
    set_option smartUnfolding false in conv => whnf
    refine br_intro (fun h => ?_) (fun h => ?_) <;> set_option smartUnfolding false in conv => whnf
    · replace h : i < ts.length := by have := dT h; rw [V.pvL_len] at this; simpa using this
      obtain ⟨⟨k', n', ts'⟩, hv, hg, _, hd⟩ := V.get_pvL h
      rw [V.pv_mk] at hg
      rw [hd, V.okTL_cons] at hs
      have hih := ih _ hv
      rw [V.pv_mk] at hih
      refine ⟨V.ag k' n' ts', ⟨by simp, by simpa using hg⟩, ?_⟩
      set_option smartUnfolding false in conv => whnf
      refine acall_det (ps := [.lst 3 (Dt.pvL D), V.ag k' n' ts', .int .i64 vars]) hih ?_
      set_option smartUnfolding false in conv => whnf
      refine br_intro (fun g => ?_) (fun g => ?_) <;> set_option smartUnfolding false in conv => whnf
      · have g : V.okT D vars (.mk k' n' ts') = false := by simpa using g
        exact rdB (by rw [← hs, g]; rfl)
      · have g : V.okT D vars (.mk k' n' ts') = true := by simpa using g
        rw [g, Bool.true_and] at hs
        refine ⟨i + 1, ⟨h, hs⟩, weak_sub ⟨(by kernel_rfl), (by kernel_rfl), (by kernel_rfl), (by kernel_rfl), sUp h hl, trivial⟩, subUp h⟩
    · replace h : ¬ i < ts.length := by have := dF h; rw [V.pvL_len] at this; simpa using this
      rw [List.drop_of_length_le (by omega), V.okTL_nil] at hs
      exact rdB hs
  have h9 := dF h9
  exact rdB (by rw [← hR, show V.shape D vars k n = Option.none by simp [V.shape, h1, h2, h3, h4, h5, h6, h7, h8, h9]])

theorem rValid_det (D : List Dt) (vars : Int) (t : V) (hc : t.cnt ≤ 1000000) : Det Tryz.prog 31 [.lst 3 (Dt.pvL D), t.pv, .int .i64 vars] (.bool (V.okW D vars t)) := by
  have a1 := rtsize_det t hc
  have a2 := rvalid_det D vars t
  have e : V.okW D vars t = (decide (t.cnt ≤ 200) && V.okT D vars t) := by rw [V.okW]
  rw [e]
  obtain ⟨k, n, ts⟩ := t
  rw [V.pv_mk] at a1 a2 ⊢
  refine det_of_vc' (E := S.E 0) rfl fol Tryz.func31 rfl rfl (slots := [6]) rfl rfl fun hw => ?_
  set_option smartUnfolding false in conv => whnf
  refine acall_det (ps := [V.ag k n ts]) a1 ?_
  set_option smartUnfolding false in conv => whnf
  refine br_intro (fun h => ?_) (fun h => ?_) <;> set_option smartUnfolding false in conv => whnf
  · refine acall_det (ps := [.lst 3 (Dt.pvL D), V.ag k n ts, .int .i64 vars]) a2 ?_
    set_option smartUnfolding false in conv => whnf
    have h := dT h
    exact rdB (by rw [decide_eq_true (by omega), Bool.true_and])
  · have h := dF h
    exact rdB (by rw [decide_eq_false (by omega), Bool.false_and])
end Go.AM

set_option linter.all false
set_option maxRecDepth 4000
namespace Go.AM
open Go.Proofs

mutual
/-- The variables of a type replaced. -/
def V.sub (us : List V) : V → V
  | .mk k n ts => if k = 4 ∧ 0 ≤ n ∧ n < us.length then (us[n.toNat]?.getD (.mk 0 0 [])) else .mk k n (V.subL us ts)
def V.subL (us : List V) : List V → List V
  | [] => []
  | t :: l => V.sub us t :: V.subL us l
end
theorem V.sub_mk (us : List V) (k n : Int) (ts : List V) : V.sub us (.mk k n ts) = if k = 4 ∧ 0 ≤ n ∧ n < us.length then (us[n.toNat]?.getD (.mk 0 0 [])) else .mk k n (V.subL us ts) := by rw [V.sub]
theorem V.subL_nil (us : List V) : V.subL us [] = [] := by rw [V.subL]
theorem V.subL_cons (us : List V) (t : V) (l : List V) : V.subL us (t :: l) = V.sub us t :: V.subL us l := by rw [V.subL]
mutual
theorem V.sub_none : ∀ t : V, V.sub [] t = t
  | .mk k n ts => by rw [V.sub_mk, if_neg (by rintro ⟨_, h1, h2⟩; simp at h2; omega), V.subL_none ts]
theorem V.subL_none : ∀ l : List V, V.subL [] l = l
  | [] => V.subL_nil _
  | t :: l => by rw [V.subL_cons, V.sub_none t, V.subL_none l]
end
attribute [irreducible] V.sub V.subL
theorem V.pvL_cons (v : V) (l : List V) : V.pvL (v :: l) = v.pv :: V.pvL l := by simp [V.pvL_eq]
theorem V.pvL_nil : V.pvL [] = [] := by simp [V.pvL_eq]

theorem copied_det (t : V) : t.cnt ≤ 1000000 → Det Tryz.prog 130 [t.pv] t.pv := by
  refine V.recOn' (p := fun t => t.cnt ≤ 1000000 → Det Tryz.prog 130 [t.pv] t.pv) (fun k n ts ih hc => ?_) t
  rw [V.cnt_mk] at hc
  have hlc := V.len_cntL ts
  rw [V.pv_mk]
  refine det_of_vcc (E := S.E 0) rfl fol Tryz.func130 rfl rfl (cell := (2, 25)) rfl rfl fun hw => ?_
  have hl := V.lenle hw.1
  set_option smartUnfolding false in conv => whnf
  refine vloop_intro (σ := Nat × List PV) (fun x => x.1 ≤ ts.length ∧ x.2 ++ V.pvL (ts.drop x.1) = V.pvL ts ∧ x.2.length = x.1) (fun x => [(1, .bp 0 0), (2, .bp 1 0), (3, .bp 2 0), (4, .pv (.int .i64 x.1))])
    (fun x => [.box 25 [.pv (.int .i64 k), .pv (.int .i64 n), .pv (.lst 3 (V.pvL ts))], .box 25 [.pv (.int .i64 0), .pv (.int .i64 0), .pv .nils], .box 25 [.pv (.int .i64 k), .pv (.int .i64 n), lsV 3 x.2], lsB 25 3 x.2])
    (fun x => ts.length - x.1) (0, []) ⟨by simp, by simp, rfl⟩ (weak_ren [0, 1, 2, 3] 4 (by kernel_rfl) (blk (by kernel_rfl) (blk (by kernel_rfl) (blk (by kernel_rfl) (blkD trivial)))) ⟨(by kernel_rfl), (by kernel_rfl), (by kernel_rfl), (by kernel_rfl), trivial⟩) ?_
  rintro ⟨i, ps⟩ ⟨hi, hs, hpl⟩
  simp only at hi hs hpl
  set_option smartUnfolding false in conv => whnf
  refine br_intro (fun h => ?_) (fun h => ?_) <;> set_option smartUnfolding false in conv => whnf
  · replace h : i < ts.length := by have := dT h; rw [V.pvL_len] at this; simpa using this
    obtain ⟨⟨k', n', ts'⟩, hv, hg, _, hd⟩ := V.get_pvL h
    have hih := ih _ hv (by have := V.cnt_mem hv; omega)
    rw [V.pv_mk] at hg hih
    rw [hd, V.pvL_cons, V.pv_mk] at hs
    refine ⟨V.ag k' n' ts', ⟨by simp, by simpa using hg⟩, ?_⟩
    set_option smartUnfolding false in conv => whnf
    refine acall_det (ps := [V.ag k' n' ts']) hih ?_
    set_option smartUnfolding false in conv => whnf
    refine ⟨Nat.le_refl 1, ?_⟩
    set_option smartUnfolding false in conv => whnf
    cases ps with
    | nil =>
      set_option smartUnfolding false in conv => whnf
      refine ⟨⟨⟨by decide, by decide⟩, by decide⟩, ?_⟩
      set_option smartUnfolding false in conv => whnf
      exact ⟨(i + 1, [] ++ [V.ag k' n' ts']), ⟨h, hs, by simp at hpl ⊢; omega⟩, weak_ren [0, 1, 2, 5] 6 (by kernel_rfl) (blk (by kernel_rfl) (blk (by kernel_rfl) (blk (by kernel_rfl) (blk (by kernel_rfl) trivial)))) ⟨(by kernel_rfl), (by kernel_rfl), (by kernel_rfl), sUp h hl, trivial⟩, subUp h⟩
    | cons p ps =>
      set_option smartUnfolding false in conv => whnf
      simp only [List.length_cons] at hpl
      refine ⟨⟨⟨by simp [pvs_len], by simp only [Nat.succ_eq_add_one]; omega⟩, by rw [show ((S.E 0).te 25).bytes = 40 from rfl]; simp only [Nat.succ_eq_add_one]; omega⟩, ?_⟩
      set_option smartUnfolding false in conv => whnf
      exact ⟨(i + 1, (p :: ps) ++ [V.ag k' n' ts']), ⟨h, by rw [← hs]; simp, by simp; omega⟩, weak_ren [0, 1, 2, 5] 6 (by kernel_rfl) (blk (by kernel_rfl) (blk (by kernel_rfl) (blk (by simp only [lsV_snoc]; kernel_rfl) (blkR_snoc (by kernel_rfl) trivial)))) ⟨(by kernel_rfl), (by kernel_rfl), (by kernel_rfl), sUp h hl, trivial⟩, subUp h⟩
  · replace h : ¬ i < ts.length := by have := dF h; rw [V.pvL_len] at this; simpa using this
    rw [List.drop_of_length_le (by omega), V.pvL_nil, List.append_nil] at hs
    cases ps with
    | nil =>
      set_option smartUnfolding false in conv => whnf
      exact .le (.agg (.cons (.refl _) (.cons (.refl _) (.cons (ple_nils hs) .nil))))
    | cons p ps =>
      set_option smartUnfolding false in conv => whnf
      exact .mix (.cons (.pv _) (.cons (.pv _) (.cons (rd_lsE (k := 3) hs rfl trivial rfl) .nil)))
end Go.AM

set_option linter.all false
set_option maxRecDepth 4000
set_option maxHeartbeats 2000000
namespace Go.AM
open Go.Proofs

theorem V.sub_else {us : List V} {k n : Int} (ts : List V) (h : ¬ (k = 4 ∧ 0 ≤ n ∧ n < us.length)) : V.sub us (.mk k n ts) = .mk k n (V.subL us ts) := by rw [V.sub_mk, if_neg h]



theorem tsubst_of (us : List V) (hclone : ∀ u ∈ us, Det Tryz.prog 123 [u.pv] u.pv) (t : V) : t.cnt ≤ 1000000 → Det Tryz.prog 88 [t.pv, .lst 3 (V.pvL us)] (V.sub us t).pv := by
  refine V.recOn' (p := fun t => t.cnt ≤ 1000000 → Det Tryz.prog 88 [t.pv, .lst 3 (V.pvL us)] (V.sub us t).pv) (fun k n ts ih hc => ?_) t
  rw [V.cnt_mk] at hc
  have hlc := V.len_cntL ts
  rw [V.pv_mk]
  refine det_of_vcc (E := S.E 0) rfl fol Tryz.func88 rfl rfl (cell := (4, 25)) rfl rfl fun hw => ?_
  have hl := V.lenle hw.1
  set_option smartUnfolding false in conv => whnf
  refine br_intro (fun h1 => ?_) (fun h1 => ?_) <;> set_option smartUnfolding false in conv => whnf
  rotate_left
  · have hno : ¬ (k = 4 ∧ 0 ≤ n ∧ n < us.length) := fun h => dF h1 h.1
    rw [V.sub_else ts hno, V.pv_mk]
    refine vloop_intro (σ := Nat × List PV) (fun x => x.1 ≤ ts.length ∧ x.2 ++ V.pvL (V.subL us (ts.drop x.1)) = V.pvL (V.subL us ts) ∧ x.2.length = x.1) (fun x => [(1, .pv (.lst 3 (V.pvL us))), (2, .bp 0 0), (4, .bp 1 0), (5, .bp 2 0), (35, .pv (.lst 3 (V.pvL ts))), (36, .pv (.int .i64 (V.pvL ts).length)), (37, .pv (.int .i64 x.1))])
      (fun x => [.box 25 [.pv (.int .i64 k), .pv (.int .i64 n), .pv (.lst 3 (V.pvL ts))], .box 25 [.pv (.int .i64 0), .pv (.int .i64 0), .pv .nils], .box 25 [.pv (.int .i64 k), .pv (.int .i64 n), lsV 3 x.2], lsB 25 3 x.2])
      (fun x => ts.length - x.1) (0, []) ⟨by simp, by simp, rfl⟩ (weak_ren [0, 1, 2, 3] 4 (by kernel_rfl) (blk (by kernel_rfl) (blk (by kernel_rfl) (blk (by kernel_rfl) (blkD trivial)))) ⟨(by kernel_rfl), (by kernel_rfl), (by kernel_rfl), (by kernel_rfl), (by kernel_rfl), (by kernel_rfl), (by kernel_rfl), trivial⟩) ?_
    rintro ⟨i, ps⟩ ⟨hi, hs, hpl⟩
    simp only at hi hs hpl
    set_option smartUnfolding false in conv => whnf
    refine br_intro (fun h => ?_) (fun h => ?_) <;> set_option smartUnfolding false in conv => whnf
    · replace h : i < ts.length := by have := dT h; rw [V.pvL_len] at this; simpa using this
      obtain ⟨⟨k', n', ts'⟩, hv, hg, _, hd⟩ := V.get_pvL h
      have hih := ih _ hv (by have := V.cnt_mem hv; omega)
      rw [hd, V.subL_cons, V.pvL_cons] at hs
      cases hsub : V.sub us (.mk k' n' ts') with
      | mk k2 n2 ts2 =>
        rw [hsub, V.pv_mk] at hs hih
        rw [V.pv_mk] at hg hih
        refine ⟨V.ag k' n' ts', ⟨by simp, by simpa using hg⟩, ?_⟩
        set_option smartUnfolding false in conv => whnf
        refine acall_det (ps := [V.ag k' n' ts', .lst 3 (V.pvL us)]) hih ?_
        set_option smartUnfolding false in conv => whnf
        refine ⟨Nat.le_refl 1, ?_⟩
        set_option smartUnfolding false in conv => whnf
        cases ps with
        | nil =>
          set_option smartUnfolding false in conv => whnf
          refine ⟨⟨⟨by decide, by decide⟩, by decide⟩, ?_⟩
          set_option smartUnfolding false in conv => whnf
          exact ⟨(i + 1, [] ++ [V.ag k2 n2 ts2]), ⟨h, hs, by simp at hpl ⊢; omega⟩, weak_ren [0, 1, 2, 6] 7 (by kernel_rfl) (blk (by kernel_rfl) (blk (by kernel_rfl) (blk (by kernel_rfl) (blk (by kernel_rfl) trivial)))) ⟨(by kernel_rfl), (by kernel_rfl), (by kernel_rfl), (by kernel_rfl), (by kernel_rfl), (by kernel_rfl), sUp h hl, trivial⟩, subUp h⟩
        | cons p ps =>
          set_option smartUnfolding false in conv => whnf
          simp only [List.length_cons] at hpl
          refine ⟨⟨⟨by simp [pvs_len], by simp only [Nat.succ_eq_add_one]; omega⟩, by rw [show ((S.E 0).te 25).bytes = 40 from rfl]; simp only [Nat.succ_eq_add_one]; omega⟩, ?_⟩
          set_option smartUnfolding false in conv => whnf
          exact ⟨(i + 1, (p :: ps) ++ [V.ag k2 n2 ts2]), ⟨h, by rw [← hs]; simp, by simp; omega⟩, weak_ren [0, 1, 2, 6] 7 (by kernel_rfl) (blk (by kernel_rfl) (blk (by kernel_rfl) (blk (by simp only [lsV_snoc]; kernel_rfl) (blkR_snoc (by kernel_rfl) trivial)))) ⟨(by kernel_rfl), (by kernel_rfl), (by kernel_rfl), (by kernel_rfl), (by kernel_rfl), (by kernel_rfl), sUp h hl, trivial⟩, subUp h⟩
    · replace h : ¬ i < ts.length := by have := dF h; rw [V.pvL_len] at this; simpa using this
      rw [List.drop_of_length_le (by omega), V.subL_nil, V.pvL_nil, List.append_nil] at hs
      cases ps with
      | nil =>
        set_option smartUnfolding false in conv => whnf
        exact .le (.agg (.cons (.refl _) (.cons (.refl _) (.cons (ple_nils hs) .nil))))
      | cons p ps =>
        set_option smartUnfolding false in conv => whnf
        exact .mix (.cons (.pv _) (.cons (.pv _) (.cons (rd_lsE (k := 3) hs rfl trivial rfl) .nil)))
  refine br_intro (fun h2 => ?_) (fun h2 => ?_) <;> set_option smartUnfolding false in conv => whnf
  rotate_left
  · have hno : ¬ (k = 4 ∧ 0 ≤ n ∧ n < us.length) := fun h => dF h2 h.2.1
    rw [V.sub_else ts hno, V.pv_mk]
    refine vloop_intro (σ := Nat × List PV) (fun x => x.1 ≤ ts.length ∧ x.2 ++ V.pvL (V.subL us (ts.drop x.1)) = V.pvL (V.subL us ts) ∧ x.2.length = x.1) (fun x => [(1, .pv (.lst 3 (V.pvL us))), (2, .bp 0 0), (4, .bp 1 0), (5, .bp 2 0), (35, .pv (.lst 3 (V.pvL ts))), (36, .pv (.int .i64 (V.pvL ts).length)), (37, .pv (.int .i64 x.1))])
      (fun x => [.box 25 [.pv (.int .i64 k), .pv (.int .i64 n), .pv (.lst 3 (V.pvL ts))], .box 25 [.pv (.int .i64 0), .pv (.int .i64 0), .pv .nils], .box 25 [.pv (.int .i64 k), .pv (.int .i64 n), lsV 3 x.2], lsB 25 3 x.2])
      (fun x => ts.length - x.1) (0, []) ⟨by simp, by simp, rfl⟩ (weak_ren [0, 1, 2, 3] 4 (by kernel_rfl) (blk (by kernel_rfl) (blk (by kernel_rfl) (blk (by kernel_rfl) (blkD trivial)))) ⟨(by kernel_rfl), (by kernel_rfl), (by kernel_rfl), (by kernel_rfl), (by kernel_rfl), (by kernel_rfl), (by kernel_rfl), trivial⟩) ?_
    rintro ⟨i, ps⟩ ⟨hi, hs, hpl⟩
    simp only at hi hs hpl
    set_option smartUnfolding false in conv => whnf
    refine br_intro (fun h => ?_) (fun h => ?_) <;> set_option smartUnfolding false in conv => whnf
    · replace h : i < ts.length := by have := dT h; rw [V.pvL_len] at this; simpa using this
      obtain ⟨⟨k', n', ts'⟩, hv, hg, _, hd⟩ := V.get_pvL h
      have hih := ih _ hv (by have := V.cnt_mem hv; omega)
      rw [hd, V.subL_cons, V.pvL_cons] at hs
      cases hsub : V.sub us (.mk k' n' ts') with
      | mk k2 n2 ts2 =>
        rw [hsub, V.pv_mk] at hs hih
        rw [V.pv_mk] at hg hih
        refine ⟨V.ag k' n' ts', ⟨by simp, by simpa using hg⟩, ?_⟩
        set_option smartUnfolding false in conv => whnf
        refine acall_det (ps := [V.ag k' n' ts', .lst 3 (V.pvL us)]) hih ?_
        set_option smartUnfolding false in conv => whnf
        refine ⟨Nat.le_refl 1, ?_⟩
        set_option smartUnfolding false in conv => whnf
        cases ps with
        | nil =>
          set_option smartUnfolding false in conv => whnf
          refine ⟨⟨⟨by decide, by decide⟩, by decide⟩, ?_⟩
          set_option smartUnfolding false in conv => whnf
          exact ⟨(i + 1, [] ++ [V.ag k2 n2 ts2]), ⟨h, hs, by simp at hpl ⊢; omega⟩, weak_ren [0, 1, 2, 6] 7 (by kernel_rfl) (blk (by kernel_rfl) (blk (by kernel_rfl) (blk (by kernel_rfl) (blk (by kernel_rfl) trivial)))) ⟨(by kernel_rfl), (by kernel_rfl), (by kernel_rfl), (by kernel_rfl), (by kernel_rfl), (by kernel_rfl), sUp h hl, trivial⟩, subUp h⟩
        | cons p ps =>
          set_option smartUnfolding false in conv => whnf
          simp only [List.length_cons] at hpl
          refine ⟨⟨⟨by simp [pvs_len], by simp only [Nat.succ_eq_add_one]; omega⟩, by rw [show ((S.E 0).te 25).bytes = 40 from rfl]; simp only [Nat.succ_eq_add_one]; omega⟩, ?_⟩
          set_option smartUnfolding false in conv => whnf
          exact ⟨(i + 1, (p :: ps) ++ [V.ag k2 n2 ts2]), ⟨h, by rw [← hs]; simp, by simp; omega⟩, weak_ren [0, 1, 2, 6] 7 (by kernel_rfl) (blk (by kernel_rfl) (blk (by kernel_rfl) (blk (by simp only [lsV_snoc]; kernel_rfl) (blkR_snoc (by kernel_rfl) trivial)))) ⟨(by kernel_rfl), (by kernel_rfl), (by kernel_rfl), (by kernel_rfl), (by kernel_rfl), (by kernel_rfl), sUp h hl, trivial⟩, subUp h⟩
    · replace h : ¬ i < ts.length := by have := dF h; rw [V.pvL_len] at this; simpa using this
      rw [List.drop_of_length_le (by omega), V.subL_nil, V.pvL_nil, List.append_nil] at hs
      cases ps with
      | nil =>
        set_option smartUnfolding false in conv => whnf
        exact .le (.agg (.cons (.refl _) (.cons (.refl _) (.cons (ple_nils hs) .nil))))
      | cons p ps =>
        set_option smartUnfolding false in conv => whnf
        exact .mix (.cons (.pv _) (.cons (.pv _) (.cons (rd_lsE (k := 3) hs rfl trivial rfl) .nil)))
  refine br_intro (fun h3 => ?_) (fun h3 => ?_) <;> set_option smartUnfolding false in conv => whnf
  rotate_left
  · have hno : ¬ (k = 4 ∧ 0 ≤ n ∧ n < us.length) := fun h => by have h3 := dF h3; rw [V.pvL_len] at h3; omega
    rw [V.sub_else ts hno, V.pv_mk]
    refine vloop_intro (σ := Nat × List PV) (fun x => x.1 ≤ ts.length ∧ x.2 ++ V.pvL (V.subL us (ts.drop x.1)) = V.pvL (V.subL us ts) ∧ x.2.length = x.1) (fun x => [(1, .pv (.lst 3 (V.pvL us))), (2, .bp 0 0), (4, .bp 1 0), (5, .bp 2 0), (35, .pv (.lst 3 (V.pvL ts))), (36, .pv (.int .i64 (V.pvL ts).length)), (37, .pv (.int .i64 x.1))])
      (fun x => [.box 25 [.pv (.int .i64 k), .pv (.int .i64 n), .pv (.lst 3 (V.pvL ts))], .box 25 [.pv (.int .i64 0), .pv (.int .i64 0), .pv .nils], .box 25 [.pv (.int .i64 k), .pv (.int .i64 n), lsV 3 x.2], lsB 25 3 x.2])
      (fun x => ts.length - x.1) (0, []) ⟨by simp, by simp, rfl⟩ (weak_ren [0, 1, 2, 3] 4 (by kernel_rfl) (blk (by kernel_rfl) (blk (by kernel_rfl) (blk (by kernel_rfl) (blkD trivial)))) ⟨(by kernel_rfl), (by kernel_rfl), (by kernel_rfl), (by kernel_rfl), (by kernel_rfl), (by kernel_rfl), (by kernel_rfl), trivial⟩) ?_
    rintro ⟨i, ps⟩ ⟨hi, hs, hpl⟩
    simp only at hi hs hpl
    set_option smartUnfolding false in conv => whnf
    refine br_intro (fun h => ?_) (fun h => ?_) <;> set_option smartUnfolding false in conv => whnf
    · replace h : i < ts.length := by have := dT h; rw [V.pvL_len] at this; simpa using this
      obtain ⟨⟨k', n', ts'⟩, hv, hg, _, hd⟩ := V.get_pvL h
      have hih := ih _ hv (by have := V.cnt_mem hv; omega)
      rw [hd, V.subL_cons, V.pvL_cons] at hs
      cases hsub : V.sub us (.mk k' n' ts') with
      | mk k2 n2 ts2 =>
        rw [hsub, V.pv_mk] at hs hih
        rw [V.pv_mk] at hg hih
        refine ⟨V.ag k' n' ts', ⟨by simp, by simpa using hg⟩, ?_⟩
        set_option smartUnfolding false in conv => whnf
        refine acall_det (ps := [V.ag k' n' ts', .lst 3 (V.pvL us)]) hih ?_
        set_option smartUnfolding false in conv => whnf
        refine ⟨Nat.le_refl 1, ?_⟩
        set_option smartUnfolding false in conv => whnf
        cases ps with
        | nil =>
          set_option smartUnfolding false in conv => whnf
          refine ⟨⟨⟨by decide, by decide⟩, by decide⟩, ?_⟩
          set_option smartUnfolding false in conv => whnf
          exact ⟨(i + 1, [] ++ [V.ag k2 n2 ts2]), ⟨h, hs, by simp at hpl ⊢; omega⟩, weak_ren [0, 1, 2, 6] 7 (by kernel_rfl) (blk (by kernel_rfl) (blk (by kernel_rfl) (blk (by kernel_rfl) (blk (by kernel_rfl) trivial)))) ⟨(by kernel_rfl), (by kernel_rfl), (by kernel_rfl), (by kernel_rfl), (by kernel_rfl), (by kernel_rfl), sUp h hl, trivial⟩, subUp h⟩
        | cons p ps =>
          set_option smartUnfolding false in conv => whnf
          simp only [List.length_cons] at hpl
          refine ⟨⟨⟨by simp [pvs_len], by simp only [Nat.succ_eq_add_one]; omega⟩, by rw [show ((S.E 0).te 25).bytes = 40 from rfl]; simp only [Nat.succ_eq_add_one]; omega⟩, ?_⟩
          set_option smartUnfolding false in conv => whnf
          exact ⟨(i + 1, (p :: ps) ++ [V.ag k2 n2 ts2]), ⟨h, by rw [← hs]; simp, by simp; omega⟩, weak_ren [0, 1, 2, 6] 7 (by kernel_rfl) (blk (by kernel_rfl) (blk (by kernel_rfl) (blk (by simp only [lsV_snoc]; kernel_rfl) (blkR_snoc (by kernel_rfl) trivial)))) ⟨(by kernel_rfl), (by kernel_rfl), (by kernel_rfl), (by kernel_rfl), (by kernel_rfl), (by kernel_rfl), sUp h hl, trivial⟩, subUp h⟩
    · replace h : ¬ i < ts.length := by have := dF h; rw [V.pvL_len] at this; simpa using this
      rw [List.drop_of_length_le (by omega), V.subL_nil, V.pvL_nil, List.append_nil] at hs
      cases ps with
      | nil =>
        set_option smartUnfolding false in conv => whnf
        exact .le (.agg (.cons (.refl _) (.cons (.refl _) (.cons (ple_nils hs) .nil))))
      | cons p ps =>
        set_option smartUnfolding false in conv => whnf
        exact .mix (.cons (.pv _) (.cons (.pv _) (.cons (rd_lsE (k := 3) hs rfl trivial rfl) .nil)))
  have h1 := dT h1
  have h2 := dT h2
  have h3 := dT h3
  rw [V.pvL_len] at h3
  obtain ⟨⟨k', n', ts'⟩, hv, hg, hg2, _⟩ := V.get_pvL (l := us) (i := n.toNat) (by omega)
  have e : V.sub us (.mk k n ts) = .mk k' n' ts' := by rw [V.sub_mk, if_pos ⟨h1, h2, h3⟩, hg2]; rfl
  have hcl := hclone _ hv
  rw [V.pv_mk] at hg hcl
  rw [e, V.pv_mk]
  refine ⟨V.ag k' n' ts', ⟨h2, hg⟩, ?_⟩
  set_option smartUnfolding false in conv => whnf
  refine acall_det (ps := [V.ag k' n' ts']) hcl ?_
  set_option smartUnfolding false in conv => whnf
  exact .pv _

theorem tclone_det (t : V) (hc : t.cnt ≤ 1000000) : Det Tryz.prog 123 [t.pv] t.pv := by
  have h := tsubst_of [] (fun u hu => by simp at hu) t hc
  rw [V.sub_none, V.pvL_nil] at h
  have h : Det Tryz.prog 88 [t.pv, .nils] t.pv := h.le (.cons (.refl _) (.cons (.nils 3) .nil))
  obtain ⟨k, n, ts⟩ := t
  rw [V.pv_mk] at h ⊢
  refine det_of_vcc (E := S.E 0) rfl fol Tryz.func123 rfl rfl (cell := (2, 25)) rfl rfl fun hw => ?_
  set_option smartUnfolding false in conv => whnf
  refine acall_det (ps := [V.ag k n ts, .nils]) h ?_
  set_option smartUnfolding false in conv => whnf
  exact .pv _
theorem tsubst_det (us : List V) (hu : ∀ u ∈ us, u.cnt ≤ 1000000) (t : V) (hc : t.cnt ≤ 1000000) : Det Tryz.prog 88 [t.pv, .lst 3 (V.pvL us)] (V.sub us t).pv :=
  tsubst_of us (fun u h => tclone_det u (hu u h)) t hc
end Go.AM

set_option linter.all false
set_option maxRecDepth 4000
set_option maxHeartbeats 2000000
namespace Go.AM
open Go.Proofs



theorem rsubst_det (us : List V) (hu : ∀ u ∈ us, u.cnt ≤ 1000000) (t : V) : t.cnt ≤ 1000000 → Det Tryz.prog 91 [t.pv, .lst 3 (V.pvL us)] (V.sub us t).pv := by
  refine V.recOn' (p := fun t => t.cnt ≤ 1000000 → Det Tryz.prog 91 [t.pv, .lst 3 (V.pvL us)] (V.sub us t).pv) (fun k n ts ih hc => ?_) t
  have hclone : ∀ u ∈ us, Det Tryz.prog 130 [u.pv] u.pv := fun u h => copied_det u (hu u h)
  rw [V.cnt_mk] at hc
  have hlc := V.len_cntL ts
  rw [V.pv_mk]
  refine det_of_vcc (E := S.E 0) rfl fol Tryz.func91 rfl rfl (cell := (4, 25)) rfl rfl fun hw => ?_
  have hl := V.lenle hw.1
  set_option smartUnfolding false in conv => whnf
  refine br_intro (fun h1 => ?_) (fun h1 => ?_) <;> set_option smartUnfolding false in conv => whnf
  rotate_left
  · have hno : ¬ (k = 4 ∧ 0 ≤ n ∧ n < us.length) := fun h => dF h1 h.1
    rw [V.sub_else ts hno, V.pv_mk]
    refine vloop_intro (σ := Nat × List PV) (fun x => x.1 ≤ ts.length ∧ x.2 ++ V.pvL (V.subL us (ts.drop x.1)) = V.pvL (V.subL us ts) ∧ x.2.length = x.1) (fun x => [(1, .pv (.lst 3 (V.pvL us))), (2, .bp 0 0), (4, .bp 1 0), (5, .bp 2 0), (6, .pv (.int .i64 x.1))])
      (fun x => [.box 25 [.pv (.int .i64 k), .pv (.int .i64 n), .pv (.lst 3 (V.pvL ts))], .box 25 [.pv (.int .i64 0), .pv (.int .i64 0), .pv .nils], .box 25 [.pv (.int .i64 k), .pv (.int .i64 n), lsV 3 x.2], lsB 25 3 x.2])
      (fun x => ts.length - x.1) (0, []) ⟨by simp, by simp, rfl⟩ (weak_ren [0, 1, 2, 3] 4 (by kernel_rfl) (blk (by kernel_rfl) (blk (by kernel_rfl) (blk (by kernel_rfl) (blkD trivial)))) ⟨(by kernel_rfl), (by kernel_rfl), (by kernel_rfl), (by kernel_rfl), (by kernel_rfl), trivial⟩) ?_
    rintro ⟨i, ps⟩ ⟨hi, hs, hpl⟩
    simp only at hi hs hpl
    set_option smartUnfolding false in conv => whnf
    refine br_intro (fun h => ?_) (fun h => ?_) <;> set_option smartUnfolding false in conv => whnf
    · replace h : i < ts.length := by have := dT h; rw [V.pvL_len] at this; simpa using this
      obtain ⟨⟨k', n', ts'⟩, hv, hg, _, hd⟩ := V.get_pvL h
      have hih := ih _ hv (by have := V.cnt_mem hv; omega)
      rw [hd, V.subL_cons, V.pvL_cons] at hs
      cases hsub : V.sub us (.mk k' n' ts') with
      | mk k2 n2 ts2 =>
        rw [hsub, V.pv_mk] at hs hih
        rw [V.pv_mk] at hg hih
        refine ⟨V.ag k' n' ts', ⟨by simp, by simpa using hg⟩, ?_⟩
        set_option smartUnfolding false in conv => whnf
        refine acall_det (ps := [V.ag k' n' ts', .lst 3 (V.pvL us)]) hih ?_
        set_option smartUnfolding false in conv => whnf
        refine ⟨Nat.le_refl 1, ?_⟩
        set_option smartUnfolding false in conv => whnf
        cases ps with
        | nil =>
          set_option smartUnfolding false in conv => whnf
          refine ⟨⟨⟨by decide, by decide⟩, by decide⟩, ?_⟩
          set_option smartUnfolding false in conv => whnf
          exact ⟨(i + 1, [] ++ [V.ag k2 n2 ts2]), ⟨h, hs, by simp at hpl ⊢; omega⟩, weak_ren [0, 1, 2, 5] 6 (by kernel_rfl) (blk (by kernel_rfl) (blk (by kernel_rfl) (blk (by kernel_rfl) (blk (by kernel_rfl) trivial)))) ⟨(by kernel_rfl), (by kernel_rfl), (by kernel_rfl), (by kernel_rfl), sUp h hl, trivial⟩, subUp h⟩
        | cons p ps =>
          set_option smartUnfolding false in conv => whnf
          simp only [List.length_cons] at hpl
          refine ⟨⟨⟨by simp [pvs_len], by simp only [Nat.succ_eq_add_one]; omega⟩, by rw [show ((S.E 0).te 25).bytes = 40 from rfl]; simp only [Nat.succ_eq_add_one]; omega⟩, ?_⟩
          set_option smartUnfolding false in conv => whnf
          exact ⟨(i + 1, (p :: ps) ++ [V.ag k2 n2 ts2]), ⟨h, by rw [← hs]; simp, by simp; omega⟩, weak_ren [0, 1, 2, 5] 6 (by kernel_rfl) (blk (by kernel_rfl) (blk (by kernel_rfl) (blk (by simp only [lsV_snoc]; kernel_rfl) (blkR_snoc (by kernel_rfl) trivial)))) ⟨(by kernel_rfl), (by kernel_rfl), (by kernel_rfl), (by kernel_rfl), sUp h hl, trivial⟩, subUp h⟩
    · replace h : ¬ i < ts.length := by have := dF h; rw [V.pvL_len] at this; simpa using this
      rw [List.drop_of_length_le (by omega), V.subL_nil, V.pvL_nil, List.append_nil] at hs
      cases ps with
      | nil =>
        set_option smartUnfolding false in conv => whnf
        exact .le (.agg (.cons (.refl _) (.cons (.refl _) (.cons (ple_nils hs) .nil))))
      | cons p ps =>
        set_option smartUnfolding false in conv => whnf
        exact .mix (.cons (.pv _) (.cons (.pv _) (.cons (rd_lsE (k := 3) hs rfl trivial rfl) .nil)))
  refine br_intro (fun h2 => ?_) (fun h2 => ?_) <;> set_option smartUnfolding false in conv => whnf
  rotate_left
  · have hno : ¬ (k = 4 ∧ 0 ≤ n ∧ n < us.length) := fun h => dF h2 h.2.1
    rw [V.sub_else ts hno, V.pv_mk]
    refine vloop_intro (σ := Nat × List PV) (fun x => x.1 ≤ ts.length ∧ x.2 ++ V.pvL (V.subL us (ts.drop x.1)) = V.pvL (V.subL us ts) ∧ x.2.length = x.1) (fun x => [(1, .pv (.lst 3 (V.pvL us))), (2, .bp 0 0), (4, .bp 1 0), (5, .bp 2 0), (6, .pv (.int .i64 x.1))])
      (fun x => [.box 25 [.pv (.int .i64 k), .pv (.int .i64 n), .pv (.lst 3 (V.pvL ts))], .box 25 [.pv (.int .i64 0), .pv (.int .i64 0), .pv .nils], .box 25 [.pv (.int .i64 k), .pv (.int .i64 n), lsV 3 x.2], lsB 25 3 x.2])
      (fun x => ts.length - x.1) (0, []) ⟨by simp, by simp, rfl⟩ (weak_ren [0, 1, 2, 3] 4 (by kernel_rfl) (blk (by kernel_rfl) (blk (by kernel_rfl) (blk (by kernel_rfl) (blkD trivial)))) ⟨(by kernel_rfl), (by kernel_rfl), (by kernel_rfl), (by kernel_rfl), (by kernel_rfl), trivial⟩) ?_
    rintro ⟨i, ps⟩ ⟨hi, hs, hpl⟩
    simp only at hi hs hpl
    set_option smartUnfolding false in conv => whnf
    refine br_intro (fun h => ?_) (fun h => ?_) <;> set_option smartUnfolding false in conv => whnf
    · replace h : i < ts.length := by have := dT h; rw [V.pvL_len] at this; simpa using this
      obtain ⟨⟨k', n', ts'⟩, hv, hg, _, hd⟩ := V.get_pvL h
      have hih := ih _ hv (by have := V.cnt_mem hv; omega)
      rw [hd, V.subL_cons, V.pvL_cons] at hs
      cases hsub : V.sub us (.mk k' n' ts') with
      | mk k2 n2 ts2 =>
        rw [hsub, V.pv_mk] at hs hih
        rw [V.pv_mk] at hg hih
        refine ⟨V.ag k' n' ts', ⟨by simp, by simpa using hg⟩, ?_⟩
        set_option smartUnfolding false in conv => whnf
        refine acall_det (ps := [V.ag k' n' ts', .lst 3 (V.pvL us)]) hih ?_
        set_option smartUnfolding false in conv => whnf
        refine ⟨Nat.le_refl 1, ?_⟩
        set_option smartUnfolding false in conv => whnf
        cases ps with
        | nil =>
          set_option smartUnfolding false in conv => whnf
          refine ⟨⟨⟨by decide, by decide⟩, by decide⟩, ?_⟩
          set_option smartUnfolding false in conv => whnf
          exact ⟨(i + 1, [] ++ [V.ag k2 n2 ts2]), ⟨h, hs, by simp at hpl ⊢; omega⟩, weak_ren [0, 1, 2, 5] 6 (by kernel_rfl) (blk (by kernel_rfl) (blk (by kernel_rfl) (blk (by kernel_rfl) (blk (by kernel_rfl) trivial)))) ⟨(by kernel_rfl), (by kernel_rfl), (by kernel_rfl), (by kernel_rfl), sUp h hl, trivial⟩, subUp h⟩
        | cons p ps =>
          set_option smartUnfolding false in conv => whnf
          simp only [List.length_cons] at hpl
          refine ⟨⟨⟨by simp [pvs_len], by simp only [Nat.succ_eq_add_one]; omega⟩, by rw [show ((S.E 0).te 25).bytes = 40 from rfl]; simp only [Nat.succ_eq_add_one]; omega⟩, ?_⟩
          set_option smartUnfolding false in conv => whnf
          exact ⟨(i + 1, (p :: ps) ++ [V.ag k2 n2 ts2]), ⟨h, by rw [← hs]; simp, by simp; omega⟩, weak_ren [0, 1, 2, 5] 6 (by kernel_rfl) (blk (by kernel_rfl) (blk (by kernel_rfl) (blk (by simp only [lsV_snoc]; kernel_rfl) (blkR_snoc (by kernel_rfl) trivial)))) ⟨(by kernel_rfl), (by kernel_rfl), (by kernel_rfl), (by kernel_rfl), sUp h hl, trivial⟩, subUp h⟩
    · replace h : ¬ i < ts.length := by have := dF h; rw [V.pvL_len] at this; simpa using this
      rw [List.drop_of_length_le (by omega), V.subL_nil, V.pvL_nil, List.append_nil] at hs
      cases ps with
      | nil =>
        set_option smartUnfolding false in conv => whnf
        exact .le (.agg (.cons (.refl _) (.cons (.refl _) (.cons (ple_nils hs) .nil))))
      | cons p ps =>
        set_option smartUnfolding false in conv => whnf
        exact .mix (.cons (.pv _) (.cons (.pv _) (.cons (rd_lsE (k := 3) hs rfl trivial rfl) .nil)))
  refine br_intro (fun h3 => ?_) (fun h3 => ?_) <;> set_option smartUnfolding false in conv => whnf
  rotate_left
  · have hno : ¬ (k = 4 ∧ 0 ≤ n ∧ n < us.length) := fun h => by have h3 := dF h3; rw [V.pvL_len] at h3; omega
    rw [V.sub_else ts hno, V.pv_mk]
    refine vloop_intro (σ := Nat × List PV) (fun x => x.1 ≤ ts.length ∧ x.2 ++ V.pvL (V.subL us (ts.drop x.1)) = V.pvL (V.subL us ts) ∧ x.2.length = x.1) (fun x => [(1, .pv (.lst 3 (V.pvL us))), (2, .bp 0 0), (4, .bp 1 0), (5, .bp 2 0), (6, .pv (.int .i64 x.1))])
      (fun x => [.box 25 [.pv (.int .i64 k), .pv (.int .i64 n), .pv (.lst 3 (V.pvL ts))], .box 25 [.pv (.int .i64 0), .pv (.int .i64 0), .pv .nils], .box 25 [.pv (.int .i64 k), .pv (.int .i64 n), lsV 3 x.2], lsB 25 3 x.2])
      (fun x => ts.length - x.1) (0, []) ⟨by simp, by simp, rfl⟩ (weak_ren [0, 1, 2, 3] 4 (by kernel_rfl) (blk (by kernel_rfl) (blk (by kernel_rfl) (blk (by kernel_rfl) (blkD trivial)))) ⟨(by kernel_rfl), (by kernel_rfl), (by kernel_rfl), (by kernel_rfl), (by kernel_rfl), trivial⟩) ?_
    rintro ⟨i, ps⟩ ⟨hi, hs, hpl⟩
    simp only at hi hs hpl
    set_option smartUnfolding false in conv => whnf
    refine br_intro (fun h => ?_) (fun h => ?_) <;> set_option smartUnfolding false in conv => whnf
    · replace h : i < ts.length := by have := dT h; rw [V.pvL_len] at this; simpa using this
      obtain ⟨⟨k', n', ts'⟩, hv, hg, _, hd⟩ := V.get_pvL h
      have hih := ih _ hv (by have := V.cnt_mem hv; omega)
      rw [hd, V.subL_cons, V.pvL_cons] at hs
      cases hsub : V.sub us (.mk k' n' ts') with
      | mk k2 n2 ts2 =>
        rw [hsub, V.pv_mk] at hs hih
        rw [V.pv_mk] at hg hih
        refine ⟨V.ag k' n' ts', ⟨by simp, by simpa using hg⟩, ?_⟩
        set_option smartUnfolding false in conv => whnf
        refine acall_det (ps := [V.ag k' n' ts', .lst 3 (V.pvL us)]) hih ?_
        set_option smartUnfolding false in conv => whnf
        refine ⟨Nat.le_refl 1, ?_⟩
        set_option smartUnfolding false in conv => whnf
        cases ps with
        | nil =>
          set_option smartUnfolding false in conv => whnf
          refine ⟨⟨⟨by decide, by decide⟩, by decide⟩, ?_⟩
          set_option smartUnfolding false in conv => whnf
          exact ⟨(i + 1, [] ++ [V.ag k2 n2 ts2]), ⟨h, hs, by simp at hpl ⊢; omega⟩, weak_ren [0, 1, 2, 5] 6 (by kernel_rfl) (blk (by kernel_rfl) (blk (by kernel_rfl) (blk (by kernel_rfl) (blk (by kernel_rfl) trivial)))) ⟨(by kernel_rfl), (by kernel_rfl), (by kernel_rfl), (by kernel_rfl), sUp h hl, trivial⟩, subUp h⟩
        | cons p ps =>
          set_option smartUnfolding false in conv => whnf
          simp only [List.length_cons] at hpl
          refine ⟨⟨⟨by simp [pvs_len], by simp only [Nat.succ_eq_add_one]; omega⟩, by rw [show ((S.E 0).te 25).bytes = 40 from rfl]; simp only [Nat.succ_eq_add_one]; omega⟩, ?_⟩
          set_option smartUnfolding false in conv => whnf
          exact ⟨(i + 1, (p :: ps) ++ [V.ag k2 n2 ts2]), ⟨h, by rw [← hs]; simp, by simp; omega⟩, weak_ren [0, 1, 2, 5] 6 (by kernel_rfl) (blk (by kernel_rfl) (blk (by kernel_rfl) (blk (by simp only [lsV_snoc]; kernel_rfl) (blkR_snoc (by kernel_rfl) trivial)))) ⟨(by kernel_rfl), (by kernel_rfl), (by kernel_rfl), (by kernel_rfl), sUp h hl, trivial⟩, subUp h⟩
    · replace h : ¬ i < ts.length := by have := dF h; rw [V.pvL_len] at this; simpa using this
      rw [List.drop_of_length_le (by omega), V.subL_nil, V.pvL_nil, List.append_nil] at hs
      cases ps with
      | nil =>
        set_option smartUnfolding false in conv => whnf
        exact .le (.agg (.cons (.refl _) (.cons (.refl _) (.cons (ple_nils hs) .nil))))
      | cons p ps =>
        set_option smartUnfolding false in conv => whnf
        exact .mix (.cons (.pv _) (.cons (.pv _) (.cons (rd_lsE (k := 3) hs rfl trivial rfl) .nil)))
  have h1 := dT h1
  have h2 := dT h2
  have h3 := dT h3
  rw [V.pvL_len] at h3
  obtain ⟨⟨k', n', ts'⟩, hv, hg, hg2, _⟩ := V.get_pvL (l := us) (i := n.toNat) (by omega)
  have e : V.sub us (.mk k n ts) = .mk k' n' ts' := by rw [V.sub_mk, if_pos ⟨h1, h2, h3⟩, hg2]; rfl
  have hcl := hclone _ hv
  rw [V.pv_mk] at hg hcl
  rw [e, V.pv_mk]
  refine ⟨V.ag k' n' ts', ⟨h2, hg⟩, ?_⟩
  set_option smartUnfolding false in conv => whnf
  refine acall_det (ps := [V.ag k' n' ts']) hcl ?_
  set_option smartUnfolding false in conv => whnf
  exact .pv _
end Go.AM

set_option linter.all false
set_option maxRecDepth 4000
set_option maxHeartbeats 2000000
namespace Go.AM
open Go.Proofs

/-! ### The fields of a constructor -/
/-- The data types are small. -/
structure DOK (D : List Dt) : Prop where
  len : D.length ≤ 1000
  cons : ∀ d ∈ D, d.cons.length ≤ 1000
  args : ∀ d ∈ D, ∀ c ∈ d.cons, c.args.length ≤ 1000
  arg : ∀ d ∈ D, ∀ c ∈ d.cons, ∀ a ∈ c.args, a.cnt ≤ 1000
def flds (ts : List V) : List V → Option (List V)
  | [] => some []
  | a :: l => if 200 < (V.sub ts a).cnt then Option.none else (match flds ts l with | some r => some (V.sub ts a :: r) | Option.none => Option.none)
theorem flds_nil (ts : List V) : flds ts [] = some [] := rfl
theorem flds_cons (ts : List V) (a : V) (l : List V) : flds ts (a :: l) = if 200 < (V.sub ts a).cnt then Option.none else (match flds ts l with | some r => some (V.sub ts a :: r) | Option.none => Option.none) := rfl
/-- The constructor c of a type's declaration. -/
def conOf (D : List Dt) : V → Int → Option Cn
  | .mk k n ts, c => if k = 5 ∧ 0 ≤ n ∧ 0 ≤ c then (match D[n.toNat]? with | some d => if (ts.length : Int) = d.vars then d.cons[c.toNat]? else Option.none | Option.none => Option.none) else Option.none
def V.kids : V → List V | .mk _ _ ks => ks
def fieldsS (D : List Dt) (t : V) (c : Int) : Option (List V) := match conOf D t c with
  | some c => flds t.kids c.args
  | Option.none => Option.none
/-- A list or nothing, and whether there is one. -/
def optP (ps : List PV) : Option (List V) → PV
  | some l => .tuple [.lst 3 (ps ++ V.pvL l), .bool true]
  | Option.none => .tuple [.lst 3 [], .bool false]
theorem optP_some (ps : List PV) (l : List V) : optP ps (some l) = .tuple [.lst 3 (ps ++ V.pvL l), .bool true] := rfl
theorem optP_none (ps : List PV) : optP ps Option.none = .tuple [.lst 3 [], .bool false] := rfl
theorem optP_cons (ps : List PV) (v : V) (o : Option (List V)) : optP ps (match o with | some r => some (v :: r) | Option.none => Option.none) = optP (ps ++ [v.pv]) o := by
  cases o <;> simp [optP, V.pvL_cons]
theorem rd_no {H : Heap} : Rd (fun _ => True) H (.pv (.tuple [.nils, .bool false])) (.tuple [.lst 3 [], .bool false]) := .le (.tuple (.cons (.nils 3) (.cons (.refl _) .nil)))
mutual
theorem V.sub_cnt {us : List V} {M : Nat} (hM : 1 ≤ M) (hu : ∀ u ∈ us, u.cnt ≤ M) : ∀ t : V, (V.sub us t).cnt ≤ t.cnt * M
  | .mk k n ts => by
    rw [V.sub_mk]
    split
    · rename_i h
      have : us[n.toNat]?.getD (.mk 0 0 []) ∈ us := by
        rw [List.getElem?_eq_getElem (by omega)]; simp
      have := hu _ this
      have h1 := V.cnt_pos (.mk k n ts)
      calc _ ≤ M := this
        _ = 1 * M := by simp
        _ ≤ _ := Nat.mul_le_mul_right _ h1
    · rw [V.cnt_mk, V.cnt_mk, Nat.add_mul]
      have := V.subL_cnt hM hu ts
      omega
theorem V.subL_cnt {us : List V} {M : Nat} (hM : 1 ≤ M) (hu : ∀ u ∈ us, u.cnt ≤ M) : ∀ l : List V, V.cntL (V.subL us l) ≤ V.cntL l * M
  | [] => by rw [V.subL_nil]; simp [V.cntL_nil]
  | t :: l => by
    rw [V.subL_cons, V.cntL_cons, V.cntL_cons, Nat.add_mul]
    have := V.sub_cnt hM hu t
    have := V.subL_cnt hM hu l
    omega
end


theorem tfields_det {D : List Dt} (hD : DOK D) (t : V) (ht : t.cnt ≤ 1000) (c : Int) : Det Tryz.prog 51 [.lst 3 (Dt.pvL D), t.pv, .int .i64 c] (optP [] (fieldsS D t c)) := by
  obtain ⟨k, n, ts⟩ := t
  rw [V.cnt_mk] at ht
  have hts : ∀ u ∈ ts, u.cnt ≤ 1000 := fun u hu => by have := V.cnt_mem hu; omega
  have hsub := tsubst_det ts (fun u hu => by have := hts u hu; omega)
  rw [V.pv_mk]
  generalize hR : optP [] (fieldsS D (.mk k n ts) c) = R
  have no : conOf D (.mk k n ts) c = Option.none → .tuple [.lst 3 [], .bool false] = R := fun h => by rw [← hR, fieldsS, h]; rfl
  refine det_of_vc' (E := S.E 0) rfl fol Tryz.func51 rfl rfl (slots := [6, 7]) rfl rfl fun hw => ?_
  set_option smartUnfolding false in conv => whnf
  refine br_intro (fun h1 => ?_) (fun h1 => ?_) <;> set_option smartUnfolding false in conv => whnf
  · have h1 : ¬ k = 5 := by simpa using h1
    rw [← no (by simp [conOf, h1])]; exact rd_no
  have h1 : k = 5 := by simpa using h1
  refine br_intro (fun h2 => ?_) (fun h2 => ?_) <;> set_option smartUnfolding false in conv => whnf
  · have h2 := dT h2
    rw [← no (by rw [conOf, if_neg (by omega)])]; exact rd_no
  have h2 := dF h2
  refine br_intro (fun h3 => ?_) (fun h3 => ?_) <;> set_option smartUnfolding false in conv => whnf
  · have h3 := dT h3
    rw [Dt.pvL_len] at h3
    rw [← no (by rw [conOf, List.getElem?_eq_none (by omega)]; split <;> rfl)]; exact rd_no
  have h3 := dF h3
  rw [Dt.pvL_len] at h3
  obtain ⟨nm, vs, cs, hd, hg, hg2, _⟩ := Dt.get_pvL (l := D) (i := n.toNat) (by omega)
  refine ⟨Dt.ag nm vs cs, ⟨by omega, hg⟩, ?_⟩
  set_option smartUnfolding false in conv => whnf
  refine br_intro (fun h4 => ?_) (fun h4 => ?_) <;> set_option smartUnfolding false in conv => whnf
  · rw [V.pvL_len] at h4
    have h4 : ¬ (ts.length : Int) = vs := by simpa using h4
    rw [← no (by simp [conOf, hg2, h4])]; exact rd_no
  rw [V.pvL_len] at h4
  have h4 : (ts.length : Int) = vs := by simpa using h4
  refine br_intro (fun h5 => ?_) (fun h5 => ?_) <;> set_option smartUnfolding false in conv => whnf
  · have h5 := dT h5
    rw [← no (by rw [conOf, if_neg (by omega)])]; exact rd_no
  have h5 := dF h5
  refine br_intro (fun h6 => ?_) (fun h6 => ?_) <;> set_option smartUnfolding false in conv => whnf
  · have h6 := dT h6
    rw [Cn.pvL_len] at h6
    rw [← no (by simp only [conOf, hg2]; rw [List.getElem?_eq_none (by omega)]; simp)]; exact rd_no
  have h6 := dF h6
  rw [Cn.pvL_len] at h6
  obtain ⟨cn, cas, hc, hcg, hcg2, _⟩ := Cn.get_pvL (l := cs) (i := c.toNat) (by omega)
  have hcl := hD.args _ hd _ hc
  have hca := hD.arg _ hd _ hc
  simp only at hcl hca
  have ec : conOf D (.mk k n ts) c = some ⟨cn, cas⟩ := by simp only [conOf, hg2, h4, hcg2]; rw [if_pos (by omega)]; simp
  rw [fieldsS, ec] at hR
  simp only [V.kids] at hR
  refine ⟨Cn.ag cn cas, ⟨by omega, hcg⟩, ?_⟩
  set_option smartUnfolding false in conv => whnf
  have hl : cas.length ≤ 9223372036854775807 := by omega
  refine vloop_intro (σ := Nat × List PV) (fun x => x.1 ≤ cas.length ∧ optP x.2 (flds ts (cas.drop x.1)) = R ∧ x.2.length = x.1) (fun x => [(4, .bp 0 0), (9, lsV 1 x.2), (55, .pv (.lst 3 (V.pvL cas))), (56, .pv (.int .i64 (V.pvL cas).length)), (57, .pv (.int .i64 x.1))])
    (fun x => [.box 25 [.pv (.int .i64 k), .pv (.int .i64 n), .pv (.lst 3 (V.pvL ts))], lsB 25 3 x.2])
    (fun x => cas.length - x.1) (0, []) ⟨by simp, by simpa using hR, rfl⟩ (weak_ren [0, 1] 2 (by kernel_rfl) (blk (by kernel_rfl) (blkD trivial)) ⟨(by kernel_rfl), (by kernel_rfl), (by kernel_rfl), (by kernel_rfl), (by kernel_rfl), trivial⟩) ?_
  rintro ⟨i, ps⟩ ⟨hi, hs, hpl⟩
  simp only at hi hs hpl
  set_option smartUnfolding false in conv => whnf
  refine br_intro (fun h => ?_) (fun h => ?_) <;> set_option smartUnfolding false in conv => whnf
  · replace h : i < cas.length := by have := dT h; rw [V.pvL_len] at this; simpa using this
    obtain ⟨⟨k', n', ts'⟩, hv, hg, _, hd⟩ := V.get_pvL h
    have hcnt : (V.sub ts (.mk k' n' ts')).cnt ≤ 1000000 := Nat.le_trans (V.sub_cnt (M := 1000) (by omega) hts _) (by have := hca _ hv; omega)
    have hsb := hsub (.mk k' n' ts') (by have := hca _ hv; omega)
    rw [hd, flds_cons] at hs
    have hsz := tsize_det (V.sub ts (.mk k' n' ts')) 201 (by omega) (by omega)
    cases he : V.sub ts (.mk k' n' ts') with
    | mk k2 n2 ts2 =>
      rw [he] at hs hsb hsz
      rw [V.pv_mk] at hsz hg
      rw [V.pv_mk, V.pv_mk] at hsb
      refine ⟨V.ag k' n' ts', ⟨by simp, by simpa using hg⟩, ?_⟩
      set_option smartUnfolding false in conv => whnf
      refine acall_det (ps := [V.ag k' n' ts', .lst 3 (V.pvL ts)]) hsb ?_
      set_option smartUnfolding false in conv => whnf
      refine acall_det (ps := [V.ag k2 n2 ts2, .int .i64 201]) hsz ?_
      set_option smartUnfolding false in conv => whnf
      refine br_intro (fun g => ?_) (fun g => ?_) <;> set_option smartUnfolding false in conv => whnf
      · have g := dT g
        rw [if_pos (by omega), optP_none] at hs
        rw [← hs]
        exact rd_no
      · have g := dF g
        rw [if_neg (by omega), optP_cons, V.pv_mk] at hs
        refine ⟨Nat.le_refl 1, ?_⟩
        set_option smartUnfolding false in conv => whnf
        cases ps with
        | nil =>
          set_option smartUnfolding false in conv => whnf
          refine ⟨⟨⟨by decide, by decide⟩, by decide⟩, ?_⟩
          set_option smartUnfolding false in conv => whnf
          exact ⟨(i + 1, [] ++ [V.ag k2 n2 ts2]), ⟨h, hs, by simp at hpl ⊢; omega⟩, weak_ren [0, 5] 6 (by kernel_rfl) (blk (by kernel_rfl) (blk (by kernel_rfl) trivial)) ⟨(by kernel_rfl), (by kernel_rfl), (by kernel_rfl), (by kernel_rfl), sUp h hl, trivial⟩, subUp h⟩
        | cons p ps =>
          set_option smartUnfolding false in conv => whnf
          simp only [List.length_cons] at hpl
          refine ⟨⟨⟨by simp [pvs_len], by simp only [Nat.succ_eq_add_one]; omega⟩, by rw [show ((S.E 0).te 25).bytes = 40 from rfl]; simp only [Nat.succ_eq_add_one]; omega⟩, ?_⟩
          set_option smartUnfolding false in conv => whnf
          exact ⟨(i + 1, (p :: ps) ++ [V.ag k2 n2 ts2]), ⟨h, hs, by simp; omega⟩, weak_ren [0, 5] 6 (by kernel_rfl) (blk (by kernel_rfl) (blkR_snoc (by kernel_rfl) trivial)) ⟨(by kernel_rfl), by simp only [lsV_snoc]; kernel_rfl, (by kernel_rfl), (by kernel_rfl), sUp h hl, trivial⟩, subUp h⟩
  · replace h : ¬ i < cas.length := by have := dF h; rw [V.pvL_len] at this; simpa using this
    rw [List.drop_of_length_le (by omega), flds_nil, optP_some, V.pvL_nil, List.append_nil] at hs
    rw [← hs]
    cases ps with
    | nil =>
      set_option smartUnfolding false in conv => whnf
      exact .le (.tuple (.cons (.nils 3) (.cons (.refl _) .nil)))
    | cons p ps =>
      set_option smartUnfolding false in conv => whnf
      exact .tup (.cons (rd_lsE (k := 1) rfl rfl trivial rfl) (.cons (.pv _) .nil))
end Go.AM
