import Derived.Test.YtfkkfgeepiopaaaGreatTokT
set_option linter.all false
set_option maxRecDepth 20000
set_option maxHeartbeats 2000000
namespace Go.AM
open Go.Proofs

/-! ### Upper names -/
def UpN (s : ByteArray) : Prop := 1 ≤ s.size ∧ s.size ≤ 24 ∧ bGr (bt s 0) = true ∧ ∀ k, k < s.size → bPt (bt s k) = true
open Classical in
noncomputable def upName (s : ByteArray) : Bool := decide (UpN s)
def TokOK (s : ByteArray) (q : PV) : Prop := ∃ k t p, q = tokP k t p ∧ (k = 2 → ∃ i, t = s.extract i (i + t.size) ∧ i + t.size ≤ s.size ∧ 1 ≤ t.size ∧ t.size ≤ 24 ∧ bGr (bt s i) = true ∧ ∀ j, i ≤ j → j < i + t.size → bPt (bt s j) = true)
theorem bGr_bPt {b : Int} (h : bGr b = true) : bPt b = true := by rw [bPt_of, h]; simp
theorem bGr_num {b : Int} (h : bGr b = true) : 65 ≤ b ∧ b ≤ 90 := by
  unfold bGr at h
  simpa using h
theorem tok_name {s : ByteArray} {i : Nat} (hi : i < s.size) (hg : bGr (bt s i) = true) (he : endOf bPt s (s.size - (i + 1)) (i + 1) ≤ i + 24) : TokOK s (tokP 2 (s.extract i (endOf bPt s (s.size - (i + 1)) (i + 1))) i) := by
  have hE := endOf_le bPt s (s.size - (i + 1)) (i + 1)
  have hall := endOf_all bPt s (s.size - (i + 1)) (i + 1)
  generalize endOf bPt s (s.size - (i + 1)) (i + 1) = E at *
  have hsz : (s.extract i E).size = E - i := by rw [ByteArray.size_extract]; omega
  refine ⟨_, _, _, rfl, fun _ => ⟨i, ?_, by omega, by omega, by omega, hg, fun j h1 h2 => ?_⟩⟩
  · rw [hsz, show i + (E - i) = E by omega]
  · by_cases e : i = j
    · subst e; exact bGr_bPt hg
    · exact hall j (by omega) (by omega)
theorem tok_other {s : ByteArray} {k : Int} {t : ByteArray} {p : Int} (h : ¬ k = 2) : TokOK s (tokP k t p) := ⟨k, t, p, rfl, fun e => absurd e h⟩

/-- What both Splits come to. -/
def SplitOK (s : ByteArray) (ps : List PV) (r : PV) : Prop := (∃ qs, r = finP s (ps ++ qs) ∧ ∀ q ∈ qs, TokOK s q) ∨ ∃ i e : Int, r = errP i e ∧ ¬ e = 0
theorem SplitOK.cons {s : ByteArray} {ps : List PV} {q r : PV} (hq : TokOK s q) (h : SplitOK s (ps ++ [q]) r) : SplitOK s ps r := by
  rcases h with ⟨qs, h1, h2⟩ | h
  · refine .inl ⟨q :: qs, by rw [h1]; simp, fun x hx => ?_⟩
    rcases List.mem_cons.1 hx with rfl | hx
    · exact hq
    · exact h2 x hx
  · exact .inr h
theorem SplitOK.fin (s : ByteArray) (ps : List PV) : SplitOK s ps (finP s ps) := .inl ⟨[], by simp, by simp⟩
theorem SplitOK.err (s : ByteArray) (ps : List PV) (i : Int) {e : Int} (h : ¬ e = 0) : SplitOK s ps (errP i e) := .inr ⟨i, e, rfl, h⟩
theorem splitR_ok (s : ByteArray) : ∀ (f i : Nat) (ps : List PV), SplitOK s ps (splitR s f i ps)
  | 0, i, ps => by unfold splitR; exact .fin s ps
  | f + 1, i, ps => by
    rw [splitR_succ]
    split
    · exact .fin s ps
    rename_i hi
    split
    · exact splitR_ok s f _ ps
    split
    · exact splitR_ok s f _ ps
    split
    · split
      · exact .err s ps _ (by omega)
      · refine .cons ?_ (splitR_ok s f _ _)
        split
        · rename_i hg; exact tok_name (by omega) hg (by omega)
        · split <;> exact tok_other (by omega)
    split
    · split
      · exact .err s ps _ (by omega)
      split
      · exact .err s ps _ (by omega)
      · exact .cons (tok_other (by omega)) (splitR_ok s f _ _)
    split
    · exact .err s ps _ (by omega)
    · exact .cons (tok_other (by omega)) (splitR_ok s f _ _)
theorem nextS_tok (s : ByteArray) (i : Nat) (hi : i < s.size) (h : (nextS s i).2.2 = 0) : TokOK s (tokP (nextS s i).1 (nextS s i).2.1 i) := by
  unfold nextS at h ⊢
  split
  · rename_i hn
    rw [if_pos hn] at h
    simp only at h ⊢
    split
    · rename_i hg
      refine tok_name hi hg ?_
      rcases Nat.lt_or_ge (i + 24) (endOf bPt s (s.size - (i + 1)) (i + 1)) with h' | h'
      · rw [if_pos h'] at h; omega
      · exact h'
    · split <;> exact tok_other (by omega)
  · split <;> exact tok_other (by simp only; omega)
theorem splitT_ok (s : ByteArray) : ∀ (f i : Nat) (ps : List PV), SplitOK s ps (splitT s f i ps)
  | 0, i, ps => by unfold splitT; exact .fin s ps
  | f + 1, i, ps => by
    rw [splitT_succ]
    split
    · exact .fin s ps
    rename_i hi
    split
    · exact splitT_ok s f _ ps
    split
    · exact splitT_ok s f _ ps
    split
    · rename_i h
      exact .cons (nextS_tok s i (by omega) h) (splitT_ok s f _ _)
    · rename_i h
      exact .err s ps _ h
theorem up_full {s : ByteArray} (h : UpN s) : endOf bPt s (s.size - (0 + 1)) (0 + 1) = s.size := by
  obtain ⟨h1, h2, h3, h4⟩ := h
  rw [endOf_full bPt s _ _ fun k k1 k2 => h4 k (by omega)]; omega
theorem splitR_up {s : ByteArray} (h : UpN s) : splitR s s.size 0 [] = finP s [tokP 2 s 0] := by
  have hf := up_full h
  obtain ⟨h1, h2, h3, h4⟩ := h
  have hb := bGr_num h3
  obtain ⟨m, hm⟩ : ∃ m, s.size = m + 1 := ⟨s.size - 1, by omega⟩
  have e : splitR s s.size 0 [] = splitR s (m + 1) 0 [] := by rw [hm]
  rw [e, splitR_succ, if_neg (by omega), if_neg (by omega), if_neg (by omega), if_pos (by rw [h3]; simp), hf, if_neg (by omega), if_pos h3, splitR_end s m _ _ (Nat.le_refl _)]
  simp
theorem splitT_up {s : ByteArray} (h : UpN s) : splitT s s.size 0 [] = finP s [tokP 2 s 0] := by
  have hf := up_full h
  obtain ⟨h1, h2, h3, h4⟩ := h
  have hb := bGr_num h3
  obtain ⟨m, hm⟩ : ∃ m, s.size = m + 1 := ⟨s.size - 1, by omega⟩
  have e : splitT s s.size 0 [] = splitT s (m + 1) 0 [] := by rw [hm]
  have en : nextS s 0 = (2, s, 0) := by
    unfold nextS
    rw [if_pos (by rw [h3]; simp), hf, if_pos h3, if_neg (by omega)]
    simp
  rw [e, splitT_succ, if_neg (by omega), if_neg (by omega), if_neg (by omega), en]
  simp only [if_pos]
  rw [splitT_end s m _ _ (by omega)]
  simp
theorem up_of_tok {s t : ByteArray} {p : Int} (h : TokOK s (tokP 2 t p)) (ht : t = s) : UpN s := by
  subst ht
  obtain ⟨k, t', p', e, h⟩ := h
  injection e with e
  injection e with e1 e2
  injection e2 with e2 e3
  injection e1 with _ e1
  injection e2 with e2
  subst e1 e2
  obtain ⟨i, h1, h2, h3, h4, h5, h6⟩ := h rfl
  have : i = 0 := by omega
  subst this
  exact ⟨h3, h4, h5, fun k hk => h6 k (by omega) (by omega)⟩
end Go.AM
