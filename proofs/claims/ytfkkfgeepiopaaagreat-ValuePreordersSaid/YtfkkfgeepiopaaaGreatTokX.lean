import Derived.Test.YtfkkfgeepiopaaaGreatTokU
set_option linter.all false
set_option maxRecDepth 20000
set_option maxHeartbeats 2000000
namespace Go.AM
open Go.Proofs

theorem upper_t (s : ByteArray) (hz : s.size ≤ 10000) : Det Tryz.prog 56 [.str s] (.bool (upName s)) := by
  have hs := split_t s hz
  have hfin : ∀ ps r, r = finP s ps → r = .tuple [.lst 3 (ps ++ [tokP 6 ⟨#[]⟩ s.size]), .int .i64 0, .int .i64 0] := fun ps r h => h
  by_cases hu : UpN s
  · have e1 : upName s = true := by simp [upName, hu]
    rw [splitT_up hu] at hs
    unfold finP at hs
    rw [e1]
    refine det_of_vc' (E := S.E 0) rfl fol Tryz.func56 rfl rfl (slots := [2]) rfl rfl fun hw => ?_
    set_option smartUnfolding false in conv => whnf
    refine acall_det (ps := [.str s]) hs ?_
    set_option smartUnfolding false in conv => whnf
    refine ⟨tokP 2 s 0, ⟨by omega, rfl⟩, ?_⟩
    set_option smartUnfolding false in conv => whnf
    refine ⟨tokP 2 s 0, ⟨by omega, rfl⟩, ?_⟩
    set_option smartUnfolding false in conv => whnf
    exact rdB (by simp)
  have e1 : upName s = false := by simp [upName, hu]
  rw [e1]
  rcases splitT_ok s s.size 0 [] with ⟨qs, h1, h2⟩ | ⟨i, e, h1, h2⟩
  · rw [h1] at hs
    unfold finP at hs
    rw [List.nil_append] at hs
    match qs, h2, hs with
    | [], h2, hs =>
      refine det_of_vc' (E := S.E 0) rfl fol Tryz.func56 rfl rfl (slots := [2]) rfl rfl fun hw => ?_
      set_option smartUnfolding false in conv => whnf
      refine acall_det (ps := [.str s]) hs ?_
      set_option smartUnfolding false in conv => whnf
      exact rdB rfl
    | [q], h2, hs =>
      obtain ⟨k, t, p, rfl, h3⟩ := h2 q (by simp)
      refine det_of_vc' (E := S.E 0) rfl fol Tryz.func56 rfl rfl (slots := [2]) rfl rfl fun hw => ?_
      set_option smartUnfolding false in conv => whnf
      refine acall_det (ps := [.str s]) hs ?_
      set_option smartUnfolding false in conv => whnf
      refine ⟨tokP k t p, ⟨by omega, rfl⟩, ?_⟩
      set_option smartUnfolding false in conv => whnf
      refine br_intro (fun g => ?_) (fun g => ?_) <;> set_option smartUnfolding false in conv => whnf
      · refine ⟨tokP k t p, ⟨by omega, rfl⟩, ?_⟩
        set_option smartUnfolding false in conv => whnf
        refine rdB ?_
        cases hb : (t.toList == s.toList) with
        | false => rfl
        | true =>
          have g := dT g
          subst g
          exact absurd (up_of_tok ⟨2, t, p, rfl, h3⟩ (ba_toList (by simpa using hb))) hu
      · exact rdB rfl
    | q1 :: q2 :: qs, h2, hs =>
      refine det_of_vc' (E := S.E 0) rfl fol Tryz.func56 rfl rfl (slots := [2]) rfl rfl fun hw => ?_
      set_option smartUnfolding false in conv => whnf
      refine acall_det (ps := [.str s]) hs ?_
      set_option smartUnfolding false in conv => whnf
      apply br_intro <;> intro g
      · have := dT g
        simp at this; omega
      set_option smartUnfolding false in conv => whnf
      exact rdB rfl
  · rw [h1] at hs
    unfold errP at hs
    refine det_of_vc' (E := S.E 0) rfl fol Tryz.func56 rfl rfl (slots := [2]) rfl rfl fun hw => ?_
    set_option smartUnfolding false in conv => whnf
    refine acall_det (ps := [.str s]) hs ?_
    set_option smartUnfolding false in conv => whnf
    apply br_intro <;> intro g
    · exact absurd (dT g) h2
    set_option smartUnfolding false in conv => whnf
    exact rdB rfl
theorem upper_r (s : ByteArray) (hz : s.size ≤ 10000) : Det Tryz.prog 33 [.str s] (.bool (upName s)) := by
  have hs := split_r s hz
  have hfin : ∀ ps r, r = finP s ps → r = .tuple [.lst 3 (ps ++ [tokP 6 ⟨#[]⟩ s.size]), .int .i64 0, .int .i64 0] := fun ps r h => h
  by_cases hu : UpN s
  · have e1 : upName s = true := by simp [upName, hu]
    rw [splitR_up hu] at hs
    unfold finP at hs
    rw [e1]
    refine det_of_vc' (E := S.E 0) rfl fol Tryz.func33 rfl rfl (slots := [2]) rfl rfl fun hw => ?_
    set_option smartUnfolding false in conv => whnf
    refine acall_det (ps := [.str s]) hs ?_
    set_option smartUnfolding false in conv => whnf
    refine ⟨tokP 2 s 0, ⟨by omega, rfl⟩, ?_⟩
    set_option smartUnfolding false in conv => whnf
    refine ⟨tokP 2 s 0, ⟨by omega, rfl⟩, ?_⟩
    set_option smartUnfolding false in conv => whnf
    exact rdB (by simp)
  have e1 : upName s = false := by simp [upName, hu]
  rw [e1]
  rcases splitR_ok s s.size 0 [] with ⟨qs, h1, h2⟩ | ⟨i, e, h1, h2⟩
  · rw [h1] at hs
    unfold finP at hs
    rw [List.nil_append] at hs
    match qs, h2, hs with
    | [], h2, hs =>
      refine det_of_vc' (E := S.E 0) rfl fol Tryz.func33 rfl rfl (slots := [2]) rfl rfl fun hw => ?_
      set_option smartUnfolding false in conv => whnf
      refine acall_det (ps := [.str s]) hs ?_
      set_option smartUnfolding false in conv => whnf
      exact rdB rfl
    | [q], h2, hs =>
      obtain ⟨k, t, p, rfl, h3⟩ := h2 q (by simp)
      refine det_of_vc' (E := S.E 0) rfl fol Tryz.func33 rfl rfl (slots := [2]) rfl rfl fun hw => ?_
      set_option smartUnfolding false in conv => whnf
      refine acall_det (ps := [.str s]) hs ?_
      set_option smartUnfolding false in conv => whnf
      refine ⟨tokP k t p, ⟨by omega, rfl⟩, ?_⟩
      set_option smartUnfolding false in conv => whnf
      refine br_intro (fun g => ?_) (fun g => ?_) <;> set_option smartUnfolding false in conv => whnf
      · refine ⟨tokP k t p, ⟨by omega, rfl⟩, ?_⟩
        set_option smartUnfolding false in conv => whnf
        refine rdB ?_
        cases hb : (t.toList == s.toList) with
        | false => rfl
        | true =>
          have g := dT g
          subst g
          exact absurd (up_of_tok ⟨2, t, p, rfl, h3⟩ (ba_toList (by simpa using hb))) hu
      · exact rdB rfl
    | q1 :: q2 :: qs, h2, hs =>
      refine det_of_vc' (E := S.E 0) rfl fol Tryz.func33 rfl rfl (slots := [2]) rfl rfl fun hw => ?_
      set_option smartUnfolding false in conv => whnf
      refine acall_det (ps := [.str s]) hs ?_
      set_option smartUnfolding false in conv => whnf
      apply br_intro <;> intro g
      · have := dT g
        simp at this; omega
      set_option smartUnfolding false in conv => whnf
      exact rdB rfl
  · rw [h1] at hs
    unfold errP at hs
    refine det_of_vc' (E := S.E 0) rfl fol Tryz.func33 rfl rfl (slots := [2]) rfl rfl fun hw => ?_
    set_option smartUnfolding false in conv => whnf
    refine acall_det (ps := [.str s]) hs ?_
    set_option smartUnfolding false in conv => whnf
    apply br_intro <;> intro g
    · exact absurd (dT g) h2
    set_option smartUnfolding false in conv => whnf
    exact rdB rfl
end Go.AM
