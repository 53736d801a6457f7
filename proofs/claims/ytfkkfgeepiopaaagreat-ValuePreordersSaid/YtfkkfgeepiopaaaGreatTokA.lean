import Derived.Test.YtfkkfgeepiopaaaGreatValD
set_option linter.all false
set_option maxRecDepth 20000
set_option maxHeartbeats 2000000
namespace Go.AM
open Go.Proofs

/-! ### Bytes -/
def bSm (b : Int) : Bool := decide (97 ≤ b) && decide (b ≤ 122)
def bGr (b : Int) : Bool := decide (65 ≤ b) && decide (b ≤ 90)
def bDg (b : Int) : Bool := decide (48 ≤ b) && decide (b ≤ 57)
def bPt (b : Int) : Bool := bSm b || bGr b || bDg b || decide (b = 95)
theorem sm_t (b : Int) : Det Tryz.prog 100 [.int .u8 b] (.bool (bSm b)) := by
  refine det_of_vc' (E := S.E 0) rfl fol Tryz.func100 rfl rfl (slots := [2]) rfl rfl fun hw => ?_
  set_option smartUnfolding false in conv => whnf
  refine br_intro (fun h => ?_) (fun h => ?_) <;> set_option smartUnfolding false in conv => whnf
  · exact rdB (by rw [bSm, h]; rfl)
  · exact rdB (by rw [bSm, h]; rfl)
theorem gr_t (b : Int) : Det Tryz.prog 101 [.int .u8 b] (.bool (bGr b)) := by
  refine det_of_vc' (E := S.E 0) rfl fol Tryz.func101 rfl rfl (slots := [2]) rfl rfl fun hw => ?_
  set_option smartUnfolding false in conv => whnf
  refine br_intro (fun h => ?_) (fun h => ?_) <;> set_option smartUnfolding false in conv => whnf
  · exact rdB (by rw [bGr, h]; rfl)
  · exact rdB (by rw [bGr, h]; rfl)
theorem dg_t (b : Int) : Det Tryz.prog 104 [.int .u8 b] (.bool (bDg b)) := by
  refine det_of_vc' (E := S.E 0) rfl fol Tryz.func104 rfl rfl (slots := [2]) rfl rfl fun hw => ?_
  set_option smartUnfolding false in conv => whnf
  refine br_intro (fun h => ?_) (fun h => ?_) <;> set_option smartUnfolding false in conv => whnf
  · exact rdB (by rw [bDg, h]; rfl)
  · exact rdB (by rw [bDg, h]; rfl)
theorem sm_r (b : Int) : Det Tryz.prog 73 [.int .u8 b] (.bool (bSm b)) := by
  refine det_of_vc' (E := S.E 0) rfl fol Tryz.func73 rfl rfl (slots := [2]) rfl rfl fun hw => ?_
  set_option smartUnfolding false in conv => whnf
  refine br_intro (fun h => ?_) (fun h => ?_) <;> set_option smartUnfolding false in conv => whnf
  · exact rdB (by rw [bSm, h]; rfl)
  · exact rdB (by rw [bSm, h]; rfl)
theorem gr_r (b : Int) : Det Tryz.prog 74 [.int .u8 b] (.bool (bGr b)) := by
  refine det_of_vc' (E := S.E 0) rfl fol Tryz.func74 rfl rfl (slots := [2]) rfl rfl fun hw => ?_
  set_option smartUnfolding false in conv => whnf
  refine br_intro (fun h => ?_) (fun h => ?_) <;> set_option smartUnfolding false in conv => whnf
  · exact rdB (by rw [bGr, h]; rfl)
  · exact rdB (by rw [bGr, h]; rfl)
theorem dg_r (b : Int) : Det Tryz.prog 75 [.int .u8 b] (.bool (bDg b)) := by
  refine det_of_vc' (E := S.E 0) rfl fol Tryz.func75 rfl rfl (slots := [2]) rfl rfl fun hw => ?_
  set_option smartUnfolding false in conv => whnf
  refine br_intro (fun h => ?_) (fun h => ?_) <;> set_option smartUnfolding false in conv => whnf
  · exact rdB (by rw [bDg, h]; rfl)
  · exact rdB (by rw [bDg, h]; rfl)
theorem pt_t (b : Int) : Det Tryz.prog 102 [.int .u8 b] (.bool (bPt b)) := by
  refine det_of_vc' (E := S.E 0) rfl fol Tryz.func102 rfl rfl (slots := [2]) rfl rfl fun hw => ?_
  set_option smartUnfolding false in conv => whnf
  refine acall_det (ps := [.int .u8 b]) (sm_t b) ?_
  set_option smartUnfolding false in conv => whnf
  refine br_intro (fun h1 => ?_) (fun h1 => ?_) <;> set_option smartUnfolding false in conv => whnf
  · exact rdB (by rw [bPt, h1]; rfl)
  refine acall_det (ps := [.int .u8 b]) (gr_t b) ?_
  set_option smartUnfolding false in conv => whnf
  refine br_intro (fun h2 => ?_) (fun h2 => ?_) <;> set_option smartUnfolding false in conv => whnf
  · exact rdB (by rw [bPt, h1, h2]; rfl)
  refine acall_det (ps := [.int .u8 b]) (dg_t b) ?_
  set_option smartUnfolding false in conv => whnf
  refine br_intro (fun h3 => ?_) (fun h3 => ?_) <;> set_option smartUnfolding false in conv => whnf
  · exact rdB (by rw [bPt, h1, h2, h3]; rfl)
  · exact rdB (by rw [bPt, h1, h2, h3]; rfl)

attribute [irreducible] bSm bGr bDg
theorem bPt_of {b : Int} : bPt b = (bSm b || bGr b || bDg b || decide (b = 95)) := rfl
attribute [irreducible] bPt

/-! ### Words -/
def inL (s : ByteArray) : List ByteArray → Bool
  | [] => false
  | w :: l => if (s.toList == w.toList) then true else inL s l
theorem inL_nil (s : ByteArray) : inL s [] = false := rfl
theorem inL_cons (s w : ByteArray) (l : List ByteArray) : inL s (w :: l) = if (s.toList == w.toList) = true then true else inL s l := rfl
def words : List ByteArray := [⟨#[97, 114, 114, 97, 121]⟩, ⟨#[98, 111, 111, 108]⟩, ⟨#[99, 97, 116, 99, 104]⟩, ⟨#[100, 97, 116, 97]⟩, ⟨#[101, 108, 115, 101]⟩, ⟨#[101, 110, 100]⟩, ⟨#[102, 97, 108, 115, 101]⟩, ⟨#[102, 110]⟩, ⟨#[102, 117, 110]⟩, ⟨#[103, 101, 116]⟩, ⟨#[105, 102]⟩, ⟨#[105, 110]⟩, ⟨#[105, 110, 116]⟩, ⟨#[108, 101, 110]⟩, ⟨#[108, 101, 116]⟩, ⟨#[109, 97, 116, 99, 104]⟩, ⟨#[110, 101, 119]⟩, ⟨#[114, 97, 105, 115, 101]⟩, ⟨#[114, 101, 97, 100]⟩, ⟨#[114, 101, 102]⟩, ⟨#[115, 101, 116]⟩, ⟨#[116, 104, 101, 110]⟩, ⟨#[116, 105, 99, 107]⟩, ⟨#[116, 114, 117, 101]⟩, ⟨#[116, 114, 121]⟩, ⟨#[117, 110, 105, 116]⟩, ⟨#[119, 105, 116, 104]⟩, ⟨#[119, 114, 105, 116, 101]⟩]
attribute [irreducible] inL
theorem kw_t (s : ByteArray) : Det Tryz.prog 103 [.str s] (.bool (inL s words)) := by
  generalize hR : inL s words = R
  unfold words at hR
  refine det_of_vc' (E := S.E 0) rfl fol Tryz.func103 rfl rfl (slots := [2]) rfl rfl fun hw => ?_
  set_option smartUnfolding false in conv => whnf
  refine br_intro (fun h => ?_) (fun h => ?_) <;> set_option smartUnfolding false in conv => whnf
  · exact rdB (by rw [← hR, inL_cons, if_pos h])
  rw [inL_cons, if_neg (by rw [h]; simp)] at hR
  refine br_intro (fun h => ?_) (fun h => ?_) <;> set_option smartUnfolding false in conv => whnf
  · exact rdB (by rw [← hR, inL_cons, if_pos h])
  rw [inL_cons, if_neg (by rw [h]; simp)] at hR
  refine br_intro (fun h => ?_) (fun h => ?_) <;> set_option smartUnfolding false in conv => whnf
  · exact rdB (by rw [← hR, inL_cons, if_pos h])
  rw [inL_cons, if_neg (by rw [h]; simp)] at hR
  refine br_intro (fun h => ?_) (fun h => ?_) <;> set_option smartUnfolding false in conv => whnf
  · exact rdB (by rw [← hR, inL_cons, if_pos h])
  rw [inL_cons, if_neg (by rw [h]; simp)] at hR
  refine br_intro (fun h => ?_) (fun h => ?_) <;> set_option smartUnfolding false in conv => whnf
  · exact rdB (by rw [← hR, inL_cons, if_pos h])
  rw [inL_cons, if_neg (by rw [h]; simp)] at hR
  refine br_intro (fun h => ?_) (fun h => ?_) <;> set_option smartUnfolding false in conv => whnf
  · exact rdB (by rw [← hR, inL_cons, if_pos h])
  rw [inL_cons, if_neg (by rw [h]; simp)] at hR
  refine br_intro (fun h => ?_) (fun h => ?_) <;> set_option smartUnfolding false in conv => whnf
  · exact rdB (by rw [← hR, inL_cons, if_pos h])
  rw [inL_cons, if_neg (by rw [h]; simp)] at hR
  refine br_intro (fun h => ?_) (fun h => ?_) <;> set_option smartUnfolding false in conv => whnf
  · exact rdB (by rw [← hR, inL_cons, if_pos h])
  rw [inL_cons, if_neg (by rw [h]; simp)] at hR
  refine br_intro (fun h => ?_) (fun h => ?_) <;> set_option smartUnfolding false in conv => whnf
  · exact rdB (by rw [← hR, inL_cons, if_pos h])
  rw [inL_cons, if_neg (by rw [h]; simp)] at hR
  refine br_intro (fun h => ?_) (fun h => ?_) <;> set_option smartUnfolding false in conv => whnf
  · exact rdB (by rw [← hR, inL_cons, if_pos h])
  rw [inL_cons, if_neg (by rw [h]; simp)] at hR
  refine br_intro (fun h => ?_) (fun h => ?_) <;> set_option smartUnfolding false in conv => whnf
  · exact rdB (by rw [← hR, inL_cons, if_pos h])
  rw [inL_cons, if_neg (by rw [h]; simp)] at hR
  refine br_intro (fun h => ?_) (fun h => ?_) <;> set_option smartUnfolding false in conv => whnf
  · exact rdB (by rw [← hR, inL_cons, if_pos h])
  rw [inL_cons, if_neg (by rw [h]; simp)] at hR
  refine br_intro (fun h => ?_) (fun h => ?_) <;> set_option smartUnfolding false in conv => whnf
  · exact rdB (by rw [← hR, inL_cons, if_pos h])
  rw [inL_cons, if_neg (by rw [h]; simp)] at hR
  refine br_intro (fun h => ?_) (fun h => ?_) <;> set_option smartUnfolding false in conv => whnf
  · exact rdB (by rw [← hR, inL_cons, if_pos h])
  rw [inL_cons, if_neg (by rw [h]; simp)] at hR
  refine br_intro (fun h => ?_) (fun h => ?_) <;> set_option smartUnfolding false in conv => whnf
  · exact rdB (by rw [← hR, inL_cons, if_pos h])
  rw [inL_cons, if_neg (by rw [h]; simp)] at hR
  refine br_intro (fun h => ?_) (fun h => ?_) <;> set_option smartUnfolding false in conv => whnf
  · exact rdB (by rw [← hR, inL_cons, if_pos h])
  rw [inL_cons, if_neg (by rw [h]; simp)] at hR
  refine br_intro (fun h => ?_) (fun h => ?_) <;> set_option smartUnfolding false in conv => whnf
  · exact rdB (by rw [← hR, inL_cons, if_pos h])
  rw [inL_cons, if_neg (by rw [h]; simp)] at hR
  refine br_intro (fun h => ?_) (fun h => ?_) <;> set_option smartUnfolding false in conv => whnf
  · exact rdB (by rw [← hR, inL_cons, if_pos h])
  rw [inL_cons, if_neg (by rw [h]; simp)] at hR
  refine br_intro (fun h => ?_) (fun h => ?_) <;> set_option smartUnfolding false in conv => whnf
  · exact rdB (by rw [← hR, inL_cons, if_pos h])
  rw [inL_cons, if_neg (by rw [h]; simp)] at hR
  refine br_intro (fun h => ?_) (fun h => ?_) <;> set_option smartUnfolding false in conv => whnf
  · exact rdB (by rw [← hR, inL_cons, if_pos h])
  rw [inL_cons, if_neg (by rw [h]; simp)] at hR
  refine br_intro (fun h => ?_) (fun h => ?_) <;> set_option smartUnfolding false in conv => whnf
  · exact rdB (by rw [← hR, inL_cons, if_pos h])
  rw [inL_cons, if_neg (by rw [h]; simp)] at hR
  refine br_intro (fun h => ?_) (fun h => ?_) <;> set_option smartUnfolding false in conv => whnf
  · exact rdB (by rw [← hR, inL_cons, if_pos h])
  rw [inL_cons, if_neg (by rw [h]; simp)] at hR
  refine br_intro (fun h => ?_) (fun h => ?_) <;> set_option smartUnfolding false in conv => whnf
  · exact rdB (by rw [← hR, inL_cons, if_pos h])
  rw [inL_cons, if_neg (by rw [h]; simp)] at hR
  refine br_intro (fun h => ?_) (fun h => ?_) <;> set_option smartUnfolding false in conv => whnf
  · exact rdB (by rw [← hR, inL_cons, if_pos h])
  rw [inL_cons, if_neg (by rw [h]; simp)] at hR
  refine br_intro (fun h => ?_) (fun h => ?_) <;> set_option smartUnfolding false in conv => whnf
  · exact rdB (by rw [← hR, inL_cons, if_pos h])
  rw [inL_cons, if_neg (by rw [h]; simp)] at hR
  refine br_intro (fun h => ?_) (fun h => ?_) <;> set_option smartUnfolding false in conv => whnf
  · exact rdB (by rw [← hR, inL_cons, if_pos h])
  rw [inL_cons, if_neg (by rw [h]; simp)] at hR
  refine br_intro (fun h => ?_) (fun h => ?_) <;> set_option smartUnfolding false in conv => whnf
  · exact rdB (by rw [← hR, inL_cons, if_pos h])
  rw [inL_cons, if_neg (by rw [h]; simp)] at hR
  refine br_intro (fun h => ?_) (fun h => ?_) <;> set_option smartUnfolding false in conv => whnf
  · exact rdB (by rw [← hR, inL_cons, if_pos h])
  rw [inL_cons, if_neg (by rw [h]; simp)] at hR
  exact rdB (by rw [← hR, inL_nil])

def strsP (l : List ByteArray) : List PV := l.map .str
theorem strsP_len (l : List ByteArray) : (strsP l).length = l.length := by simp [strsP]
theorem strsP_get {l : List ByteArray} {i : Nat} (h : i < l.length) : ∃ a, (strsP l)[i]? = some (.str a) ∧ l.drop i = a :: l.drop (i + 1) :=
  ⟨l[i], by simp [strsP, h], List.drop_eq_getElem_cons h⟩
theorem words_len : words.length = 28 := rfl
attribute [irreducible] strsP words
theorem kw_r (s : ByteArray) : Det Tryz.prog 76 [.str s] (.bool (inL s words)) := by
  generalize hR : inL s words = R
  have hwl := words_len
  refine det_of_vc' (E := S.E 0) rfl fol Tryz.func76 rfl rfl (slots := [2]) rfl rfl fun hw => ?_
  set_option smartUnfolding false in conv => whnf
  refine vloop_intro (σ := Nat) (fun i => i ≤ 28 ∧ inL s (words.drop i) = R) (fun i => [(0, .pv (.str s)), (3, .pv (.lst 1 (strsP words))), (4, .pv (.int .i64 i))]) (fun _ => [.dead]) (fun i => 28 - i) 0 ⟨by simp, by simpa using hR⟩ (weak_read [0] rfl ⟨rfl, trivial⟩ ⟨⟨_, rfl, .inl rfl⟩, ⟨_, rfl, .inr ⟨_, rfl, rd_row (t := 9) (ps := strsP words) (.head _) (by kernel_rfl) (by rw [strsP_len, words_len])⟩⟩, ⟨_, rfl, .inl rfl⟩, trivial⟩) ?_
  rintro i ⟨hi, hs⟩
  set_option smartUnfolding false in conv => whnf
  refine br_intro (fun h => ?_) (fun h => ?_) <;> set_option smartUnfolding false in conv => whnf
  · replace h : i < 28 := by have := dT h; rw [strsP_len, hwl] at this; omega
    obtain ⟨a, hg, hd⟩ := strsP_get (l := words) (i := i) (by omega)
    rw [hd, inL_cons] at hs
    refine ⟨.str a, ⟨by simp, by simpa using hg⟩, ?_⟩
    set_option smartUnfolding false in conv => whnf
    refine br_intro (fun g => ?_) (fun g => ?_) <;> set_option smartUnfolding false in conv => whnf
    · exact rdB (by rw [← hs, if_pos (by rw [BEq.comm]; exact g)])
    · rw [if_neg (by rw [BEq.comm, g]; simp)] at hs
      exact ⟨i + 1, ⟨h, hs⟩, weak_sub ⟨(by kernel_rfl), (by kernel_rfl), sUp (n := 28) h (by omega), trivial⟩, subUp h⟩
  · replace h : ¬ i < 28 := by have := dF h; rw [strsP_len, hwl] at this; omega
    rw [List.drop_of_length_le (by omega), inL_nil] at hs
    exact rdB hs
end Go.AM
