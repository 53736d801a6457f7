import Derived.Test.YtececigbpmaacaaGreatPkJ
set_option linter.all false
set_option maxRecDepth 20000
set_option maxHeartbeats 4000000
namespace Go.AM
open Go.Proofs

/-! ### Natural numbers of few limbs -/
def natP (l : List Int) : List PV := l.map (PV.int .u32)
theorem natP_len (l : List Int) : (natP l).length = l.length := by simp [natP]
theorem natP_get {l : List Int} {i : Nat} (h : i < l.length) : ∃ x, x ∈ l ∧ (natP l)[i]? = some (.int .u32 x) ∧ l[i]? = some x ∧ l.drop i = x :: l.drop (i + 1) :=
  ⟨l[i], by simp, by simp [natP, h], by simp [h], List.drop_eq_getElem_cons h⟩
theorem natP_take (l : List Int) (n : Nat) : (natP l).take n = natP (l.take n) := by simp [natP]
theorem natP_nil : natP [] = [] := rfl
theorem natP_cons (x : Int) (l : List Int) : natP (x :: l) = .int .u32 x :: natP l := rfl
theorem natP_app (l m : List Int) : natP (l ++ m) = natP l ++ natP m := by simp [natP]
theorem wrapU64 {n : Int} (h1 : 0 ≤ n) (h2 : n ≤ 18446744073709551615) : IntKind.wrap .u64 n = n := Go.IntWalk.u64_in n ⟨h1, h2⟩
theorem wrapU32 {n : Int} (h1 : 0 ≤ n) (h2 : n ≤ 4294967295) : IntKind.wrap .u32 n = n := Go.IntWalk.u32_in n ⟨h1, h2⟩
/-- How many limbs are left without the zeros at the end. -/
def trimN (l : List Int) : Nat → Nat
  | 0 => 0
  | n + 1 => match l[n]? with
    | some x => if x = 0 then trimN l n else n + 1
    | Option.none => n + 1
theorem trimN_zero (l : List Int) : trimN l 0 = 0 := rfl
theorem trimN_succ (l : List Int) (n : Nat) {x : Int} (h : l[n]? = some x) : trimN l (n + 1) = if x = 0 then trimN l n else n + 1 := by rw [trimN, h]
theorem trimN_le (l : List Int) : ∀ n, trimN l n ≤ n
  | 0 => Nat.le_refl _
  | n + 1 => by
    have := trimN_le l n
    rw [trimN]
    split
    · split <;> omega
    · omega
def trimL (l : List Int) : List Int := l.take (trimN l l.length)
attribute [irreducible] natP trimN
theorem trim_det (l : List Int) (hl : l.length ≤ 1000) : Det Tryz.prog 144 [.lst 1 (natP l)] (.lst 1 (natP (trimL l))) := by
  have hle := trimN_le l l.length
  generalize hR : PV.lst 1 (natP (trimL l)) = R
  unfold trimL at hR
  rw [← natP_take] at hR
  generalize hN : trimN l l.length = N at hR hle
  refine det_of_vc' (E := S.E 0) rfl fol Tryz.func144 rfl rfl (slots := [2]) rfl rfl fun hw => ?_
  set_option smartUnfolding false in conv => whnf
  refine vloop_intro (σ := Nat) (fun n => n ≤ l.length ∧ trimN l n = N) (fun n => [(0, .pv (.lst 1 (natP l))), (3, .pv (.int .i64 n))]) (fun _ => []) (fun n => n) l.length ⟨Nat.le_refl _, hN⟩ (weak_bare rfl ⟨(by kernel_rfl), by rw [natP_len]; kernel_rfl, trivial⟩) ?_
  rintro n ⟨hi, hs⟩
  set_option smartUnfolding false in conv => whnf
  refine br_intro (fun h => ?_) (fun h => ?_) <;> set_option smartUnfolding false in conv => whnf
  · have h := dT h
    obtain ⟨m, rfl⟩ : ∃ m, n = m + 1 := ⟨n - 1, by omega⟩
    have ew : IntKind.wrap .i64 (((m + 1 : Nat) : Int) - 1) = (m : Int) := by rw [wrapI (by omega) (by omega)]; omega
    obtain ⟨x, hx, hx1, hx2, _⟩ := natP_get (l := l) (i := m) (by omega)
    rw [trimN_succ l m hx2] at hs
    refine ⟨.int .u32 x, ⟨by rw [ew]; omega, by rw [ew]; simpa using hx1⟩, ?_⟩
    set_option smartUnfolding false in conv => whnf
    refine br_intro (fun g => ?_) (fun g => ?_) <;> set_option smartUnfolding false in conv => whnf
    · have g := dT g
      rw [if_pos g] at hs
      exact ⟨m, ⟨by omega, hs⟩, weak_bare rfl ⟨(by kernel_rfl), sI ew, trivial⟩, by omega⟩
    · have g := dF g
      rw [if_neg g] at hs
      subst hs
      refine ⟨⟨by omega, by omega, by rw [natP_len]; omega⟩, ?_⟩
      set_option smartUnfolding false in conv => whnf
      exact rdP (by rw [← hR]; rfl)
  · have h := dF h
    obtain rfl : n = 0 := by omega
    rw [trimN_zero] at hs
    subst hs
    refine ⟨⟨by omega, by omega, by omega⟩, ?_⟩
    set_option smartUnfolding false in conv => whnf
    exact rdP (by rw [← hR]; rfl)
theorem trim_1 {a : Int} (h : a ≠ 0) : trimL [a] = [a] := by unfold trimL; rw [show [a].length = 0 + 1 from rfl, trimN_succ [a] 0 (x := a) rfl, if_neg h]; rfl
theorem trim_0 : trimL [0] = [] := by unfold trimL; rw [show [(0 : Int)].length = 0 + 1 from rfl, trimN_succ [0] 0 (x := 0) rfl, if_pos rfl, trimN_zero]; rfl
theorem trim_nil : trimL [] = [] := by unfold trimL; rw [List.length_nil, trimN_zero]; rfl
theorem trim_a0 {a : Int} (h : a ≠ 0) : trimL [a, 0] = [a] := by unfold trimL; rw [show [a, 0].length = 0 + 1 + 1 from rfl, trimN_succ [a, 0] 1 (x := 0) rfl, if_pos rfl, trimN_succ [a, 0] 0 (x := a) rfl, if_neg h]; rfl
theorem trim_a00 {a : Int} (h : a ≠ 0) : trimL [a, 0, 0] = [a] := by unfold trimL; rw [show [a, 0, 0].length = 0 + 1 + 1 + 1 from rfl, trimN_succ [a, 0, 0] 2 (x := 0) rfl, if_pos rfl, trimN_succ [a, 0, 0] 1 (x := 0) rfl, if_pos rfl, trimN_succ [a, 0, 0] 0 (x := a) rfl, if_neg h]; rfl
theorem trim_000 : trimL [0, 0, 0] = [] := by unfold trimL; rw [show [(0 : Int), 0, 0].length = 0 + 1 + 1 + 1 from rfl, trimN_succ [0, 0, 0] 2 (x := 0) rfl, if_pos rfl, trimN_succ [0, 0, 0] 1 (x := 0) rfl, if_pos rfl, trimN_succ [0, 0, 0] 0 (x := 0) rfl, if_pos rfl, trimN_zero]; rfl
/-- slices.Clone of some limbs. -/
theorem clone1_det (a : Int) : Det Tryz.prog 143 [.lst 1 [.int .u32 a]] (.lst 1 [.int .u32 a]) := by
  refine det_of_vc' (E := S.E 0) rfl fol Tryz.func143 rfl rfl (slots := [2]) rfl rfl fun hw => ?_
  set_option smartUnfolding false in conv => whnf
  refine ⟨Nat.lt_succ_self 0, ?_⟩
  set_option smartUnfolding false in conv => whnf
  refine ⟨⟨⟨Nat.le_refl _, by simp⟩, by rw [show ((S.E 0).te 78).bytes = 4 from rfl]; simp⟩, ?_⟩
  set_option smartUnfolding false in conv => whnf
  exact rd_row (t := 78) (ps := [.int .u32 a]) trivial (by kernel_rfl) rfl
/-- norm, where no limb is too great. -/
theorem norm_det (l : List Int) (hl : l.length ≤ 100) (hs : ∀ x ∈ l, 0 ≤ x ∧ x < 1000000000) : Det Tryz.prog 102 [.lst 1 (natP l)] (.lst 1 (natP (trimL l))) := by
  have hT := trim_det l (by omega)
  generalize PV.lst 1 (natP (trimL l)) = R at hT
  have ew : IntKind.wrap .i64 ((l.length : Int) + 1) = (l.length : Int) + 1 := wrapI (by omega) (by omega)
  refine det_of_vc' (E := S.E 0) rfl fol Tryz.func102 rfl rfl (slots := [2]) rfl rfl fun hw => ?_
  set_option smartUnfolding false in conv => whnf
  refine ⟨⟨by omega, by rw [natP_len, ew]; omega, by rw [natP_len, ew]; omega, by rw [natP_len, ew, show ((S.E 0).te 78).bytes = 4 from rfl]; omega⟩, ?_⟩
  set_option smartUnfolding false in conv => whnf
  refine vloop_intro (σ := Nat) (fun i => i ≤ l.length) (fun i => [(3, .row 0 i), (4, .pv (.int .u64 0)), (12, .pv (.lst 1 (natP l))), (13, .pv (.int .i64 (natP l).length)), (14, .pv (.int .i64 i))])
    (fun i => [.row 78 1 (pvs (natP (l.take i)))]) (fun i => l.length - i) 0 (Nat.zero_le _) (weak_ren [0] 1 (by kernel_rfl) (blk (by rw [List.take_zero, natP_nil]; kernel_rfl) trivial) ⟨(by kernel_rfl), (by kernel_rfl), (by kernel_rfl), (by kernel_rfl), (by kernel_rfl), trivial⟩) ?_
  rintro i hi
  set_option smartUnfolding false in conv => whnf
  refine br_intro (fun h => ?_) (fun h => ?_) <;> set_option smartUnfolding false in conv => whnf
  · replace h : i < l.length := by have := dT h; rw [natP_len] at this; simpa using this
    obtain ⟨x, hx, hx1, hx2, hx3⟩ := natP_get (l := l) (i := i) h
    have hb := hs x hx
    have e1 : IntKind.wrap .u64 (IntKind.wrap .u64 x + 0) = x := by rw [Int.add_zero, wrapU64 (n := x) (by omega) (by omega), wrapU64 (by omega) (by omega)]
    refine ⟨.int .u32 x, ⟨by simp, by simpa using hx1⟩, ?_⟩
    set_option smartUnfolding false in conv => whnf
    refine ⟨by decide, ?_⟩
    set_option smartUnfolding false in conv => whnf
    refine ⟨Nat.le_refl 1, ?_⟩
    set_option smartUnfolding false in conv => whnf
    refine ⟨⟨⟨by rw [pvs_len, natP_len, List.length_take]; omega, by omega⟩, by rw [show ((S.E 0).te 78).bytes = 4 from rfl]; omega⟩, ?_⟩
    set_option smartUnfolding false in conv => whnf
    refine ⟨by decide, ?_⟩
    set_option smartUnfolding false in conv => whnf
    have e2 : IntKind.wrap .u32 ((IntKind.wrap .u64 (IntKind.wrap .u64 x + 0)).tmod 1000000000) = x := by rw [e1, Int.tmod_eq_of_lt (by omega) (by omega), wrapU32 (by omega) (by omega)]
    have e3 : IntKind.wrap .u64 ((IntKind.wrap .u64 (IntKind.wrap .u64 x + 0)).tdiv 1000000000) = 0 := by rw [e1, Int.tdiv_eq_zero_of_lt (by omega) (by omega)]; rfl
    have e4 : natP (l.take (i + 1)) = natP (l.take i) ++ [.int .u32 x] := by
      rw [List.take_add_one, hx2, natP_app, Option.toList_some, natP_cons, natP_nil]
    exact ⟨i + 1, h, weak_ren [2] 3 (by kernel_rfl) (blkR_row (xs := appL i (pvs (natP (l.take i))) 1 [.pv (.int .u32 (IntKind.wrap .u32 ((IntKind.wrap .u64 (IntKind.wrap .u64 x + 0)).tmod 1000000000)))]) (by kernel_rfl) (by rw [app_any (by rw [natP_len, List.length_take]; omega), e4, e2]) trivial) ⟨(by kernel_rfl), sI e3, (by kernel_rfl), (by kernel_rfl), sUp h (by omega), trivial⟩, subUp h⟩
  · replace h : ¬ i < l.length := by have := dF h; rw [natP_len] at this; simpa using this
    obtain rfl : i = l.length := by omega
    have ht : natP (l.take l.length) = natP l := by rw [List.take_length]
    refine acall_intro (adet_eat (S := [0]) hT (.cons (rd_row (t := 78) (ps := natP l) (by simp) (Eq.trans (b := AB.row 78 1 (pvs (natP (l.take l.length)))) (by kernel_rfl) (by rw [ht])) (by rw [natP_len])) .nil)) ?_
    set_option smartUnfolding false in conv => whnf
    exact rdP (.refl _)
end Go.AM

set_option linter.all false
set_option maxRecDepth 20000
set_option maxHeartbeats 4000000
namespace Go.AM
open Go.Proofs

/-! ### Numbers of one limb -/
abbrev uP (a : Int) : PV := .int .u32 a
abbrev L1 (a : Int) : PV := .lst 1 [uP a]
abbrev L0 : PV := .lst 1 []
theorem natP_1 (a : Int) : natP [a] = [uP a] := by rw [natP_cons, natP_nil]
theorem natP_2 (a b : Int) : natP [a, b] = [uP a, uP b] := by rw [natP_cons, natP_1]
theorem natP_3 (a b c : Int) : natP [a, b, c] = [uP a, uP b, uP c] := by rw [natP_cons, natP_2]
theorem trim1_det {a : Int} (h : a ≠ 0) : Det Tryz.prog 144 [L1 a] (L1 a) := by
  have := trim_det [a] (by simp)
  rwa [trim_1 h, natP_1] at this
theorem trim0_det : Det Tryz.prog 144 [L1 0] L0 := by
  have := trim_det [0] (by simp)
  rwa [trim_0, natP_1, natP_nil] at this
theorem trimA_det {a : Int} (h : a ≠ 0) : Det Tryz.prog 144 [.lst 1 [uP a, uP 0]] (L1 a) := by
  have := trim_det [a, 0] (by simp)
  rwa [trim_a0 h, natP_1, natP_2] at this
theorem norm1_det {a : Int} (h : 0 < a) (h2 : a < 1000000000) : Det Tryz.prog 102 [L1 a] (L1 a) := by
  have := norm_det [a] (by simp) (by simp; omega)
  rwa [trim_1 (by omega), natP_1] at this
theorem norm0_det : Det Tryz.prog 102 [L0] L0 := by
  have := norm_det [] (by simp) (by simp)
  rwa [trim_nil, natP_nil] at this
theorem norm3_det {a : Int} (h : 0 < a) (h2 : a < 1000000000) : Det Tryz.prog 102 [.lst 1 [uP a, uP 0, uP 0]] (L1 a) := by
  have := norm_det [a, 0, 0] (by simp) (by simp; omega)
  rwa [trim_a00 (by omega), natP_1, natP_3] at this
theorem norm30_det : Det Tryz.prog 102 [.lst 1 [uP 0, uP 0, uP 0]] L0 := by
  have := norm_det [0, 0, 0] (by simp) (by simp)
  rwa [trim_000, natP_nil, natP_3] at this
theorem blkU1 {ρ : Nat → Nat} {H : Heap} {k t sz : Nat} {x q : Int} {l : Heap} (h : hget H (ρ k) = .row t sz [.pv (uP x)]) (e : x = q) (hl : BlkR ρ H (k + 1) l) : BlkR ρ H k (.row t sz [.pv (uP q)] :: l) := by
  subst e
  exact ⟨h.symm, hl⟩
theorem blkU2 {ρ : Nat → Nat} {H : Heap} {k t sz : Nat} {x q y r : Int} {l : Heap} (h : hget H (ρ k) = .row t sz [.pv (uP x), .pv (uP y)]) (e : x = q) (e2 : y = r) (hl : BlkR ρ H (k + 1) l) : BlkR ρ H k (.row t sz [.pv (uP q), .pv (uP r)] :: l) := by
  subst e e2
  exact ⟨h.symm, hl⟩
/-- a = q d, all of one limb. -/
structure Qd (a q d : Int) : Prop where
  quo : a.tdiv d = q
  rem : a.tmod d = 0
  q0 : 0 < q
  q1 : q < 1000000000
  d0 : 0 < d
  d1 : d ≤ a
  a1 : a < 1000000000
theorem divS_det {a q d : Int} (h : Qd a q d) : Det Tryz.prog 152 [L1 a, uP d] (.tuple [L1 q, uP 0]) := by
  have h1 := h.q0; have h2 := h.q1; have h3 := h.d0; have h4 := h.d1; have h5 := h.a1
  have hT := trim1_det (a := q) (by omega)
  have ed : IntKind.wrap .u64 d = d := wrapU64 (by omega) (by omega)
  have ea : IntKind.wrap .u64 (IntKind.wrap .u64 (0 * 1000000000) + IntKind.wrap .u64 a) = a := by rw [show IntKind.wrap .u64 (0 * 1000000000) = 0 from rfl, wrapU64 (n := a) (by omega) (by omega), Int.zero_add, wrapU64 (by omega) (by omega)]
  have e1 : IntKind.wrap .u32 (IntKind.wrap .u64 ((IntKind.wrap .u64 (IntKind.wrap .u64 (0 * 1000000000) + IntKind.wrap .u64 a)).tdiv (IntKind.wrap .u64 d))) = q := by rw [ea, ed, h.quo, wrapU64 (by omega) (by omega), wrapU32 (by omega) (by omega)]
  have e2 : (IntKind.wrap .u64 (IntKind.wrap .u64 (0 * 1000000000) + IntKind.wrap .u64 a)).tmod (IntKind.wrap .u64 d) = 0 := by rw [ea, ed, h.rem]
  refine det_of_vc' (E := S.E 0) rfl fol Tryz.func152 rfl rfl (slots := [4, 5]) rfl rfl fun hw => ?_
  set_option smartUnfolding false in conv => whnf
  refine ⟨of_decide_eq_true (by kernel_rfl), ?_⟩
  set_option smartUnfolding false in conv => whnf
  refine vloop_intro (σ := Bool) (fun _ => True) (fun b => [(0, .pv (L1 a)), (1, .pv (uP d)), (6, .row 0 1), (7, .pv (.int .u64 0)), (15, .pv (.int .i64 1)), (16, .pv (.int .i64 (cond b 1 0)))]) (fun b => [.row 78 1 [.pv (uP (cond b q 0))]]) (fun b => cond b 0 1) false trivial (weak_ren [0] 1 (by kernel_rfl) (blk (by kernel_rfl) trivial) ⟨(by kernel_rfl), (by kernel_rfl), (by kernel_rfl), (by kernel_rfl), (by kernel_rfl), (by kernel_rfl), trivial⟩) ?_
  rintro b _
  cases b with
  | true =>
    set_option smartUnfolding false in conv => whnf
    refine acall_intro (adet_eat (S := [0]) hT (.cons (rd_row (t := 78) (ps := [uP q]) (.head _) (by kernel_rfl) rfl) .nil)) ?_
    set_option smartUnfolding false in conv => whnf
    exact rdP (.refl _)
  | false =>
    set_option smartUnfolding false in conv => whnf
    refine ⟨uP a, ⟨of_decide_eq_true (by kernel_rfl), rfl⟩, ?_⟩
    set_option smartUnfolding false in conv => whnf
    refine ⟨by rw [ed]; omega, ?_⟩
    set_option smartUnfolding false in conv => whnf
    refine ⟨by rw [ed]; omega, ?_⟩
    set_option smartUnfolding false in conv => whnf
    refine ⟨of_decide_eq_true (by kernel_rfl), ?_⟩
    set_option smartUnfolding false in conv => whnf
    refine ⟨.pv (uP 0), rfl, rfl, ?_⟩
    set_option smartUnfolding false in conv => whnf
    exact ⟨true, trivial, weak_ren [0] 1 (by kernel_rfl) (blkU1 (Eq.refl _) e1 trivial) ⟨(by kernel_rfl), (by kernel_rfl), (by kernel_rfl), sI e2, (by kernel_rfl), (by kernel_rfl), trivial⟩, Nat.lt_succ_self 0⟩
def cmpI (a b : Int) : Int := if a < b then -1 else if a = b then 0 else 1
theorem cmp1_det (a b : Int) : Det Tryz.prog 139 [L1 a, L1 b] (.int .i64 (cmpI a b)) := by
  generalize hR : cmpI a b = R
  unfold cmpI at hR
  refine det_of_vc' (E := S.E 0) rfl fol Tryz.func139 rfl rfl (slots := [4]) rfl rfl fun hw => ?_
  set_option smartUnfolding false in conv => whnf
  refine vloop_intro (σ := Bool) (fun x => x = true → a = b) (fun b' => [(0, .pv (L1 a)), (1, .pv (L1 b)), (18, .pv (.int .i64 1)), (19, .pv (.int .i64 (cond b' 1 0)))]) (fun b => []) (fun b => cond b 0 1) false (by simp) (weak_bare rfl ⟨(by kernel_rfl), (by kernel_rfl), (by kernel_rfl), (by kernel_rfl), trivial⟩) ?_
  rintro x hx
  cases x with
  | true =>
    have hx := hx rfl
    subst hx
    set_option smartUnfolding false in conv => whnf
    exact rdI (by rw [← hR, if_neg (by omega), if_pos rfl])
  | false =>
    set_option smartUnfolding false in conv => whnf
    refine ⟨uP a, ⟨of_decide_eq_true (by kernel_rfl), rfl⟩, ?_⟩
    set_option smartUnfolding false in conv => whnf
    refine ⟨uP b, ⟨of_decide_eq_true (by kernel_rfl), rfl⟩, ?_⟩
    set_option smartUnfolding false in conv => whnf
    refine br_intro (fun h => ?_) (fun h => ?_) <;> set_option smartUnfolding false in conv => whnf
    · have h : ¬ a = b := by simpa using h
      refine ⟨uP a, ⟨of_decide_eq_true (by kernel_rfl), rfl⟩, ?_⟩
      set_option smartUnfolding false in conv => whnf
      refine ⟨uP b, ⟨of_decide_eq_true (by kernel_rfl), rfl⟩, ?_⟩
      set_option smartUnfolding false in conv => whnf
      refine br_intro (fun g => ?_) (fun g => ?_) <;> set_option smartUnfolding false in conv => whnf
      · have g := dT g
        exact rdI (by rw [← hR, if_pos g])
      · have g := dF g
        exact rdI (by rw [← hR, if_neg g, if_neg h])
    · have h : a = b := by simpa using h
      exact ⟨true, fun _ => h, weak_bare rfl ⟨(by kernel_rfl), (by kernel_rfl), (by kernel_rfl), (by kernel_rfl), trivial⟩, Nat.lt_succ_self 0⟩
attribute [irreducible] cmpI
theorem cmpI_ge {a b : Int} (h : b ≤ a) : 0 ≤ cmpI a b := by unfold cmpI; rw [if_neg (by omega)]; split <;> omega
theorem div1_det {a q d : Int} (h : Qd a q d) : Det Tryz.prog 142 [L1 a, L1 d] (.tuple [L1 q, L0]) := by
  have hC := cmp1_det a d
  have hc := cmpI_ge (a := a) (b := d) h.d1
  have hS := divS_det h
  have hT := trim0_det
  generalize cmpI a d = c at hC hc
  refine det_of_vc' (E := S.E 0) rfl fol Tryz.func142 rfl rfl (slots := [4, 5]) rfl rfl fun hw => ?_
  set_option smartUnfolding false in conv => whnf
  refine acall_det (ps := [L1 a, L1 d]) hC ?_
  set_option smartUnfolding false in conv => whnf
  refine br_intro (fun h => ?_) (fun h => ?_) <;> set_option smartUnfolding false in conv => whnf
  · have h := dT h; omega
  refine ⟨uP d, ⟨of_decide_eq_true (by kernel_rfl), rfl⟩, ?_⟩
  set_option smartUnfolding false in conv => whnf
  refine acall_det (ps := [L1 a, uP d]) hS ?_
  set_option smartUnfolding false in conv => whnf
  refine acall_intro (adet_eat (S := [0]) hT (.cons (rd_row (t := 78) (ps := [uP 0]) (.head _) (by kernel_rfl) rfl) .nil)) ?_
  set_option smartUnfolding false in conv => whnf
  exact rdP (.refl _)
theorem gcd1_det {a q d : Int} (h : Qd a q d) : Det Tryz.prog 141 [L1 a, L1 d] (L1 d) := by
  have hD := div1_det h
  refine det_of_vc' (E := S.E 0) rfl fol Tryz.func141 rfl rfl (slots := [4]) rfl rfl fun hw => ?_
  set_option smartUnfolding false in conv => whnf
  refine vloop_intro (σ := Bool) (fun _ => True) (fun b => [(0, .pv (L1 (cond b d a))), (1, .pv (.lst 1 (cond b [] [uP d])))]) (fun b => []) (fun b => cond b 0 1) false trivial (weak_bare rfl ⟨(by kernel_rfl), (by kernel_rfl), trivial⟩) ?_
  rintro x _
  cases x with
  | true =>
    set_option smartUnfolding false in conv => whnf
    exact rdP (.refl _)
  | false =>
    set_option smartUnfolding false in conv => whnf
    refine acall_det (ps := [L1 a, L1 d]) hD ?_
    set_option smartUnfolding false in conv => whnf
    exact ⟨true, trivial, weak_bare rfl ⟨(by kernel_rfl), (by kernel_rfl), trivial⟩, Nat.lt_succ_self 0⟩
/-- Rational numbers. -/
abbrev R0 : PV := .agg [.bool false, L0, L1 1]
abbrev R1 (neg : Bool) (a : Int) : PV := .agg [.bool neg, L1 a, L1 1]
theorem qd_one {a : Int} (h : 0 < a) (h2 : a < 1000000000) : Qd a a 1 := ⟨Int.tdiv_one a, Int.tmod_one a, h, h2, by omega, by omega, h2⟩
theorem qd_self {a : Int} (h : 0 < a) (h2 : a < 1000000000) : Qd a 1 a := ⟨Int.tdiv_self (by omega), Int.tmod_self, by omega, by omega, h, by omega, h2⟩
theorem made0_det (neg : Bool) (den : List PV) : Det Tryz.prog 101 [.bool neg, L0, .lst 1 den] R0 := by
  refine det_of_vcc (E := S.E 0) rfl fol Tryz.func101 rfl rfl (cell := (6, 50)) rfl rfl fun hw => ?_
  set_option smartUnfolding false in conv => whnf
  exact .mix (.cons (.pv _) (.cons (.le (.nils 1)) (.cons (rd_row (t := 78) (ps := [uP 1]) trivial (by kernel_rfl) rfl) .nil)))
theorem made1_det (neg : Bool) {a : Int} (h : 0 < a) (h2 : a < 1000000000) : Det Tryz.prog 101 [.bool neg, L1 a, L1 1] (R1 neg a) := by
  have hG := gcd1_det (qd_one h h2)
  have hC := clone1_det a
  have hC1 := clone1_det 1
  refine det_of_vcc (E := S.E 0) rfl fol Tryz.func101 rfl rfl (cell := (6, 50)) rfl rfl fun hw => ?_
  set_option smartUnfolding false in conv => whnf
  refine acall_det (ps := [L1 a, L1 1]) hG ?_
  set_option smartUnfolding false in conv => whnf
  refine ⟨uP 1, ⟨of_decide_eq_true (by kernel_rfl), rfl⟩, ?_⟩
  set_option smartUnfolding false in conv => whnf
  refine acall_det (ps := [L1 a]) hC ?_
  set_option smartUnfolding false in conv => whnf
  refine acall_det (ps := [L1 1]) hC1 ?_
  set_option smartUnfolding false in conv => whnf
  exact rdP (.refl _)
theorem madeD_det (neg : Bool) {a q d : Int} (h : Qd a q d) (hd : 1 < d) : Det Tryz.prog 101 [.bool neg, L1 a, L1 d] (R1 neg q) := by
  have hG := gcd1_det h
  have hD := div1_det h
  have hD1 := div1_det (qd_self h.d0 (by have := h.d1; have := h.a1; omega))
  have hC := clone1_det q
  have hC1 := clone1_det 1
  refine det_of_vcc (E := S.E 0) rfl fol Tryz.func101 rfl rfl (cell := (6, 50)) rfl rfl fun hw => ?_
  set_option smartUnfolding false in conv => whnf
  refine acall_det (ps := [L1 a, L1 d]) hG ?_
  set_option smartUnfolding false in conv => whnf
  refine ⟨uP d, ⟨of_decide_eq_true (by kernel_rfl), rfl⟩, ?_⟩
  set_option smartUnfolding false in conv => whnf
  refine br_intro (fun h => ?_) (fun h => ?_) <;> set_option smartUnfolding false in conv => whnf
  · refine acall_det (ps := [L1 a, L1 d]) hD ?_
    set_option smartUnfolding false in conv => whnf
    refine acall_det (ps := [L1 d, L1 d]) hD1 ?_
    set_option smartUnfolding false in conv => whnf
    refine acall_det (ps := [L1 q]) hC ?_
    set_option smartUnfolding false in conv => whnf
    refine acall_det (ps := [L1 1]) hC1 ?_
    set_option smartUnfolding false in conv => whnf
    exact rdP (.refl _)
  · have h := dF h; omega
theorem canon1_det (neg : Bool) {a : Int} (h : 0 < a) (h2 : a < 1000000000) : Det Tryz.prog 133 [R1 neg a] (R1 neg a) := by
  have hN := norm1_det h h2
  have hN1 := norm1_det (a := 1) (by omega) (by omega)
  have hM := made1_det neg h h2
  refine det_of_vcc (E := S.E 0) rfl fol Tryz.func133 rfl rfl (cell := (2, 50)) rfl rfl fun hw => ?_
  set_option smartUnfolding false in conv => whnf
  refine acall_det (ps := [L1 1]) hN1 ?_
  set_option smartUnfolding false in conv => whnf
  refine acall_det (ps := [L1 a]) hN ?_
  set_option smartUnfolding false in conv => whnf
  refine acall_det (ps := [.bool neg, L1 a, L1 1]) hM ?_
  set_option smartUnfolding false in conv => whnf
  exact rdP (.refl _)
theorem canon0_det : Det Tryz.prog 133 [R0] R0 := by
  have hN := norm0_det
  have hN1 := norm1_det (a := 1) (by omega) (by omega)
  have hM := made0_det false [uP 1]
  refine det_of_vcc (E := S.E 0) rfl fol Tryz.func133 rfl rfl (cell := (2, 50)) rfl rfl fun hw => ?_
  set_option smartUnfolding false in conv => whnf
  refine acall_det (ps := [L1 1]) hN1 ?_
  set_option smartUnfolding false in conv => whnf
  refine acall_det (ps := [L0]) hN ?_
  set_option smartUnfolding false in conv => whnf
  refine acall_det (ps := [.bool false, L0, L1 1]) hM ?_
  set_option smartUnfolding false in conv => whnf
  exact rdP (.refl _)
end Go.AM

set_option linter.all false
set_option maxRecDepth 20000
set_option maxHeartbeats 4000000
namespace Go.AM
open Go.Proofs

theorem mul0_det (b : Int) : Det Tryz.prog 134 [L0, L1 b] L0 := by
  have hT := trim0_det
  refine det_of_vc' (E := S.E 0) rfl fol Tryz.func134 rfl rfl (slots := [4]) rfl rfl fun hw => ?_
  set_option smartUnfolding false in conv => whnf
  refine ⟨of_decide_eq_true (by kernel_rfl), ?_⟩
  set_option smartUnfolding false in conv => whnf
  refine vloop_intro (σ := Unit) (fun _ => True) (fun _ => [(0, .pv L0), (1, .pv (L1 b)), (5, .row 0 1), (17, .pv (.int .i64 0)), (18, .pv (.int .i64 0))]) (fun _ => [.row 78 1 [.pv (uP 0)]]) (fun _ => 0) () trivial (weak_ren [0] 1 (by kernel_rfl) (blk (by kernel_rfl) trivial) ⟨(by kernel_rfl), (by kernel_rfl), (by kernel_rfl), (by kernel_rfl), (by kernel_rfl), trivial⟩) ?_
  rintro x _
  set_option smartUnfolding false in conv => whnf
  refine acall_intro (adet_eat (S := [0]) hT (.cons (rd_row (t := 78) (ps := [uP 0]) (.head _) (by kernel_rfl) rfl) .nil)) ?_
  set_option smartUnfolding false in conv => whnf
  exact rdP (.refl _)
theorem mul1_det {a b c : Int} (hc : a * b = c) (ha : 0 < a) (ha2 : a < 1000000000) (hb : 0 < b) (hb2 : b < 1000000000) (hc0 : 0 < c) (hc2 : c < 1000000000) : Det Tryz.prog 134 [L1 a, L1 b] (L1 c) := by
  have hT := trimA_det (a := c) (by omega)
  have e0 : IntKind.wrap .u64 (IntKind.wrap .u64 (IntKind.wrap .u64 (IntKind.wrap .u64 a * IntKind.wrap .u64 b) + IntKind.wrap .u64 0) + 0) = c := by
    rw [wrapU64 (n := a) (by omega) (by omega), wrapU64 (n := b) (by omega) (by omega), hc, show IntKind.wrap .u64 0 = 0 from rfl, Int.add_zero, Int.add_zero, wrapU64 (n := c) (by omega) (by omega), wrapU64 (n := c) (by omega) (by omega), wrapU64 (n := c) (by omega) (by omega)]
  have e1 : IntKind.wrap .u32 ((IntKind.wrap .u64 (IntKind.wrap .u64 (IntKind.wrap .u64 (IntKind.wrap .u64 a * IntKind.wrap .u64 b) + IntKind.wrap .u64 0) + 0)).tmod 1000000000) = c := by
    rw [e0, Int.tmod_eq_of_lt (by omega) (by omega), wrapU32 (by omega) (by omega)]
  have e2 : IntKind.wrap .u64 ((IntKind.wrap .u64 (IntKind.wrap .u64 (IntKind.wrap .u64 (IntKind.wrap .u64 a * IntKind.wrap .u64 b) + IntKind.wrap .u64 0) + 0)).tdiv 1000000000) = 0 := by
    rw [e0, Int.tdiv_eq_zero_of_lt (by omega) (by omega)]; rfl
  refine det_of_vc' (E := S.E 0) rfl fol Tryz.func134 rfl rfl (slots := [4]) rfl rfl fun hw => ?_
  set_option smartUnfolding false in conv => whnf
  refine ⟨of_decide_eq_true (by kernel_rfl), ?_⟩
  set_option smartUnfolding false in conv => whnf
  refine vloop_intro (σ := Bool) (fun _ => True) (fun x => [(0, .pv (L1 a)), (1, .pv (L1 b)), (5, .row 0 2), (17, .pv (.int .i64 1)), (18, .pv (.int .i64 (cond x 1 0)))]) (fun x => [.row 78 1 [.pv (uP (cond x c 0)), .pv (uP 0)]]) (fun b => cond b 0 1) false trivial (weak_ren [0] 1 (by kernel_rfl) (blk (by kernel_rfl) trivial) ⟨(by kernel_rfl), (by kernel_rfl), (by kernel_rfl), (by kernel_rfl), (by kernel_rfl), trivial⟩) ?_
  rintro x _
  cases x with
  | true =>
    set_option smartUnfolding false in conv => whnf
    refine acall_intro (adet_eat (S := [0]) hT (.cons (rd_row (t := 78) (ps := [uP c, uP 0]) (.head _) (by kernel_rfl) rfl) .nil)) ?_
    set_option smartUnfolding false in conv => whnf
    exact rdP (.refl _)
  | false =>
    set_option smartUnfolding false in conv => whnf
    refine vloop_intro (σ := Bool) (fun _ => True) (fun x => [(0, .pv (L1 a)), (1, .pv (L1 b)), (5, .row 0 2), (6, .pv (.int .i64 0)), (7, .pv (.int .u64 0)), (17, .pv (.int .i64 1)), (18, .pv (.int .i64 0)), (22, .pv (.int .i64 1)), (23, .pv (.int .i64 (cond x 1 0)))]) (fun x => [.row 78 1 [.pv (uP (cond x c 0)), .pv (uP 0)]]) (fun b => cond b 0 1) false trivial (weak_ren [0] 1 (by kernel_rfl) (blk (by kernel_rfl) trivial) ⟨(by kernel_rfl), (by kernel_rfl), (by kernel_rfl), (by kernel_rfl), (by kernel_rfl), (by kernel_rfl), (by kernel_rfl), (by kernel_rfl), (by kernel_rfl), trivial⟩) ?_
    rintro x _
    cases x with
    | true =>
      set_option smartUnfolding false in conv => whnf
      refine ⟨of_decide_eq_true (by kernel_rfl), ?_⟩
      set_option smartUnfolding false in conv => whnf
      refine ⟨.pv (uP 0), rfl, rfl, ?_⟩
      set_option smartUnfolding false in conv => whnf
      exact ⟨true, trivial, weak_ren [0] 1 (by kernel_rfl) (blkU2 (Eq.refl _) (by kernel_rfl) (by kernel_rfl) trivial) ⟨(by kernel_rfl), (by kernel_rfl), (by kernel_rfl), (by kernel_rfl), (by kernel_rfl), trivial⟩, Nat.lt_succ_self 0⟩
    | false =>
      set_option smartUnfolding false in conv => whnf
      refine ⟨uP a, ⟨of_decide_eq_true (by kernel_rfl), rfl⟩, ?_⟩
      set_option smartUnfolding false in conv => whnf
      refine ⟨uP b, ⟨of_decide_eq_true (by kernel_rfl), rfl⟩, ?_⟩
      set_option smartUnfolding false in conv => whnf
      refine ⟨of_decide_eq_true (by kernel_rfl), ?_⟩
      set_option smartUnfolding false in conv => whnf
      refine ⟨.pv (uP 0), rfl, ?_⟩
      set_option smartUnfolding false in conv => whnf
      refine ⟨of_decide_eq_true (by kernel_rfl), ?_⟩
      set_option smartUnfolding false in conv => whnf
      refine ⟨of_decide_eq_true (by kernel_rfl), ?_⟩
      set_option smartUnfolding false in conv => whnf
      refine ⟨of_decide_eq_true (by kernel_rfl), ?_⟩
      set_option smartUnfolding false in conv => whnf
      refine ⟨.pv (uP 0), rfl, rfl, ?_⟩
      set_option smartUnfolding false in conv => whnf
      exact ⟨true, trivial, weak_ren [0] 1 (by kernel_rfl) (blkU2 (Eq.refl _) e1 (by kernel_rfl) trivial) ⟨(by kernel_rfl), (by kernel_rfl), (by kernel_rfl), (by kernel_rfl), sI e2, (by kernel_rfl), (by kernel_rfl), (by kernel_rfl), (by kernel_rfl), trivial⟩, Nat.lt_succ_self 0⟩
theorem add0_det {a : Int} (ha : 0 < a) (ha2 : a < 1000000000) : Det Tryz.prog 138 [L1 a, L0] (L1 a) := by
  have hT := trimA_det (a := a) (by omega)
  have e1 : IntKind.wrap .u32 (a + 0) = a := by rw [Int.add_zero, wrapU32 (by omega) (by omega)]
  refine det_of_vc' (E := S.E 0) rfl fol Tryz.func138 rfl rfl (slots := [4]) rfl rfl fun hw => ?_
  set_option smartUnfolding false in conv => whnf
  refine ⟨of_decide_eq_true (by kernel_rfl), ?_⟩
  set_option smartUnfolding false in conv => whnf
  refine vloop_intro (σ := Bool) (fun _ => True) (fun x => [(0, .pv (L1 a)), (1, .pv L0), (5, .row 0 2), (6, .pv (uP 0)), (21, .pv (.int .i64 1)), (22, .pv (.int .i64 (cond x 1 0)))]) (fun x => [.row 78 1 [.pv (uP (cond x a 0)), .pv (uP 0)]]) (fun b => cond b 0 1) false trivial (weak_ren [0] 1 (by kernel_rfl) (blk (by kernel_rfl) trivial) ⟨(by kernel_rfl), (by kernel_rfl), (by kernel_rfl), (by kernel_rfl), (by kernel_rfl), (by kernel_rfl), trivial⟩) ?_
  rintro x _
  cases x with
  | true =>
    set_option smartUnfolding false in conv => whnf
    refine ⟨of_decide_eq_true (by kernel_rfl), ?_⟩
    set_option smartUnfolding false in conv => whnf
    refine ⟨.pv (uP 0), rfl, rfl, ?_⟩
    set_option smartUnfolding false in conv => whnf
    refine acall_intro (adet_eat (S := [0]) hT (.cons (rd_row (t := 78) (ps := [uP a, uP 0]) (.head _) (by kernel_rfl) rfl) .nil)) ?_
    set_option smartUnfolding false in conv => whnf
    exact rdP (.refl _)
  | false =>
    set_option smartUnfolding false in conv => whnf
    refine ⟨uP a, ⟨of_decide_eq_true (by kernel_rfl), rfl⟩, ?_⟩
    set_option smartUnfolding false in conv => whnf
    refine br_intro (fun h => ?_) (fun h => ?_) <;> set_option smartUnfolding false in conv => whnf
    · have h := dT h
      rw [e1] at h; omega
    refine ⟨of_decide_eq_true (by kernel_rfl), ?_⟩
    set_option smartUnfolding false in conv => whnf
    refine ⟨.pv (uP 0), rfl, rfl, ?_⟩
    set_option smartUnfolding false in conv => whnf
    exact ⟨true, trivial, weak_ren [0] 1 (by kernel_rfl) (blkU2 (Eq.refl _) e1 (by kernel_rfl) trivial) ⟨(by kernel_rfl), (by kernel_rfl), (by kernel_rfl), (by kernel_rfl), (by kernel_rfl), (by kernel_rfl), trivial⟩, Nat.lt_succ_self 0⟩
theorem sub1_det {a b : Int} (hb : 0 < b) (hab : b < a) (ha2 : a < 1000000000) : Det Tryz.prog 140 [L1 a, L1 b] (L1 (a - b)) := by
  have hT := trim1_det (a := a - b) (by omega)
  have e1 : IntKind.wrap .u32 (0 + b) = b := by rw [Int.zero_add, wrapU32 (by omega) (by omega)]
  have e2 : IntKind.wrap .u32 (a - IntKind.wrap .u32 (0 + b)) = a - b := by rw [e1, wrapU32 (by omega) (by omega)]
  refine det_of_vc' (E := S.E 0) rfl fol Tryz.func140 rfl rfl (slots := [4]) rfl rfl fun hw => ?_
  set_option smartUnfolding false in conv => whnf
  refine ⟨of_decide_eq_true (by kernel_rfl), ?_⟩
  set_option smartUnfolding false in conv => whnf
  refine vloop_intro (σ := Bool) (fun _ => True) (fun x => [(0, .pv (L1 a)), (1, .pv (L1 b)), (5, .row 0 1), (6, .pv (uP 0)), (13, .pv (.int .i64 1)), (14, .pv (.int .i64 (cond x 1 0)))]) (fun x => [.row 78 1 [.pv (uP (cond x (a - b) 0))]]) (fun b => cond b 0 1) false trivial (weak_ren [0] 1 (by kernel_rfl) (blk (by kernel_rfl) trivial) ⟨(by kernel_rfl), (by kernel_rfl), (by kernel_rfl), (by kernel_rfl), (by kernel_rfl), (by kernel_rfl), trivial⟩) ?_
  rintro x _
  cases x with
  | true =>
    set_option smartUnfolding false in conv => whnf
    refine acall_intro (adet_eat (S := [0]) hT (.cons (rd_row (t := 78) (ps := [uP (a - b)]) (.head _) (by kernel_rfl) rfl) .nil)) ?_
    set_option smartUnfolding false in conv => whnf
    exact rdP (.refl _)
  | false =>
    set_option smartUnfolding false in conv => whnf
    refine ⟨uP b, ⟨of_decide_eq_true (by kernel_rfl), rfl⟩, ?_⟩
    set_option smartUnfolding false in conv => whnf
    refine ⟨uP a, ⟨of_decide_eq_true (by kernel_rfl), rfl⟩, ?_⟩
    set_option smartUnfolding false in conv => whnf
    refine br_intro (fun h => ?_) (fun h => ?_) <;> set_option smartUnfolding false in conv => whnf
    · have h := dT h
      rw [e1] at h; omega
    refine ⟨uP a, ⟨of_decide_eq_true (by kernel_rfl), rfl⟩, ?_⟩
    set_option smartUnfolding false in conv => whnf
    refine ⟨of_decide_eq_true (by kernel_rfl), ?_⟩
    set_option smartUnfolding false in conv => whnf
    refine ⟨.pv (uP 0), rfl, rfl, ?_⟩
    set_option smartUnfolding false in conv => whnf
    exact ⟨true, trivial, weak_ren [0] 1 (by kernel_rfl) (blkU1 (Eq.refl _) e2 trivial) ⟨(by kernel_rfl), (by kernel_rfl), (by kernel_rfl), (by kernel_rfl), (by kernel_rfl), (by kernel_rfl), trivial⟩, Nat.lt_succ_self 0⟩
/-- Rational numbers. -/
theorem neg1_det {a : Int} (ha : 0 < a) (ha2 : a < 1000000000) : Det Tryz.prog 151 [R1 false a] (R1 true a) := by
  have hC := canon1_det false ha ha2
  refine det_of_vcc (E := S.E 0) rfl fol Tryz.func151 rfl rfl (cell := (2, 50)) rfl rfl fun hw => ?_
  set_option smartUnfolding false in conv => whnf
  refine acall_det (ps := [R1 false a]) hC ?_
  set_option smartUnfolding false in conv => whnf
  exact rdP (.refl _)
theorem neg0_det : Det Tryz.prog 151 [R0] R0 := by
  have hC := canon0_det
  refine det_of_vcc (E := S.E 0) rfl fol Tryz.func151 rfl rfl (cell := (2, 50)) rfl rfl fun hw => ?_
  set_option smartUnfolding false in conv => whnf
  refine acall_det (ps := [R0]) hC ?_
  set_option smartUnfolding false in conv => whnf
  exact rdP (.refl _)
theorem addA_det {a : Int} (ha : 0 < a) (ha2 : a < 1000000000) : Det Tryz.prog 100 [R1 false a, R0] (R1 false a) := by
  have hC := canon1_det false ha ha2
  have hC0 := canon0_det
  have hM := mul1_det (a := a) (b := 1) (c := a) (by omega) ha ha2 (by omega) (by omega) ha ha2
  have hM0 := mul0_det 1
  have hM1 := mul1_det (a := 1) (b := 1) (c := 1) (by omega) (by omega) (by omega) (by omega) (by omega) (by omega) (by omega)
  have hA := add0_det ha ha2
  have hD := made1_det false ha ha2
  refine det_of_vcc (E := S.E 0) rfl fol Tryz.func100 rfl rfl (cell := (4, 50)) rfl rfl fun hw => ?_
  set_option smartUnfolding false in conv => whnf
  refine acall_det (ps := [R1 false a]) hC ?_
  set_option smartUnfolding false in conv => whnf
  refine acall_det (ps := [R0]) hC0 ?_
  set_option smartUnfolding false in conv => whnf
  refine acall_det (ps := [L1 a, L1 1]) hM ?_
  set_option smartUnfolding false in conv => whnf
  refine acall_det (ps := [L0, L1 1]) hM0 ?_
  set_option smartUnfolding false in conv => whnf
  refine acall_det (ps := [L1 1, L1 1]) hM1 ?_
  set_option smartUnfolding false in conv => whnf
  refine acall_det (ps := [L1 a, L0]) hA ?_
  set_option smartUnfolding false in conv => whnf
  refine acall_det (ps := [.bool false, L1 a, L1 1]) hD ?_
  set_option smartUnfolding false in conv => whnf
  exact rdP (.refl _)
theorem addB_det {a b : Int} (hb : 0 < b) (hab : b < a) (ha2 : a < 1000000000) : Det Tryz.prog 100 [R1 false a, R1 true b] (R1 false (a - b)) := by
  have hC := canon1_det false (a := a) (by omega) ha2
  have hC0 := canon1_det true (a := b) (by omega) (by omega)
  have hM := mul1_det (a := a) (b := 1) (c := a) (by omega) (by omega) ha2 (by omega) (by omega) (by omega) ha2
  have hM0 := mul1_det (a := b) (b := 1) (c := b) (by omega) (by omega) (by omega) (by omega) (by omega) (by omega) (by omega)
  have hM1 := mul1_det (a := 1) (b := 1) (c := 1) (by omega) (by omega) (by omega) (by omega) (by omega) (by omega) (by omega)
  have hQ := cmp1_det a b
  have hq := cmpI_ge (a := a) (b := b) (by omega)
  have hA := sub1_det hb hab ha2
  have hD := made1_det false (a := a - b) (by omega) (by omega)
  generalize cmpI a b = q at hQ hq
  generalize a - b = c at hA hD
  refine det_of_vcc (E := S.E 0) rfl fol Tryz.func100 rfl rfl (cell := (4, 50)) rfl rfl fun hw => ?_
  set_option smartUnfolding false in conv => whnf
  refine acall_det (ps := [R1 false a]) hC ?_
  set_option smartUnfolding false in conv => whnf
  refine acall_det (ps := [R1 true b]) hC0 ?_
  set_option smartUnfolding false in conv => whnf
  refine acall_det (ps := [L1 a, L1 1]) hM ?_
  set_option smartUnfolding false in conv => whnf
  refine acall_det (ps := [L1 b, L1 1]) hM0 ?_
  set_option smartUnfolding false in conv => whnf
  refine acall_det (ps := [L1 1, L1 1]) hM1 ?_
  set_option smartUnfolding false in conv => whnf
  refine acall_det (ps := [L1 a, L1 b]) hQ ?_
  set_option smartUnfolding false in conv => whnf
  refine br_intro (fun h => ?_) (fun h => ?_) <;> set_option smartUnfolding false in conv => whnf
  · refine acall_det (ps := [L1 a, L1 b]) hA ?_
    set_option smartUnfolding false in conv => whnf
    refine acall_det (ps := [.bool false, L1 c, L1 1]) hD ?_
    set_option smartUnfolding false in conv => whnf
    exact rdP (.refl _)
  · have h := dF h; omega
theorem subA_det {a : Int} (ha : 0 < a) (ha2 : a < 1000000000) : Det Tryz.prog 135 [R1 false a, R0] (R1 false a) := by
  have hN := neg0_det
  have hA := addA_det ha ha2
  refine det_of_vcc (E := S.E 0) rfl fol Tryz.func135 rfl rfl (cell := (4, 50)) rfl rfl fun hw => ?_
  set_option smartUnfolding false in conv => whnf
  refine acall_det hN ?_
  set_option smartUnfolding false in conv => whnf
  refine acall_det hA ?_
  set_option smartUnfolding false in conv => whnf
  exact rdP (.refl _)
theorem subB_det {a b : Int} (hb : 0 < b) (hab : b < a) (ha2 : a < 1000000000) : Det Tryz.prog 135 [R1 false a, R1 false b] (R1 false (a - b)) := by
  have hN := neg1_det hb (by omega)
  have hA := addB_det hb hab ha2
  generalize a - b = c at hA ⊢
  refine det_of_vcc (E := S.E 0) rfl fol Tryz.func135 rfl rfl (cell := (4, 50)) rfl rfl fun hw => ?_
  set_option smartUnfolding false in conv => whnf
  refine acall_det hN ?_
  set_option smartUnfolding false in conv => whnf
  refine acall_det hA ?_
  set_option smartUnfolding false in conv => whnf
  exact rdP (.refl _)
theorem mulR_det {a b c : Int} (hc : a * b = c) (ha : 0 < a) (ha2 : a < 1000000000) (hb : 0 < b) (hb2 : b < 1000000000) (hc0 : 0 < c) (hc2 : c < 1000000000) : Det Tryz.prog 95 [R1 false a, R1 false b] (R1 false c) := by
  have hC := canon1_det false ha ha2
  have hC0 := canon1_det false hb hb2
  have hM := mul1_det hc ha ha2 hb hb2 hc0 hc2
  have hM1 := mul1_det (a := 1) (b := 1) (c := 1) (by omega) (by omega) (by omega) (by omega) (by omega) (by omega) (by omega)
  have hD := made1_det false hc0 hc2
  refine det_of_vcc (E := S.E 0) rfl fol Tryz.func95 rfl rfl (cell := (4, 50)) rfl rfl fun hw => ?_
  set_option smartUnfolding false in conv => whnf
  refine acall_det (ps := [R1 false a]) hC ?_
  set_option smartUnfolding false in conv => whnf
  refine acall_det (ps := [R1 false b]) hC0 ?_
  set_option smartUnfolding false in conv => whnf
  refine acall_det (ps := [L1 a, L1 b]) hM ?_
  set_option smartUnfolding false in conv => whnf
  refine acall_det (ps := [L1 1, L1 1]) hM1 ?_
  set_option smartUnfolding false in conv => whnf
  refine acall_det (ps := [.bool false, L1 c, L1 1]) hD ?_
  set_option smartUnfolding false in conv => whnf
  exact rdP (.refl _)
theorem divR_det {a q d : Int} (h : Qd a q d) : Det Tryz.prog 136 [R1 false a, R1 false d] (.tuple [R1 false q, .bool true]) := by
  have h1 := h.q0; have h2 := h.q1; have h3 := h.d0; have h4 := h.d1; have h5 := h.a1
  have hC := canon1_det false (a := a) (by omega) (by omega)
  have hC0 := canon1_det false (a := d) (by omega) (by omega)
  have hM := mul1_det (a := a) (b := 1) (c := a) (by omega) (by omega) (by omega) (by omega) (by omega) (by omega) (by omega)
  have hM1 := mul1_det (a := 1) (b := d) (c := d) (by omega) (by omega) (by omega) (by omega) (by omega) (by omega) (by omega)
  have hD : Det Tryz.prog 101 [.bool false, L1 a, L1 d] (R1 false q) := by
    by_cases hd : 1 < d
    · exact madeD_det false h hd
    · have hd : d = 1 := by omega
      subst hd
      have := h.quo
      rw [Int.tdiv_one] at this
      subst this
      exact made1_det false (by omega) (by omega)
  refine det_of_vct (E := S.E 0) rfl fol Tryz.func136 rfl rfl (cell := (4, 50, 5)) rfl rfl fun hw => ?_
  set_option smartUnfolding false in conv => whnf
  refine acall_det (ps := [R1 false a]) hC ?_
  set_option smartUnfolding false in conv => whnf
  refine acall_det (ps := [R1 false d]) hC0 ?_
  set_option smartUnfolding false in conv => whnf
  refine acall_det (ps := [L1 a, L1 1]) hM ?_
  set_option smartUnfolding false in conv => whnf
  refine acall_det (ps := [L1 1, L1 d]) hM1 ?_
  set_option smartUnfolding false in conv => whnf
  refine acall_det (ps := [.bool false, L1 a, L1 d]) hD ?_
  set_option smartUnfolding false in conv => whnf
  exact rdP (.refl _)
theorem rd_row3 {S : Nat → Prop} {H : Heap} {id t : Nat} {a b c a' b' c' : Int} (hs : S id) (hk : hget H id = .row t 1 [.pv (uP a), .pv (uP b), .pv (uP c)]) (ea : a = a') (eb : b = b') (ec : c = c') : Rd S H (.row id 3) (.lst 1 [uP a', uP b', uP c']) := by
  subst ea eb ec
  exact rd_row (ps := [uP a, uP b, uP c]) hs hk rfl
theorem from1_det {a : Int} (h : 0 < a) (h2 : a < 1000000000) : Det Tryz.prog 66 [.int .i64 a] (R1 false a) := by
  have hN := norm3_det h h2
  have hM := made1_det false h h2
  have e0 : IntKind.wrap .u64 a = a := wrapU64 (by omega) (by omega)
  have e1 : IntKind.wrap .u32 ((IntKind.wrap .u64 a).tmod 1000000000) = a := by rw [e0, Int.tmod_eq_of_lt (by omega) (by omega), wrapU32 (by omega) (by omega)]
  have ez : (IntKind.wrap .u64 a).tdiv 1000000000 = 0 := by rw [e0, Int.tdiv_eq_zero_of_lt (by omega) (by omega)]
  refine det_of_vcc (E := S.E 0) rfl fol Tryz.func66 rfl rfl (cell := (2, 50)) rfl rfl fun hw => ?_
  set_option smartUnfolding false in conv => whnf
  refine br_intro (fun g => ?_) (fun g => ?_) <;> set_option smartUnfolding false in conv => whnf
  · have g := dT g; omega
  have hg := dF g
  iterate 5
    refine ⟨of_decide_eq_true (by kernel_rfl), ?_⟩
    set_option smartUnfolding false in conv => whnf
  refine acall_intro (adet_eat (S := [1]) hN (.cons (rd_row3 (.head _) (Eq.refl _) e1 ?_ ?_) .nil)) ?_
  · rw [ez]; rfl
  · rw [ez]; rfl
  set_option smartUnfolding false in conv => whnf
  refine acall_intro (adet_eat (S := [2]) hM (.cons (rdB (decide_eq_false hg)) (.cons (.pv _) (.cons (rd_row (t := 78) (ps := [uP 1]) (.head _) (by kernel_rfl) rfl) .nil)))) ?_
  set_option smartUnfolding false in conv => whnf
  exact rdP (.refl _)
theorem from0_det : Det Tryz.prog 66 [.int .i64 0] R0 := by
  have hN := norm30_det
  have hM := made0_det false [uP 1]
  refine det_of_vcc (E := S.E 0) rfl fol Tryz.func66 rfl rfl (cell := (2, 50)) rfl rfl fun hw => ?_
  set_option smartUnfolding false in conv => whnf
  iterate 5
    refine ⟨of_decide_eq_true (by kernel_rfl), ?_⟩
    set_option smartUnfolding false in conv => whnf
  refine acall_intro (adet_eat (S := [1]) hN (.cons (rd_row3 (.head _) (Eq.refl _) ?_ ?_ ?_) .nil)) ?_
  · kernel_rfl
  · kernel_rfl
  · kernel_rfl
  set_option smartUnfolding false in conv => whnf
  refine acall_intro (adet_eat (S := [2]) hM (.cons (.pv _) (.cons (.pv _) (.cons (rd_row (t := 78) (ps := [uP 1]) (.head _) (by kernel_rfl) rfl) .nil)))) ?_
  set_option smartUnfolding false in conv => whnf
  exact rdP (.refl _)
/-! ### C(3, 2) -/
theorem choose32_det : Det Tryz.prog 96 [.int .i64 3, .int .i64 2] (R1 false 3) := by
  have f0 := from0_det
  have f1 := from1_det (a := 1) (by omega) (by omega)
  have f2 := from1_det (a := 2) (by omega) (by omega)
  have f3 := from1_det (a := 3) (by omega) (by omega)
  have s0 := subA_det (a := 3) (by omega) (by omega)
  have s1 := subB_det (a := 3) (b := 1) (by omega) (by omega) (by omega)
  have m0 := mulR_det (a := 1) (b := 3) (c := 3) (by omega) (by omega) (by omega) (by omega) (by omega) (by omega) (by omega)
  have m1 := mulR_det (a := 3) (b := 2) (c := 6) (by omega) (by omega) (by omega) (by omega) (by omega) (by omega) (by omega)
  have d0 := divR_det (qd_one (a := 3) (by omega) (by omega))
  have d1 := divR_det (a := 6) (q := 3) (d := 2) ⟨by decide, by decide, by omega, by omega, by omega, by omega, by omega⟩
  refine det_of_vcc (E := S.E 0) rfl fol Tryz.func96 rfl rfl (cell := (4, 50)) rfl rfl fun hw => ?_
  set_option smartUnfolding false in conv => whnf
  refine acall_det (ps := [.int .i64 1]) f1 ?_
  set_option smartUnfolding false in conv => whnf
  refine vloop_intro (σ := Fin 3) (fun _ => True) (fun x => [(0, .pv (.int .i64 3)), (4, .bp 0 0), (5, .bp 1 0), (8, .pv (.int .i64 2)), (9, .pv (.int .i64 x.val))]) (fun x => [.box 50 [.pv (.bool false), .pv .nils, .pv .nils], .box 50 [.pv (.bool false), .pv (L1 (match x.val with | 0 => 1 | _ => 3)), .pv (L1 1)]]) (fun x => 3 - x.val) 0 trivial (weak_ren [0, 1] 2 (by kernel_rfl) (blk (by kernel_rfl) (blk (by kernel_rfl) trivial)) ⟨(by kernel_rfl), (by kernel_rfl), (by kernel_rfl), (by kernel_rfl), (by kernel_rfl), trivial⟩) ?_
  rintro x _
  match x with
  | 0 =>
    set_option smartUnfolding false in conv => whnf
    refine acall_det (ps := [.int .i64 3]) f3 ?_
    set_option smartUnfolding false in conv => whnf
    refine acall_det (ps := [.int .i64 0]) f0 ?_
    set_option smartUnfolding false in conv => whnf
    refine acall_det (ps := [R1 false 3, R0]) s0 ?_
    set_option smartUnfolding false in conv => whnf
    refine acall_det (ps := [R1 false 1, R1 false 3]) m0 ?_
    set_option smartUnfolding false in conv => whnf
    refine acall_det (ps := [.int .i64 1]) f1 ?_
    set_option smartUnfolding false in conv => whnf
    refine acall_det (ps := [R1 false 3, R1 false 1]) d0 ?_
    set_option smartUnfolding false in conv => whnf
    exact ⟨1, trivial, weak_ren [0, 1] 2 (by kernel_rfl) (blk (by kernel_rfl) (blk (by kernel_rfl) trivial)) ⟨(by kernel_rfl), (by kernel_rfl), (by kernel_rfl), (by kernel_rfl), (by kernel_rfl), trivial⟩, by decide⟩
  | 1 =>
    set_option smartUnfolding false in conv => whnf
    refine acall_det (ps := [.int .i64 3]) f3 ?_
    set_option smartUnfolding false in conv => whnf
    refine acall_det (ps := [.int .i64 1]) f1 ?_
    set_option smartUnfolding false in conv => whnf
    refine acall_det (ps := [R1 false 3, R1 false 1]) s1 ?_
    set_option smartUnfolding false in conv => whnf
    refine acall_det (ps := [R1 false 3, R1 false 2]) m1 ?_
    set_option smartUnfolding false in conv => whnf
    refine acall_det (ps := [.int .i64 2]) f2 ?_
    set_option smartUnfolding false in conv => whnf
    refine acall_det (ps := [R1 false 6, R1 false 2]) d1 ?_
    set_option smartUnfolding false in conv => whnf
    exact ⟨2, trivial, weak_ren [0, 1] 2 (by kernel_rfl) (blk (by kernel_rfl) (blk (by kernel_rfl) trivial)) ⟨(by kernel_rfl), (by kernel_rfl), (by kernel_rfl), (by kernel_rfl), (by kernel_rfl), trivial⟩, by decide⟩
  | 2 =>
    set_option smartUnfolding false in conv => whnf
    exact rdP (.refl _)
theorem chooseT_det : Det Tryz.prog 64 [.int .i64 3, .int .i64 2] (.tuple [R1 false 3, .bool true]) := by
  have h := choose32_det
  refine det_of_vct (E := S.E 0) rfl fol Tryz.func64 rfl rfl (cell := (4, 50, 5)) rfl rfl fun hw => ?_
  set_option smartUnfolding false in conv => whnf
  refine acall_det (ps := [.int .i64 3, .int .i64 2]) h ?_
  set_option smartUnfolding false in conv => whnf
  exact rdP (.refl _)
end Go.AM

set_option linter.all false
set_option maxRecDepth 20000
set_option maxHeartbeats 4000000
namespace Go.AM
open Go.Proofs

/-! ### The reference's numbers of one limb -/
theorem cutR_det {a : Int} (h : 0 < a) : Det Tryz.prog 103 [L1 a] (L1 a) := by
  refine det_of_vc' (E := S.E 0) rfl fol Tryz.func103 rfl rfl (slots := [2]) rfl rfl fun hw => ?_
  set_option smartUnfolding false in conv => whnf
  refine vloop_intro (σ := Unit) (fun _ => True) (fun _ => [(0, .pv (L1 a)), (3, .pv (.int .i64 1))]) (fun _ => []) (fun _ => 0) () trivial (weak_bare rfl ⟨(by kernel_rfl), (by kernel_rfl), trivial⟩) ?_
  rintro x _
  set_option smartUnfolding false in conv => whnf
  refine ⟨uP a, ⟨of_decide_eq_true (by kernel_rfl), rfl⟩, ?_⟩
  set_option smartUnfolding false in conv => whnf
  refine br_intro (fun g => ?_) (fun g => ?_) <;> set_option smartUnfolding false in conv => whnf
  · have g := dT g; omega
  refine ⟨of_decide_eq_true (by kernel_rfl), ?_⟩
  set_option smartUnfolding false in conv => whnf
  refine ⟨⟨of_decide_eq_true (by kernel_rfl), of_decide_eq_true (by kernel_rfl)⟩, ?_⟩
  set_option smartUnfolding false in conv => whnf
  exact rd_row (t := 78) (ps := [uP a]) trivial (by kernel_rfl) rfl
theorem limbs0_det : Det Tryz.prog 39 [.int .u64 0] L0 := by
  refine det_of_vc' (E := S.E 0) rfl fol Tryz.func39 rfl rfl (slots := [2]) rfl rfl fun hw => ?_
  set_option smartUnfolding false in conv => whnf
  refine vloop_intro (σ := Unit) (fun _ => True) (fun _ => [(0, .pv (.int .u64 0)), (3, .pv .nils)]) (fun _ => []) (fun _ => 0) () trivial (weak_bare rfl ⟨(by kernel_rfl), (by kernel_rfl), trivial⟩) ?_
  rintro x _
  set_option smartUnfolding false in conv => whnf
  exact .le (.nils 1)
theorem limbs3_det : Det Tryz.prog 39 [.int .u64 3] (L1 3) := by
  refine det_of_vc' (E := S.E 0) rfl fol Tryz.func39 rfl rfl (slots := [2]) rfl rfl fun hw => ?_
  set_option smartUnfolding false in conv => whnf
  refine vloop_intro (σ := Bool) (fun _ => True) (fun x => [(0, .pv (.int .u64 (cond x 0 3))), (3, lsV 0 (cond x [uP 3] []))]) (fun x => [lsB 78 1 (cond x [uP 3] [])]) (fun b => cond b 0 1) false trivial (weak_ren [0] 1 (by kernel_rfl) (blkD trivial) ⟨(by kernel_rfl), (by kernel_rfl), trivial⟩) ?_
  rintro x _
  cases x with
  | true =>
    set_option smartUnfolding false in conv => whnf
    exact rd_row (t := 78) (ps := [uP 3]) trivial (by kernel_rfl) rfl
  | false =>
    set_option smartUnfolding false in conv => whnf
    refine ⟨of_decide_eq_true (by kernel_rfl), ?_⟩
    set_option smartUnfolding false in conv => whnf
    refine ⟨Nat.le_refl 1, ?_⟩
    set_option smartUnfolding false in conv => whnf
    refine ⟨⟨of_decide_eq_true (by kernel_rfl), of_decide_eq_true (by kernel_rfl)⟩, ?_⟩
    set_option smartUnfolding false in conv => whnf
    refine ⟨of_decide_eq_true (by kernel_rfl), ?_⟩
    set_option smartUnfolding false in conv => whnf
    exact ⟨true, trivial, weak_ren [2] 3 (by kernel_rfl) (blk (by kernel_rfl) trivial) ⟨(by kernel_rfl), (by kernel_rfl), trivial⟩, Nat.lt_succ_self 0⟩
theorem nat1_det {a : Int} (h : 0 < a) (h2 : a < 1000000000) : Det Tryz.prog 67 [L1 a] (L1 a) := by
  have hC := cutR_det h
  have e1 : IntKind.wrap .u64 (0 + IntKind.wrap .u64 a) = a := by rw [Int.zero_add, wrapU64 (n := a) (by omega) (by omega), wrapU64 (by omega) (by omega)]
  have e2 : IntKind.wrap .u32 ((IntKind.wrap .u64 (0 + IntKind.wrap .u64 a)).tmod 1000000000) = a := by rw [e1, Int.tmod_eq_of_lt (by omega) (by omega), wrapU32 (by omega) (by omega)]
  have e3 : IntKind.wrap .u64 ((IntKind.wrap .u64 (0 + IntKind.wrap .u64 a)).tdiv 1000000000) = 0 := by rw [e1, Int.tdiv_eq_zero_of_lt (by omega) (by omega)]; rfl
  refine det_of_vc' (E := S.E 0) rfl fol Tryz.func67 rfl rfl (slots := [2]) rfl rfl fun hw => ?_
  set_option smartUnfolding false in conv => whnf
  refine vloop_intro (σ := Bool) (fun _ => True) (fun x => [(0, .pv (L1 a)), (3, lsV 0 (cond x [uP a] [])), (4, .pv (.int .u64 0)), (5, .pv (.int .i64 (cond x 1 0)))]) (fun x => [lsB 78 1 (cond x [uP a] [])]) (fun b => cond b 0 1) false trivial (weak_ren [0] 1 (by kernel_rfl) (blkD trivial) ⟨(by kernel_rfl), (by kernel_rfl), (by kernel_rfl), (by kernel_rfl), trivial⟩) ?_
  rintro x _
  cases x with
  | true =>
    set_option smartUnfolding false in conv => whnf
    refine acall_intro (adet_eat (S := [0]) hC (.cons (rd_row (t := 78) (ps := [uP a]) (.head _) (by kernel_rfl) rfl) .nil)) ?_
    set_option smartUnfolding false in conv => whnf
    exact rdP (.refl _)
  | false =>
    set_option smartUnfolding false in conv => whnf
    refine ⟨uP a, ⟨of_decide_eq_true (by kernel_rfl), rfl⟩, ?_⟩
    set_option smartUnfolding false in conv => whnf
    refine ⟨of_decide_eq_true (by kernel_rfl), ?_⟩
    set_option smartUnfolding false in conv => whnf
    refine ⟨Nat.le_refl 1, ?_⟩
    set_option smartUnfolding false in conv => whnf
    refine ⟨⟨of_decide_eq_true (by kernel_rfl), of_decide_eq_true (by kernel_rfl)⟩, ?_⟩
    set_option smartUnfolding false in conv => whnf
    refine ⟨of_decide_eq_true (by kernel_rfl), ?_⟩
    set_option smartUnfolding false in conv => whnf
    exact ⟨true, trivial, weak_ren [2] 3 (by kernel_rfl) (blkU1 (Eq.refl _) e2 trivial) ⟨(by kernel_rfl), (by kernel_rfl), sI e3, (by kernel_rfl), trivial⟩, Nat.lt_succ_self 0⟩
theorem ncmp_det {a : Int} (h : 1 ≤ a) : Det Tryz.prog 104 [L1 a, L1 1] (.int .i64 (if 1 < a then 1 else 0)) := by
  generalize hR : (if 1 < a then (1 : Int) else 0) = R
  refine det_of_vc' (E := S.E 0) rfl fol Tryz.func104 rfl rfl (slots := [4]) rfl rfl fun hw => ?_
  set_option smartUnfolding false in conv => whnf
  refine vloop_intro (σ := Bool) (fun x => x = true → ¬ 1 < a) (fun x => [(0, .pv (L1 a)), (1, .pv (L1 1)), (5, .pv (.int .i64 (cond x (-1) 0)))]) (fun b => []) (fun b => cond b 0 1) false (by simp) (weak_bare rfl ⟨(by kernel_rfl), (by kernel_rfl), (by kernel_rfl), trivial⟩) ?_
  rintro x hx
  cases x with
  | true =>
    set_option smartUnfolding false in conv => whnf
    exact rdI (by rw [← hR, if_neg (hx rfl)])
  | false =>
    set_option smartUnfolding false in conv => whnf
    refine ⟨uP a, ⟨of_decide_eq_true (by kernel_rfl), rfl⟩, ?_⟩
    set_option smartUnfolding false in conv => whnf
    refine ⟨uP 1, ⟨of_decide_eq_true (by kernel_rfl), rfl⟩, ?_⟩
    set_option smartUnfolding false in conv => whnf
    refine br_intro (fun g => ?_) (fun g => ?_) <;> set_option smartUnfolding false in conv => whnf
    · have g := dT g; omega
    refine ⟨uP a, ⟨of_decide_eq_true (by kernel_rfl), rfl⟩, ?_⟩
    set_option smartUnfolding false in conv => whnf
    refine ⟨uP 1, ⟨of_decide_eq_true (by kernel_rfl), rfl⟩, ?_⟩
    set_option smartUnfolding false in conv => whnf
    refine br_intro (fun g2 => ?_) (fun g2 => ?_) <;> set_option smartUnfolding false in conv => whnf
    · have g2 := dT g2
      exact rdI (by rw [← hR, if_pos g2])
    · have g2 := dF g2
      exact ⟨true, fun _ => g2, weak_bare rfl ⟨(by kernel_rfl), (by kernel_rfl), (by kernel_rfl), trivial⟩, Nat.lt_succ_self 0⟩
theorem nsmall_det {a : Int} (h : 1 ≤ a) (h2 : a < 1000000000) : Det Tryz.prog 105 [L1 a, .int .u64 1] (.tuple [L1 a, .int .u64 0]) := by
  have hC := cutR_det (a := a) (by omega)
  have e1 : IntKind.wrap .u64 (IntKind.wrap .u64 (0 * 1000000000) + IntKind.wrap .u64 a) = a := by rw [show IntKind.wrap .u64 (0 * 1000000000) = 0 from rfl, wrapU64 (n := a) (by omega) (by omega), Int.zero_add, wrapU64 (by omega) (by omega)]
  have e2 : IntKind.wrap .u32 (IntKind.wrap .u64 ((IntKind.wrap .u64 (IntKind.wrap .u64 (0 * 1000000000) + IntKind.wrap .u64 a)).tdiv 1)) = a := by rw [e1, Int.tdiv_one, wrapU64 (by omega) (by omega), wrapU32 (by omega) (by omega)]
  have e3 : (IntKind.wrap .u64 (IntKind.wrap .u64 (0 * 1000000000) + IntKind.wrap .u64 a)).tmod 1 = 0 := by rw [e1, Int.tmod_one]
  refine det_of_vc' (E := S.E 0) rfl fol Tryz.func105 rfl rfl (slots := [4, 5]) rfl rfl fun hw => ?_
  set_option smartUnfolding false in conv => whnf
  refine ⟨of_decide_eq_true (by kernel_rfl), ?_⟩
  set_option smartUnfolding false in conv => whnf
  refine vloop_intro (σ := Bool) (fun _ => True) (fun x => [(0, .pv (L1 a)), (1, .pv (.int .u64 1)), (6, .row 0 1), (7, .pv (.int .u64 0)), (8, .pv (.int .i64 (cond x (-1) 0)))]) (fun x => [.row 78 1 [.pv (uP (cond x a 0))]]) (fun b => cond b 0 1) false trivial (weak_ren [0] 1 (by kernel_rfl) (blk (by kernel_rfl) trivial) ⟨(by kernel_rfl), (by kernel_rfl), (by kernel_rfl), (by kernel_rfl), (by kernel_rfl), trivial⟩) ?_
  rintro x _
  cases x with
  | true =>
    set_option smartUnfolding false in conv => whnf
    refine acall_intro (adet_eat (S := [0]) hC (.cons (rd_row (t := 78) (ps := [uP a]) (.head _) (by kernel_rfl) rfl) .nil)) ?_
    set_option smartUnfolding false in conv => whnf
    exact rdP (.refl _)
  | false =>
    set_option smartUnfolding false in conv => whnf
    refine ⟨uP a, ⟨of_decide_eq_true (by kernel_rfl), rfl⟩, ?_⟩
    set_option smartUnfolding false in conv => whnf
    refine ⟨of_decide_eq_true (by kernel_rfl), ?_⟩
    set_option smartUnfolding false in conv => whnf
    refine ⟨of_decide_eq_true (by kernel_rfl), ?_⟩
    set_option smartUnfolding false in conv => whnf
    refine ⟨.pv (uP 0), rfl, rfl, ?_⟩
    set_option smartUnfolding false in conv => whnf
    refine ⟨of_decide_eq_true (by kernel_rfl), ?_⟩
    set_option smartUnfolding false in conv => whnf
    exact ⟨true, trivial, weak_ren [0] 1 (by kernel_rfl) (blkU1 (Eq.refl _) e2 trivial) ⟨(by kernel_rfl), (by kernel_rfl), (by kernel_rfl), sI e3, (by kernel_rfl), trivial⟩, Nat.lt_succ_self 0⟩
theorem ndiv_det {a : Int} (h : 1 ≤ a) (h2 : a < 1000000000) : Det Tryz.prog 69 [L1 a, L1 1] (.tuple [L1 a, L0]) := by
  have hC := ncmp_det h
  have hS := nsmall_det h h2
  have hL := limbs0_det
  refine det_of_vc' (E := S.E 0) rfl fol Tryz.func69 rfl rfl (slots := [4, 5]) rfl rfl fun hw => ?_
  set_option smartUnfolding false in conv => whnf
  refine acall_det (ps := [L1 a, L1 1]) hC ?_
  set_option smartUnfolding false in conv => whnf
  refine br_intro (fun g => ?_) (fun g => ?_) <;> set_option smartUnfolding false in conv => whnf
  · have g := dT g
    split at g <;> omega
  refine ⟨uP 1, ⟨of_decide_eq_true (by kernel_rfl), rfl⟩, ?_⟩
  set_option smartUnfolding false in conv => whnf
  refine acall_det (ps := [L1 a, .int .u64 1]) hS ?_
  set_option smartUnfolding false in conv => whnf
  refine acall_det (ps := [.int .u64 0]) hL ?_
  set_option smartUnfolding false in conv => whnf
  exact rdP (.refl _)
theorem ngcd_det {a : Int} (h : 1 ≤ a) (h2 : a < 1000000000) : Det Tryz.prog 68 [L1 a, L1 1] (L1 1) := by
  have hD := ndiv_det h h2
  refine det_of_vc' (E := S.E 0) rfl fol Tryz.func68 rfl rfl (slots := [4]) rfl rfl fun hw => ?_
  set_option smartUnfolding false in conv => whnf
  refine vloop_intro (σ := Bool) (fun _ => True) (fun b => [(0, .pv (L1 (cond b 1 a))), (1, .pv (.lst 1 (cond b [] [uP 1])))]) (fun b => []) (fun b => cond b 0 1) false trivial (weak_bare rfl ⟨(by kernel_rfl), (by kernel_rfl), trivial⟩) ?_
  rintro x _
  cases x with
  | true =>
    set_option smartUnfolding false in conv => whnf
    exact rdP (.refl _)
  | false =>
    set_option smartUnfolding false in conv => whnf
    refine acall_det (ps := [L1 a, L1 1]) hD ?_
    set_option smartUnfolding false in conv => whnf
    exact ⟨true, trivial, weak_bare rfl ⟨(by kernel_rfl), (by kernel_rfl), trivial⟩, Nat.lt_succ_self 0⟩
theorem build3_det : Det Tryz.prog 38 [.bool false, L1 3, L1 1] (R1 false 3) := by
  have hN := nat1_det (a := 3) (by omega) (by omega)
  have hN1 := nat1_det (a := 1) (by omega) (by omega)
  have hG := ngcd_det (a := 3) (by omega) (by omega)
  refine det_of_vcc (E := S.E 0) rfl fol Tryz.func38 rfl rfl (cell := (6, 50)) rfl rfl fun hw => ?_
  set_option smartUnfolding false in conv => whnf
  refine acall_det (ps := [L1 3]) hN ?_
  set_option smartUnfolding false in conv => whnf
  refine acall_det (ps := [L1 1]) hN1 ?_
  set_option smartUnfolding false in conv => whnf
  refine acall_det (ps := [L1 3, L1 1]) hG ?_
  set_option smartUnfolding false in conv => whnf
  refine ⟨uP 1, ⟨of_decide_eq_true (by kernel_rfl), rfl⟩, ?_⟩
  set_option smartUnfolding false in conv => whnf
  exact rdP (.refl _)
theorem rfrom3_det : Det Tryz.prog 21 [.int .i64 3] (R1 false 3) := by
  have hL := limbs3_det
  have hB := build3_det
  refine det_of_vcc (E := S.E 0) rfl fol Tryz.func21 rfl rfl (cell := (2, 50)) rfl rfl fun hw => ?_
  set_option smartUnfolding false in conv => whnf
  refine acall_det (ps := [.int .u64 3]) hL ?_
  set_option smartUnfolding false in conv => whnf
  refine acall_intro (adet_eat (S := [1]) hB (.cons (.pv _) (.cons (.pv _) (.cons (rd_row (t := 78) (ps := [uP 1]) (.head _) (by kernel_rfl) rfl) .nil)))) ?_
  set_option smartUnfolding false in conv => whnf
  exact rdP (.refl _)
theorem limbsEq_det (a : Int) : Det Tryz.prog 37 [L1 a, L1 a] (.bool true) := by
  refine det_of_vc' (E := S.E 0) rfl fol Tryz.func37 rfl rfl (slots := [4]) rfl rfl fun hw => ?_
  set_option smartUnfolding false in conv => whnf
  refine vloop_intro (σ := Bool) (fun _ => True) (fun b => [(0, .pv (L1 a)), (1, .pv (L1 a)), (12, .pv (.int .i64 1)), (13, .pv (.int .i64 (cond b 1 0)))]) (fun b => []) (fun b => cond b 0 1) false trivial (weak_bare rfl ⟨(by kernel_rfl), (by kernel_rfl), (by kernel_rfl), (by kernel_rfl), trivial⟩) ?_
  rintro x _
  cases x with
  | true =>
    set_option smartUnfolding false in conv => whnf
    exact rdP (.refl _)
  | false =>
    set_option smartUnfolding false in conv => whnf
    refine ⟨uP a, ⟨of_decide_eq_true (by kernel_rfl), rfl⟩, ?_⟩
    set_option smartUnfolding false in conv => whnf
    refine ⟨uP a, ⟨of_decide_eq_true (by kernel_rfl), rfl⟩, ?_⟩
    set_option smartUnfolding false in conv => whnf
    refine br_intro (fun g => ?_) (fun g => ?_) <;> set_option smartUnfolding false in conv => whnf
    · simp at g
    · exact ⟨true, trivial, weak_bare rfl ⟨(by kernel_rfl), (by kernel_rfl), (by kernel_rfl), (by kernel_rfl), trivial⟩, Nat.lt_succ_self 0⟩
theorem same3_det : Det Tryz.prog 20 [R1 false 3, R1 false 3] (.bool true) := by
  have h3 := limbsEq_det 3
  have h1 := limbsEq_det 1
  refine det_of_vc' (E := S.E 0) rfl fol Tryz.func20 rfl rfl (slots := [4]) rfl rfl fun hw => ?_
  set_option smartUnfolding false in conv => whnf
  refine acall_det (ps := [L1 3, L1 3]) h3 ?_
  set_option smartUnfolding false in conv => whnf
  refine acall_det (ps := [L1 1, L1 1]) h1 ?_
  set_option smartUnfolding false in conv => whnf
  exact rdP (.refl _)
end Go.AM

set_option linter.all false
set_option maxRecDepth 20000
set_option maxHeartbeats 4000000
namespace Go.AM
open Go.Proofs

theorem iknown_det {D : List Dt} (hD : DOK D) (hN : DN D) (t : V) : Det Tryz.prog 92 [.lst 3 (Dt.pvL D), t.pv] (.bool (known D t)) := by
  have h1 := coreValid_det hD hN
  have h2 := tValid_det D 0 t
  unfold coreP at h1
  obtain ⟨k, n, ts⟩ := t
  rw [V.pv_mk] at h2 ⊢
  unfold known
  refine det_of_vc' (E := S.E 0) rfl fol Tryz.func92 rfl rfl (slots := [4]) rfl rfl fun hw => ?_
  set_option smartUnfolding false in conv => whnf
  refine acall_det (ps := [.agg [.lst 3 (Dt.pvL D), .nils, .nils, .nils]]) h1 ?_
  set_option smartUnfolding false in conv => whnf
  refine br_intro (fun g => ?_) (fun g => ?_) <;> set_option smartUnfolding false in conv => whnf
  · refine acall_det (ps := [.lst 3 (Dt.pvL D), V.ag k n ts, .int .i64 0]) h2 ?_
    set_option smartUnfolding false in conv => whnf
    exact rdB (by rw [g]; rfl)
  · exact rdB (by rw [g]; rfl)
end Go.AM

set_option linter.all false
set_option maxRecDepth 20000
set_option maxHeartbeats 4000000
namespace Go.AM
open Go.Proofs

/-! ### The sanity check of layer 16 -/
def t16 : V := .mk 7 0 [.mk 1 0 []]
def one16 : V := .mk 3 1 []
def v16 : V := .mk 6 0 [one16, one16, one16]
theorem nil16_ok : DOK [] ∧ DN [] := by
  refine ⟨⟨by decide, ?_, ?_, ?_⟩, ⟨?_, ?_⟩⟩ <;> (intro d hd; cases hd)
theorem nil16_valid : dvalid [] = true := by
  unfold dvalid
  have h1 : ndup (namesOf []) = true := ndup_iff.2 (by simp [namesOf])
  have h2 : ndup (cnamesOf []) = true := ndup_iff.2 (by simp [cnamesOf])
  rw [h1, h2, decsR_nil]; rfl
theorem t16_known : known [] t16 = true := by
  unfold known V.okW t16
  rw [nil16_valid, V.cnt_mk, V.cntL_cons, V.cntL_nil, V.cnt_mk, V.cntL_nil]
  have : V.okT [] 0 (.mk 7 0 [.mk 1 0 []]) = true := by
    rw [V.okT_mk]
    have e1 : V.shape [] 0 7 0 = some (true, 1, 1) := by unfold V.shape; rfl
    rw [e1]
    have e2 : V.okTL [] 0 [.mk 1 0 []] = true := by
      rw [V.okTL_cons, V.okTL_nil, V.okT_mk]
      have : V.shape [] 0 1 0 = some (true, 0, 0) := by unfold V.shape; rfl
      rw [this]
      simp [V.okTL_nil]
    simp [e2]
  rw [this]; rfl
theorem v16_has : hasS [] v16 t16 = true := by
  unfold hasS
  rw [t16_known]
  have h1 : v16.cnt = 4 := by unfold v16 one16; rw [V.cnt_mk, V.cntL_cons, V.cntL_cons, V.cntL_cons, V.cntL_nil, V.cnt_mk, V.cntL_nil]
  have h2 : V.has [] one16 (.mk 1 0 []) = true := by unfold one16; rw [V.has_t1]; rfl
  have h3 : V.has [] v16 t16 = true := by unfold v16 t16; rw [V.has_t7, V.hasA_cons, V.hasA_cons, V.hasA_cons, V.hasA_nil, h2]; rfl
  rw [h1, h3]; rfl
abbrev t16P : PV := .agg [.int .i64 7, .int .i64 0, .lst 3 [.agg [.int .i64 1, .int .i64 0, .lst 3 []]]]
abbrev one16P : PV := .agg [.int .i64 3, .int .i64 1, .lst 3 []]
abbrev v16P : PV := .agg [.int .i64 6, .int .i64 0, .lst 3 [one16P, one16P, one16P]]
abbrev i16P : PV := .agg [.int .i64 2, .lst 2 []]
theorem t16_pv : t16.pv = t16P := by unfold t16; rw [V.pv_mk]; simp only [V.ag, V.pvL_cons, V.pvL_nil, V.pv_mk]
theorem v16_pv : v16.pv = v16P := by unfold v16 one16; rw [V.pv_mk]; simp only [V.ag, V.pvL_cons, V.pvL_nil, V.pv_mk]
theorem nil16_pv : Dt.pvL [] = [] := by unfold Dt.pvL; rfl
theorem kn16 : Det Tryz.prog 92 [.lst 3 [], t16P] (.bool true) := by
  have h := iknown_det nil16_ok.1 nil16_ok.2 t16
  rwa [t16_known, t16_pv, nil16_pv] at h
theorem has16 : Det Tryz.prog 13 [.lst 3 [], v16P, t16P] (.bool true) := by
  have h := hasType_det nil16_ok.1 nil16_ok.2 v16 t16
  rwa [v16_has, v16_pv, t16_pv, nil16_pv] at h
theorem deg16 : Det Tryz.prog 93 [.lst 3 [], t16P, i16P] (.tuple [.int .i64 2, .bool true]) := by
  refine det_of_vc' (E := S.E 0) rfl fol Tryz.func93 rfl rfl (slots := [6, 7]) rfl rfl fun hw => ?_
  set_option smartUnfolding false in conv => whnf
  exact rdP (.refl _)
theorem Deg16 : Det Tryz.prog 62 [.lst 3 [], t16P, i16P] (.int .i64 2) := by
  have h := kn16
  have hd := deg16
  refine det_of_vc' (E := S.E 0) rfl fol Tryz.func62 rfl rfl (slots := [6]) rfl rfl fun hw => ?_
  set_option smartUnfolding false in conv => whnf
  refine acall_det (ps := [.lst 3 [], t16P]) h ?_
  set_option smartUnfolding false in conv => whnf
  refine acall_det (ps := [.lst 3 [], t16P, i16P]) hd ?_
  set_option smartUnfolding false in conv => whnf
  exact rdP (.refl _)
theorem val16 : Det Tryz.prog 35 [.lst 3 [], t16P, i16P] (.bool true) := by
  have hd := Deg16
  refine det_of_vc' (E := S.E 0) rfl fol Tryz.func35 rfl rfl (slots := [6]) rfl rfl fun hw => ?_
  set_option smartUnfolding false in conv => whnf
  refine acall_det (ps := [.lst 3 [], t16P, i16P]) hd ?_
  set_option smartUnfolding false in conv => whnf
  exact rdP (.refl _)
theorem at16 : Det Tryz.prog 36 [.lst 3 [], t16P, i16P, v16P] (R1 false 3) := by
  have h := chooseT_det
  refine det_of_vcc (E := S.E 0) rfl fol Tryz.func36 rfl rfl (cell := (8, 50)) rfl rfl fun hw => ?_
  set_option smartUnfolding false in conv => whnf
  refine acall_det (ps := [.int .i64 3, .int .i64 2]) h ?_
  set_option smartUnfolding false in conv => whnf
  exact rdP (.refl _)
theorem At16 : Det Tryz.prog 19 [.lst 3 [], t16P, i16P, v16P] (.tuple [R1 false 3, .int .i64 0]) := by
  have h1 := val16
  have h2 := has16
  have h3 := at16
  refine det_of_vct (E := S.E 0) rfl fol Tryz.func19 rfl rfl (cell := (8, 50, 9)) rfl rfl fun hw => ?_
  set_option smartUnfolding false in conv => whnf
  refine acall_det (ps := [.lst 3 [], t16P, i16P]) h1 ?_
  set_option smartUnfolding false in conv => whnf
  refine acall_det (ps := [.lst 3 [], v16P, t16P]) h2 ?_
  set_option smartUnfolding false in conv => whnf
  refine acall_det (ps := [.lst 3 [], t16P, i16P, v16P]) h3 ?_
  set_option smartUnfolding false in conv => whnf
  exact rdP (.refl _)
theorem awake16_det : Det Tryz.prog 7 [] (.bool true) := by
  have h1 := rfrom3_det
  have h2 := same3_det
  refine det_of_vc' (E := S.E 0) rfl fol Tryz.func7 rfl rfl (slots := [0]) rfl rfl fun hw => ?_
  set_option smartUnfolding false in conv => whnf
  refine acall_intro (adet_eat (S := [0, 3]) At16 (.cons (.le (.nils 3)) (.cons (.mix (.cons (.pv _) (.cons (.pv _) (.cons (Rd.row (id := 0) (n := 1) (t := 25) (sz := 3) (xs := [.pv (.agg [.int .i64 1, .int .i64 0, .nils])]) (ps := [.agg [.int .i64 1, .int .i64 0, .lst 3 []]]) (.head _) (by kernel_rfl) (Nat.le_refl 1) (.cons (.le (.agg (.cons (.refl _) (.cons (.refl _) (.cons (.nils 3) .nil))))) .nil)) .nil))))
    (.cons (.le (.agg (.cons (.refl _) (.cons (.nils 2) .nil)))) (.cons (.mix (.cons (.pv _) (.cons (.pv _) (.cons (Rd.row (id := 3) (n := 3) (t := 28) (sz := 3) (xs := [.pv (.agg [.int .i64 3, .int .i64 1, .nils]), .pv (.agg [.int .i64 3, .int .i64 1, .nils]), .pv (.agg [.int .i64 3, .int .i64 1, .nils])]) (ps := [one16P, one16P, one16P]) (.tail _ (.head _)) (by kernel_rfl) (Nat.le_refl 3)
      (.cons (.le (.agg (.cons (.refl _) (.cons (.refl _) (.cons (.nils 3) .nil))))) (.cons (.le (.agg (.cons (.refl _) (.cons (.refl _) (.cons (.nils 3) .nil))))) (.cons (.le (.agg (.cons (.refl _) (.cons (.refl _) (.cons (.nils 3) .nil))))) .nil)))) .nil)))) .nil))))) ?_
  set_option smartUnfolding false in conv => whnf
  refine acall_det (ps := [.int .i64 3]) h1 ?_
  set_option smartUnfolding false in conv => whnf
  refine acall_det (ps := [R1 false 3, R1 false 3]) h2 ?_
  set_option smartUnfolding false in conv => whnf
  exact rdB rfl
end Go.AM

set_option linter.all false
set_option maxRecDepth 4000
namespace Go.AM
open Go.Proofs

theorem rnod_det (v : V) : Det Tryz.prog 11 [v.pv] (.int .i64 v.nod) := by
  refine V.recOn' (p := fun v => Det Tryz.prog 11 [v.pv] (.int .i64 v.nod)) (fun k n ks ih => ?_) v
  rw [V.pv_mk]
  refine det_of_vc' (E := S.E 0) rfl fol Tryz.func11 rfl rfl (slots := [2]) rfl rfl fun hw => ?_
  have hl := V.lenle hw.1
  set_option smartUnfolding false in conv => whnf
  refine vloop_intro (σ := Nat × Int) (fun x => x.1 ≤ ks.length ∧ V.nodL x.2 (ks.drop x.1) = V.nodL 1 ks) (fun x => [(3, .pv (.int .i64 x.2)), (7, .pv (.lst 3 (V.pvL ks))), (8, .pv (.int .i64 (V.pvL ks).length)), (9, .pv (.int .i64 x.1))]) (fun _ => []) (fun x => ks.length - x.1) (0, 1) (by simp) (weak_bare rfl ⟨(by kernel_rfl), (by kernel_rfl), (by kernel_rfl), (by kernel_rfl), trivial⟩) ?_
  rintro ⟨i, s⟩ ⟨hi, hs⟩
  set_option smartUnfolding false in conv => whnf
  refine br_intro (fun h => ?_) (fun h => ?_)
  · replace h : i < ks.length := by have := dT h; rw [V.pvL_len] at this; simpa using this
    obtain ⟨⟨k', n', ks'⟩, hv, hg, _, hd⟩ := V.get_pvL h
    set_option smartUnfolding false in conv => whnf
    rw [V.pv_mk] at hg
    refine ⟨V.ag k' n' ks', ⟨by simp, by simpa using hg⟩, ?_⟩
    set_option smartUnfolding false in conv => whnf
    refine acall_det (ps := [V.ag k' n' ks']) (V.pv_mk k' n' ks' ▸ ih _ hv) ?_
    set_option smartUnfolding false in conv => whnf
    refine ⟨(i + 1, IntKind.wrap .i64 (s + V.nod (.mk k' n' ks'))), ⟨h, ?_⟩, weak_bare rfl ⟨(by kernel_rfl), (by kernel_rfl), (by kernel_rfl), sI (by rw [wrapI] <;> simp <;> omega), trivial⟩, ?_⟩
    · rw [← hs, hd, V.nodL_cons]
    · show ks.length - (i + 1) < ks.length - i
      omega
  · replace h : ¬ i < ks.length := by have := dF h; rw [V.pvL_len] at this; simpa using this
    set_option smartUnfolding false in conv => whnf
    refine rdP ?_
    rw [List.drop_of_length_le (by simpa using h)] at hs
    show PV.int .i64 s = .int .i64 _
    rw [V.nod_mk]; rw [← hs, V.nodL_nil]

end Go.AM

set_option linter.all false
set_option maxRecDepth 4000
namespace Go.AM
open Go.Proofs


theorem val_hdet (v : V) : ∀ n, HDet Tryz.prog 23 [.pv v.pv, .bp 0 0] (cnt n) (.pv (.bool (v.val n).1)) (cnt (v.val n).2) := by
  refine V.recOn' (p := fun v => ∀ n, HDet Tryz.prog 23 [.pv v.pv, .bp 0 0] (cnt n) (.pv (.bool (v.val n).1)) (cnt (v.val n).2)) (fun k m ks ih n => ?_) v
  rw [V.pv_mk]
  refine hdet_of_vc' (E := S.E 1) fol Tryz.func23 rfl rfl (slots := [4]) rfl rfl ?_ ?_ ?_ fun hw => ?_
  · exact Nat.le_refl 1
  · exact ⟨trivial, rfl, trivial⟩
  · exact pureH_get (H := cnt n) ⟨fun S => ⟨trivial, trivial⟩, trivial⟩ _
  have hl := V.lenle hw.1
  set_option smartUnfolding false in conv => whnf
  refine br_intro (fun h => ?_) (fun h => ?_) <;> set_option smartUnfolding false in conv => whnf
  · replace h := dT h
    have e : (V.mk k m ks).val n = (false, IntKind.wrap .i64 (n - 1)) := by rw [V.val_mk]; exact if_pos h
    rw [e]
    exact weak_ren [0] 2 (by kernel_rfl) (blk (by kernel_rfl) trivial) ⟨(by kernel_rfl), trivial⟩
  · replace h := dF h
    have e : (V.mk k m ks).val n = V.valL ks (IntKind.wrap .i64 (n - 1)) := by rw [V.val_mk]; exact if_neg h
    rw [e]
    refine vloop_intro (σ := Nat × Int) (fun x => x.1 ≤ ks.length ∧ V.valL (ks.drop x.1) x.2 = V.valL ks (IntKind.wrap .i64 (n - 1))) (fun x => [(1, .bp 0 0), (2, .bp 1 0), (5, .pv (.int .i64 x.1))])
      (fun x => [.box 3 [.pv (.int .i64 x.2)], .box 28 [.pv (.int .i64 k), .pv (.int .i64 m), .pv (.lst 3 (V.pvL ks))]]) (fun x => ks.length - x.1) (0, IntKind.wrap .i64 (n - 1)) (by simp) (weak_sub ⟨(by kernel_rfl), (by kernel_rfl), (by kernel_rfl), trivial⟩) ?_
    rintro ⟨i, s⟩ ⟨hi, hs⟩
    set_option smartUnfolding false in conv => whnf
    refine br_intro (fun h => ?_) (fun h => ?_)
    · replace h : i < ks.length := by have := dT h; rw [V.pvL_len] at this; simpa using this
      obtain ⟨⟨k', n', ks'⟩, hv, hg, _, hd⟩ := V.get_pvL h
      set_option smartUnfolding false in conv => whnf
      rw [V.pv_mk] at hg
      refine ⟨V.ag k' n' ks', ⟨by simp, by simpa using hg⟩, ?_⟩
      set_option smartUnfolding false in conv => whnf
      have hih := ih _ hv s
      rw [V.pv_mk] at hih
      refine acall_hdet hih [0] 2 rfl rfl ⟨rfl, trivial⟩ ?_
      set_option smartUnfolding false in conv => whnf
      rw [hd] at hs
      rw [V.valL_cons] at hs
      refine br_intro (fun h' => ?_) (fun h' => ?_) <;> set_option smartUnfolding false in conv => whnf
      · replace h' : ((V.mk k' n' ks').val s).1 = false := by simpa using h'
        cases hx : (V.mk k' n' ks').val s with
        | mk b n2 =>
          rw [hx] at hs h'
          simp only at h'
          subst h'
          simp only at hs
          rw [← hs]
          exact weak_ren [0] 2 (by kernel_rfl) (blk (by kernel_rfl) trivial) ⟨(by kernel_rfl), trivial⟩
      · replace h' : ((V.mk k' n' ks').val s).1 = true := by simpa using h'
        cases hx : (V.mk k' n' ks').val s with
        | mk b n2 =>
          rw [hx] at hs h'
          simp only at h'
          subst h'
          simp only at hs
          refine ⟨(i + 1, n2), ⟨h, hs⟩, weak_ren [0, 1] 2 (by kernel_rfl) (blk (by kernel_rfl) (blk (by kernel_rfl) trivial)) ⟨(by kernel_rfl), (by kernel_rfl), sI (by rw [wrapI] <;> simp <;> omega), trivial⟩, ?_⟩
          show ks.length - (i + 1) < ks.length - i
          omega
    · replace h : ¬ i < ks.length := by have := dF h; rw [V.pvL_len] at this; simpa using this
      set_option smartUnfolding false in conv => whnf
      rw [List.drop_of_length_le (by simpa using h)] at hs
      rw [← hs, V.valL_nil]
      exact weak_ren [0] 2 (by kernel_rfl) (blk (by kernel_rfl) trivial) ⟨(by kernel_rfl), trivial⟩

/-- keep.Value. -/
theorem keepV_det (v : V) : Det Tryz.prog 10 [v.pv] (.bool (v.val 400).1) := by
  obtain ⟨k, n, ks⟩ := v
  rw [V.pv_mk]
  refine det_of_vc' (E := S.E 0) rfl fol Tryz.func10 rfl rfl (slots := [2]) rfl rfl fun hw => ?_
  set_option smartUnfolding false in conv => whnf
  have hih := val_hdet (.mk k n ks) 400
  rw [V.pv_mk] at hih
  refine acall_hdet hih [1] 2 rfl rfl ⟨rfl, trivial⟩ ?_
  set_option smartUnfolding false in conv => whnf
  exact rdP rfl
end Go.AM

set_option linter.all false
set_option maxRecDepth 20000
set_option maxHeartbeats 4000000
namespace Go.AM
open Go.Proofs

/-! ### keep.Data -/
def keepCs : List Cn → Bool
  | [] => true
  | c :: l => (decide (c.name.size ≤ 40) && decide (c.args.length ≤ 8) && (V.valL c.args 20).1) && keepCs l
def keepDs : List Dt → Bool
  | [] => true
  | d :: l => (decide (d.name.size ≤ 40) && decide (d.cons.length ≤ 10) && keepCs d.cons) && keepDs l
def keepD (D : List Dt) : Bool := decide (D.length ≤ 14) && keepDs D
theorem keepCs_nil : keepCs [] = true := rfl
theorem keepCs_cons (c : Cn) (l : List Cn) : keepCs (c :: l) = ((decide (c.name.size ≤ 40) && decide (c.args.length ≤ 8) && (V.valL c.args 20).1) && keepCs l) := rfl
theorem keepDs_nil : keepDs [] = true := rfl
theorem keepDs_cons (d : Dt) (l : List Dt) : keepDs (d :: l) = ((decide (d.name.size ≤ 40) && decide (d.cons.length ≤ 10) && keepCs d.cons) && keepDs l) := rfl
attribute [irreducible] keepCs keepDs

theorem keepData_det (D : List Dt) : Det Tryz.prog 8 [.lst 3 (Dt.pvL D)] (.bool (keepD D)) := by
  generalize hR : keepD D = R
  unfold keepD at hR
  refine det_of_vc' (E := S.E 0) rfl fol Tryz.func8 rfl rfl (slots := [2]) rfl rfl fun hw => ?_
  set_option smartUnfolding false in conv => whnf
  refine br_intro (fun h0 => ?_) (fun h0 => ?_) <;> set_option smartUnfolding false in conv => whnf
  · have h0 := dT h0
    rw [Dt.pvL_len] at h0
    exact rdB (by rw [← hR, decide_eq_false (by omega)]; rfl)
  have h0 := dF h0
  rw [Dt.pvL_len] at h0
  rw [decide_eq_true (by omega), Bool.true_and] at hR
  refine vloop_intro (σ := Nat) (fun i => i ≤ D.length ∧ keepDs (D.drop i) = R) (fun i => [(13, .pv (.lst 3 (Dt.pvL D))), (14, .pv (.int .i64 (Dt.pvL D).length)), (15, .pv (.int .i64 i))]) (fun _ => []) (fun i => D.length - i) 0 ⟨by simp, by simpa using hR⟩ (weak_bare rfl ⟨(by kernel_rfl), (by kernel_rfl), (by kernel_rfl), trivial⟩) ?_
  rintro i ⟨hi, hs⟩
  set_option smartUnfolding false in conv => whnf
  refine br_intro (fun h => ?_) (fun h => ?_) <;> set_option smartUnfolding false in conv => whnf
  rotate_left
  · replace h : D.length ≤ i := by have := dF h; rw [Dt.pvL_len] at this; omega
    rw [List.drop_of_length_le h, keepDs_nil] at hs
    exact rdB hs
  replace h : i < D.length := by have := dT h; rw [Dt.pvL_len] at this; omega
  refine Dt.get_elim h fun nm vs cs hmem hg hg2 hd => ?_
  rw [hd, keepDs_cons] at hs
  simp only at hs
  refine ⟨Dt.ag nm vs cs, ⟨by omega, by simpa using hg⟩, ?_⟩
  set_option smartUnfolding false in conv => whnf
  refine br_intro (fun g => ?_) (fun g => ?_) <;> set_option smartUnfolding false in conv => whnf
  · have g := dT g
    exact rdB (by rw [← hs, decide_eq_false (by omega)]; rfl)
  have g1 := dF g
  refine br_intro (fun g => ?_) (fun g => ?_) <;> set_option smartUnfolding false in conv => whnf
  · have g := dT g
    rw [Cn.pvL_len] at g
    exact rdB (by rw [← hs, decide_eq_false (p := cs.length ≤ 10) (by omega)]; simp)
  have g2 := dF g
  rw [Cn.pvL_len] at g2
  rw [decide_eq_true (by omega), decide_eq_true (p := cs.length ≤ 10) (by omega), Bool.true_and, Bool.true_and] at hs
  refine vloop_intro (σ := Nat) (fun j => j ≤ cs.length ∧ (keepCs (cs.drop j) && keepDs (D.drop (i + 1))) = R) (fun j => [(13, .pv (.lst 3 (Dt.pvL D))), (14, .pv (.int .i64 (Dt.pvL D).length)), (15, .pv (.int .i64 i)), (30, .pv (.lst 2 (Cn.pvL cs))), (31, .pv (.int .i64 (Cn.pvL cs).length)), (32, .pv (.int .i64 j))]) (fun _ => []) (fun j => cs.length - j) 0 ⟨by simp, by simpa using hs⟩ (weak_bare rfl ⟨(by kernel_rfl), (by kernel_rfl), (by kernel_rfl), (by kernel_rfl), (by kernel_rfl), (by kernel_rfl), trivial⟩) ?_
  rintro j ⟨hj, hs2⟩
  set_option smartUnfolding false in conv => whnf
  refine br_intro (fun h' => ?_) (fun h' => ?_) <;> set_option smartUnfolding false in conv => whnf
  rotate_left
  · replace h' : cs.length ≤ j := by have := dF h'; rw [Cn.pvL_len] at this; omega
    rw [List.drop_of_length_le h', keepCs_nil, Bool.true_and] at hs2
    exact ⟨i + 1, ⟨h, hs2⟩, weak_bare rfl ⟨(by kernel_rfl), (by kernel_rfl), sUp h (by omega), trivial⟩, subUp h⟩
  replace h' : j < cs.length := by have := dT h'; rw [Cn.pvL_len] at this; omega
  refine Cn.get_elim h' fun cn cas hcm hcg hcg2 hcd => ?_
  rw [hcd, keepCs_cons] at hs2
  simp only at hs2
  refine ⟨Cn.ag cn cas, ⟨by omega, by simpa using hcg⟩, ?_⟩
  set_option smartUnfolding false in conv => whnf
  refine br_intro (fun g => ?_) (fun g => ?_) <;> set_option smartUnfolding false in conv => whnf
  · have g := dT g
    exact rdB (by rw [← hs2, decide_eq_false (by omega)]; rfl)
  have g3 := dF g
  refine br_intro (fun g => ?_) (fun g => ?_) <;> set_option smartUnfolding false in conv => whnf
  · have g := dT g
    rw [V.pvL_len] at g
    exact rdB (by rw [← hs2, decide_eq_false (p := cas.length ≤ 8) (by omega)]; simp)
  have g4 := dF g
  rw [V.pvL_len] at g4
  rw [decide_eq_true (by omega), decide_eq_true (p := cas.length ≤ 8) (by omega), Bool.true_and, Bool.true_and] at hs2
  refine vloop_intro (σ := Nat × Int) (fun x => x.1 ≤ cas.length ∧ ((V.valL (cas.drop x.1) x.2).1 && keepCs (cs.drop (j + 1)) && keepDs (D.drop (i + 1))) = R) (fun x => [(7, .bp 0 0), (13, .pv (.lst 3 (Dt.pvL D))), (14, .pv (.int .i64 (Dt.pvL D).length)), (15, .pv (.int .i64 i)), (30, .pv (.lst 2 (Cn.pvL cs))), (31, .pv (.int .i64 (Cn.pvL cs).length)), (32, .pv (.int .i64 j)), (47, .pv (.lst 3 (V.pvL cas))), (48, .pv (.int .i64 (V.pvL cas).length)), (49, .pv (.int .i64 x.1))]) (fun x => [.box 3 [.pv (.int .i64 x.2)]]) (fun x => cas.length - x.1) (0, 20) ⟨by simp, by simpa using hs2⟩ (weak_ren [1] 2 (by kernel_rfl) (blk (by kernel_rfl) trivial) ⟨(by kernel_rfl), (by kernel_rfl), (by kernel_rfl), (by kernel_rfl), (by kernel_rfl), (by kernel_rfl), (by kernel_rfl), (by kernel_rfl), (by kernel_rfl), (by kernel_rfl), trivial⟩) ?_
  rintro ⟨m, s⟩ ⟨hm, hs3⟩
  simp only at hm hs3
  set_option smartUnfolding false in conv => whnf
  refine br_intro (fun h2 => ?_) (fun h2 => ?_) <;> set_option smartUnfolding false in conv => whnf
  rotate_left
  · replace h2 : cas.length ≤ m := by have := dF h2; rw [V.pvL_len] at this; simp only at this; omega
    rw [List.drop_of_length_le h2, V.valL_nil] at hs3
    simp only [Bool.true_and] at hs3
    exact ⟨j + 1, ⟨h', hs3⟩, weak_bare rfl ⟨(by kernel_rfl), (by kernel_rfl), (by kernel_rfl), (by kernel_rfl), (by kernel_rfl), sUp h' (by omega), trivial⟩, subUp h'⟩
  replace h2 : m < cas.length := by have := dT h2; rw [V.pvL_len] at this; simp only at this; omega
  refine V.get_elim h2 fun k' n' ts' hv hge hg0 hde => ?_
  rw [hde, V.valL_cons] at hs3
  have ht := typ_hdet (.mk k' n' ts') s
  rw [V.pv_mk] at ht
  refine ⟨V.ag k' n' ts', ⟨(by first | omega | (simp only; omega)), by simpa using hge⟩, ?_⟩
  set_option smartUnfolding false in conv => whnf
  refine acall_hdet ht [0] 2 rfl rfl ⟨rfl, trivial⟩ ?_
  set_option smartUnfolding false in conv => whnf
  refine br_intro (fun g => ?_) (fun g => ?_) <;> set_option smartUnfolding false in conv => whnf
  · have g : ((V.mk k' n' ts').val s).1 = false := by simpa using g
    cases hx : (V.mk k' n' ts').val s with
    | mk b n2 =>
      rw [hx] at g hs3
      simp only at g
      subst g
      exact rdB hs3
  · have g : ((V.mk k' n' ts').val s).1 = true := by simpa using g
    cases hx : (V.mk k' n' ts').val s with
    | mk b n2 =>
      rw [hx] at g hs3
      simp only at g
      subst g
      simp only at hs3
      exact ⟨(m + 1, n2), ⟨h2, hs3⟩, weak_ren [0] 2 (by kernel_rfl) (blk (by kernel_rfl) trivial) ⟨(by kernel_rfl), (by kernel_rfl), (by kernel_rfl), (by kernel_rfl), (by kernel_rfl), (by kernel_rfl), (by kernel_rfl), (by kernel_rfl), (by kernel_rfl), sUp h2 (by omega), trivial⟩, by show cas.length - (m + 1) < cas.length - m; omega⟩

theorem keepCs_mem : ∀ {l : List Cn} {c : Cn}, keepCs l = true → c ∈ l → c.name.size ≤ 40 ∧ c.args.length ≤ 8 ∧ (V.valL c.args 20).1 = true
  | [], c, _, h => by simp at h
  | y :: l, c, h, hc => by
    rw [keepCs_cons] at h
    simp only [Bool.and_eq_true, decide_eq_true_eq] at h
    rcases List.mem_cons.1 hc with rfl | hc
    · exact ⟨h.1.1.1, h.1.1.2, h.1.2⟩
    · exact keepCs_mem h.2 hc
theorem keepDs_mem : ∀ {l : List Dt} {d : Dt}, keepDs l = true → d ∈ l → d.name.size ≤ 40 ∧ d.cons.length ≤ 10 ∧ keepCs d.cons = true
  | [], d, _, h => by simp at h
  | y :: l, d, h, hd => by
    rw [keepDs_cons] at h
    simp only [Bool.and_eq_true, decide_eq_true_eq] at h
    rcases List.mem_cons.1 hd with rfl | hd
    · exact ⟨h.1.1.1, h.1.1.2, h.1.2⟩
    · exact keepDs_mem h.2 hd
theorem keepD_ok {D : List Dt} (h : keepD D = true) : DOK D ∧ DN D := by
  unfold keepD at h
  simp only [Bool.and_eq_true, decide_eq_true_eq] at h
  refine ⟨⟨by omega, fun d hd => by have := keepDs_mem h.2 hd; omega, fun d hd c hc => ?_, fun d hd c hc a ha => ?_⟩, ⟨fun d hd => by have := keepDs_mem h.2 hd; omega, fun d hd c hc => ?_⟩⟩
  · have := keepCs_mem (keepDs_mem h.2 hd).2.2 hc; omega
  · have h3 := (keepCs_mem (keepDs_mem h.2 hd).2.2 hc).2.2
    have := (V.valL_spec c.args 20 (by omega) (by omega)).1 h3
    have := V.cnt_mem ha
    omega
  · have := keepCs_mem (keepDs_mem h.2 hd).2.2 hc; omega
end Go.AM

set_option linter.all false
set_option maxRecDepth 20000
set_option maxHeartbeats 4000000
namespace Go.AM
open Go.Proofs

theorem keepT_cntB {v : V} (h : (v.val 250).1 = true) : v.cnt ≤ 250 := by
  have := (V.val_spec v 250 (by omega) (by omega)).1 h; omega
theorem small16_det (D : List Dt) (t v : V) : Det Tryz.prog 4 [.lst 3 (Dt.pvL D), t.pv, v.pv] (.bool (keepD D && (t.val 250).1 && (v.val 400).1 && decide (v.nod ≤ 120))) := by
  have k1 := keepData_det D
  have k2 := keepT_det t
  have k3 := keepV_det v
  have k4 := rnod_det v
  generalize keepD D = b1 at k1
  generalize (t.val 250).1 = b2 at k2
  generalize (v.val 400).1 = b3 at k3
  generalize v.nod = n4 at k4
  obtain ⟨tk, tn, ts⟩ := t
  obtain ⟨vk, vn, vs⟩ := v
  rw [V.pv_mk] at k2 k3 k4
  rw [V.pv_mk, V.pv_mk]
  refine det_of_vc' (E := S.E 0) rfl fol Tryz.func4 rfl rfl (slots := [6]) rfl rfl fun hw => ?_
  set_option smartUnfolding false in conv => whnf
  refine acall_det (ps := [.lst 3 (Dt.pvL D)]) k1 ?_
  set_option smartUnfolding false in conv => whnf
  refine br_intro (fun h1 => ?_) (fun h1 => ?_) <;> set_option smartUnfolding false in conv => whnf
  · refine acall_det (ps := [V.ag tk tn ts]) k2 ?_
    set_option smartUnfolding false in conv => whnf
    refine br_intro (fun h2 => ?_) (fun h2 => ?_) <;> set_option smartUnfolding false in conv => whnf
    · refine acall_det (ps := [V.ag vk vn vs]) k3 ?_
      set_option smartUnfolding false in conv => whnf
      refine br_intro (fun h3 => ?_) (fun h3 => ?_) <;> set_option smartUnfolding false in conv => whnf
      · refine acall_det (ps := [V.ag vk vn vs]) k4 ?_
        set_option smartUnfolding false in conv => whnf
        exact rdB (by rw [h1, h2, h3]; simp)
      · exact rdB (by rw [h1, h2, h3]; simp)
    · exact rdB (by rw [h1, h2]; simp)
  · exact rdB (by rw [h1]; simp)
theorem basisCounts_det (D : List Dt) (t v : V) (c : Int) : Det Tryz.prog 3 [.lst 3 (Dt.pvL D), t.pv, v.pv, .int .i64 c] (.bool true) := by
  have k1 := small16_det D t v
  have p1 := fun (h : keepD D = true) => bcount_det (keepD_ok h).1 (keepD_ok h).2 t v c
  have p2 := fun (h : keepD D = true) (h2 : (t.val 250).1 = true) => rcount_det (keepD_ok h).1 (keepD_ok h).2 t v (by have := keepT_cntB h2; omega) c
  generalize cntS D t v c = r at p1 p2
  obtain ⟨n, e⟩ := r
  unfold cntP at p1 p2
  generalize hb : (keepD D && (t.val 250).1 && (v.val 400).1 && decide (v.nod ≤ 120)) = b1 at k1
  obtain ⟨tk, tn, ts⟩ := t
  obtain ⟨vk, vn, vs⟩ := v
  rw [V.pv_mk, V.pv_mk] at k1 p1 p2
  rw [V.pv_mk, V.pv_mk]
  refine det_of_vc' (E := S.E 0) rfl fol Tryz.func3 rfl rfl (slots := [8]) rfl rfl fun hw => ?_
  set_option smartUnfolding false in conv => whnf
  refine acall_det (ps := [.lst 3 (Dt.pvL D), V.ag tk tn ts, V.ag vk vn vs]) k1 ?_
  set_option smartUnfolding false in conv => whnf
  refine br_intro (fun h1 => ?_) (fun h1 => ?_) <;> set_option smartUnfolding false in conv => whnf
  · exact rdB rfl
  have h1 : b1 = true := by simpa using h1
  rw [h1] at hb
  simp only [Bool.and_eq_true] at hb
  refine acall_det (ps := [.lst 3 (Dt.pvL D), V.ag tk tn ts, V.ag vk vn vs, .int .i64 c]) (p1 hb.1.1.1) ?_
  set_option smartUnfolding false in conv => whnf
  refine acall_det (ps := [.lst 3 (Dt.pvL D), V.ag tk tn ts, V.ag vk vn vs, .int .i64 c]) (p2 hb.1.1.1 hb.1.1.2) ?_
  set_option smartUnfolding false in conv => whnf
  refine br_intro (fun h4 => ?_) (fun h4 => ?_) <;> set_option smartUnfolding false in conv => whnf
  · refine br_intro (fun h5 => ?_) (fun h5 => ?_) <;> set_option smartUnfolding false in conv => whnf
    · refine acall_det (ps := []) awake16_det ?_
      set_option smartUnfolding false in conv => whnf
      exact rdB rfl
    · have := dF h5; exact absurd rfl this
  · have := dF h4; exact absurd rfl this
end Go.AM
