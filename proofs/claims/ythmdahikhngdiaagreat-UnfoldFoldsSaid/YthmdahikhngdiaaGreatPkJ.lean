import Derived.Test.YthmdahikhngdiaaGreatPkI
set_option linter.all false
set_option maxRecDepth 20000
set_option maxHeartbeats 4000000
namespace Go.AM
open Go.Proofs

/-! ### Indices: their degrees -/
def V.num : V → Int | .mk _ n _ => n
/-- The payload arguments' types. -/
def picks : List V → List Bool → List V
  | f :: fs, b :: bs => if b then picks fs bs else f :: picks fs bs
  | _, _ => []
theorem picks_nil (bs : List Bool) : picks [] bs = [] := by unfold picks; rfl
theorem picks_nil2 (fs : List V) : picks fs [] = [] := by cases fs <;> (unfold picks; rfl)
theorem picks_cons (f : V) (fs : List V) (b : Bool) (bs : List Bool) : picks (f :: fs) (b :: bs) = if b then picks fs bs else f :: picks fs bs := by rw [picks]
theorem picks_mem : ∀ {fs : List V} {bs : List Bool} {u : V}, u ∈ picks fs bs → u ∈ fs
  | [], bs, u, h => by rw [picks_nil] at h; exact h
  | f :: fs, [], u, h => by rw [picks_nil2] at h; cases h
  | f :: fs, b :: bs, u, h => by
    rw [picks_cons] at h
    cases b with
    | true => exact List.mem_cons_of_mem _ (picks_mem h)
    | false =>
      rcases List.mem_cons.1 h with rfl | h
      · exact List.mem_cons_self ..
      · exact List.mem_cons_of_mem _ (picks_mem h)
def payS (D : List Dt) (t : V) (c : Int) : Option (List V) := match fieldsS D t c with
  | some fs => some (picks fs (recS D t.num c))
  | Option.none => Option.none
theorem payS_none {D : List Dt} {t : V} {c : Int} (h : fieldsS D t c = Option.none) : payS D t c = Option.none := by unfold payS; rw [h]
theorem payS_some {D : List Dt} {t : V} {c : Int} {fs : List V} (h : fieldsS D t c = some fs) : payS D t c = some (picks fs (recS D t.num c)) := by unfold payS; rw [h]
theorem payS_good {D : List Dt} (hv : dvalid D = true) {t : V} (hg : Good D t) {c : Int} {ts : List V} (h : payS D t c = some ts) : ∀ u ∈ ts, Good D u := fun u hu => by
  cases hf : fieldsS D t c with
  | none => rw [payS_none hf] at h; cases h
  | some fs =>
    rw [payS_some hf] at h
    cases h
    exact hg.fields hv hf u (picks_mem hu)
theorem flds_len : ∀ {ts l fs : List V}, flds ts l = some fs → fs.length = l.length
  | ts, [], fs, h => by simp [flds_nil] at h; subst h; rfl
  | ts, a :: l, fs, h => by
    rw [flds_cons] at h
    split at h
    · cases h
    · cases hr : flds ts l with
      | none => rw [hr] at h; cases h
      | some r =>
        rw [hr] at h
        cases h
        rw [List.length_cons, flds_len hr]; rfl
theorem rec_len {D : List Dt} {d n : Int} {ts fs : List V} (hf : fieldsS D (.mk 5 d ts) n = some fs) : ∃ x c, x ∈ D ∧ c ∈ x.cons ∧ fs.length = c.args.length ∧ (recS D d n).length = c.args.length := by
  unfold fieldsS at hf
  cases hc : conOf D (.mk 5 d ts) n with
  | none => rw [hc] at hf; cases hf
  | some c =>
    rw [hc] at hf
    have hf := flds_len hf
    unfold conOf at hc
    simp only at hc
    by_cases hk : True ∧ 0 ≤ d ∧ 0 ≤ n
    · rw [if_pos hk] at hc
      cases hx : D[d.toNat]? with
      | none => rw [hx] at hc; cases hc
      | some x =>
        rw [hx] at hc
        simp only at hc
        by_cases hl : (ts.length : Int) = x.vars
        · rw [if_pos hl] at hc
          have er : recS D d n = c.args.map (isSelf d x.vars) := by
            unfold recS conAt
            rw [if_pos ⟨hk.2.1, hk.2.2⟩, hx]
            simp only [hc]
          exact ⟨x, c, List.mem_of_getElem? hx, List.mem_of_getElem? hc, hf, by rw [er, List.length_map]⟩
        · rw [if_neg hl] at hc; cases hc
    · rw [if_neg hk] at hc; cases hc
mutual
def Ix.deg (D : List Dt) : Ix → V → Option Int
  | .mk n ks, .mk tk tn ts =>
    if tk = 6 then (if n = 0 then Ix.degL D 0 ks ts else Option.none)
    else if tk = 7 then (if 0 ≤ n ∧ n ≤ 6 ∧ ks.length = 0 then some n else Option.none)
    else if tk = 5 then (if n = 0 ∧ ks.length ≤ 6 then Ix.degE D (.mk tk tn ts) 0 ks else Option.none)
    else (if n = 0 ∧ ks.length = 0 then some 0 else Option.none)
def Ix.degL (D : List Dt) (a : Int) : List Ix → List V → Option Int
  | [], us => match us with
    | [] => some a
    | _ :: _ => Option.none
  | i :: l, us => match us with
    | [] => Option.none
    | u :: us => match Ix.deg D i u with
      | some d => if 6 < a + d then Option.none else Ix.degL D (a + d) l us
      | Option.none => Option.none
def Ix.degE (D : List Dt) (t : V) (a : Int) : List Ix → Option Int
  | [] => some a
  | e :: l => match Ix.degK D t e with
    | some d => if 6 < a + (1 + d) then Option.none else Ix.degE D t (a + (1 + d)) l
    | Option.none => Option.none
def Ix.degK (D : List Dt) (t : V) : Ix → Option Int
  | .mk c es => match payS D t c with
    | some us => Ix.degL D 0 es us
    | Option.none => Option.none
end
theorem Ix.deg_mk (D : List Dt) (n : Int) (ks : List Ix) (tk tn : Int) (ts : List V) : Ix.deg D (.mk n ks) (.mk tk tn ts) =
    if tk = 6 then (if n = 0 then Ix.degL D 0 ks ts else Option.none)
    else if tk = 7 then (if 0 ≤ n ∧ n ≤ 6 ∧ ks.length = 0 then some n else Option.none)
    else if tk = 5 then (if n = 0 ∧ ks.length ≤ 6 then Ix.degE D (.mk tk tn ts) 0 ks else Option.none)
    else (if n = 0 ∧ ks.length = 0 then some 0 else Option.none) := by rw [Ix.deg]
theorem Ix.degL_nil (D : List Dt) (a : Int) : Ix.degL D a [] [] = some a := by rw [Ix.degL]
theorem Ix.degL_nc (D : List Dt) (a : Int) (u : V) (us : List V) : Ix.degL D a [] (u :: us) = Option.none := by rw [Ix.degL]
theorem Ix.degL_cn (D : List Dt) (a : Int) (i : Ix) (l : List Ix) : Ix.degL D a (i :: l) [] = Option.none := by rw [Ix.degL]
theorem Ix.degL_cons (D : List Dt) (a : Int) (i : Ix) (l : List Ix) (u : V) (us : List V) : Ix.degL D a (i :: l) (u :: us) = match Ix.deg D i u with
      | some d => if 6 < a + d then Option.none else Ix.degL D (a + d) l us
      | Option.none => Option.none := by rw [Ix.degL]
theorem Ix.degE_nil (D : List Dt) (t : V) (a : Int) : Ix.degE D t a [] = some a := by rw [Ix.degE]
theorem Ix.degE_cons (D : List Dt) (t : V) (a : Int) (e : Ix) (l : List Ix) : Ix.degE D t a (e :: l) = match Ix.degK D t e with
    | some d => if 6 < a + (1 + d) then Option.none else Ix.degE D t (a + (1 + d)) l
    | Option.none => Option.none := by rw [Ix.degE]
theorem Ix.degK_mk (D : List Dt) (t : V) (c : Int) (es : List Ix) : Ix.degK D t (.mk c es) = match payS D t c with
    | some us => Ix.degL D 0 es us
    | Option.none => Option.none := by rw [Ix.degK]
mutual
theorem Ix.deg_rng (D : List Dt) : ∀ (i : Ix) (t : V) (d : Int), Ix.deg D i t = some d → 0 ≤ d ∧ d ≤ 6
  | .mk n ks, .mk tk tn ts, d, h => by
    rw [Ix.deg_mk] at h
    split at h
    · split at h
      · exact Ix.degL_rng D ks ts 0 d h (by omega) (by omega)
      · cases h
    · split at h
      · split at h
        · cases h; omega
        · cases h
      · split at h
        · split at h
          · exact Ix.degE_rng D _ ks 0 d h (by omega) (by omega)
          · cases h
        · split at h
          · cases h; omega
          · cases h
theorem Ix.degL_rng (D : List Dt) : ∀ (l : List Ix) (us : List V) (a d : Int), Ix.degL D a l us = some d → 0 ≤ a → a ≤ 6 → 0 ≤ d ∧ d ≤ 6
  | [], [], a, d, h, h1, h2 => by rw [Ix.degL_nil] at h; cases h; omega
  | [], u :: us, a, d, h, h1, h2 => by rw [Ix.degL_nc] at h; cases h
  | i :: l, [], a, d, h, h1, h2 => by rw [Ix.degL_cn] at h; cases h
  | i :: l, u :: us, a, d, h, h1, h2 => by
    rw [Ix.degL_cons] at h
    cases hi : Ix.deg D i u with
    | none => rw [hi] at h; cases h
    | some e =>
      rw [hi] at h
      have := Ix.deg_rng D i u e hi
      simp only at h
      split at h
      · cases h
      · exact Ix.degL_rng D l us (a + e) d h (by omega) (by omega)
theorem Ix.degE_rng (D : List Dt) (t : V) : ∀ (l : List Ix) (a d : Int), Ix.degE D t a l = some d → 0 ≤ a → a ≤ 6 → 0 ≤ d ∧ d ≤ 6
  | [], a, d, h, h1, h2 => by rw [Ix.degE_nil] at h; cases h; omega
  | e :: l, a, d, h, h1, h2 => by
    rw [Ix.degE_cons] at h
    cases hi : Ix.degK D t e with
    | none => rw [hi] at h; cases h
    | some x =>
      rw [hi] at h
      have := Ix.degK_rng D t e x hi
      simp only at h
      split at h
      · cases h
      · exact Ix.degE_rng D t l (a + (1 + x)) d h (by omega) (by omega)
theorem Ix.degK_rng (D : List Dt) (t : V) : ∀ (e : Ix) (d : Int), Ix.degK D t e = some d → 0 ≤ d ∧ d ≤ 6
  | .mk c es, d, h => by
    rw [Ix.degK_mk] at h
    cases hp : payS D t c with
    | none => rw [hp] at h; cases h
    | some us =>
      rw [hp] at h
      exact Ix.degL_rng D es us 0 d h (by omega) (by omega)
end
theorem Ix.degL_len {D : List Dt} : ∀ {l : List Ix} {us : List V} {a d : Int}, Ix.degL D a l us = some d → l.length = us.length
  | [], [], a, d, h => rfl
  | [], u :: us, a, d, h => by rw [Ix.degL_nc] at h; cases h
  | i :: l, [], a, d, h => by rw [Ix.degL_cn] at h; cases h
  | i :: l, u :: us, a, d, h => by
    rw [Ix.degL_cons] at h
    split at h
    · split at h
      · cases h
      · rw [List.length_cons, List.length_cons, Ix.degL_len h]
    · cases h
attribute [irreducible] Ix.deg Ix.degL Ix.degE Ix.degK picks payS
theorem Ix.rec2 {p : Ix → Prop} (h : ∀ n ks, (∀ v ∈ ks, p v) → (∀ c es, Ix.mk c es ∈ ks → ∀ v ∈ es, p v) → p (.mk n ks)) (v : Ix) : p v := by
  have : ∀ (N : Nat) (v : Ix), SizeOf.sizeOf v < N → p v := by
    intro N
    induction N with
    | zero => intro v hv; omega
    | succ N ih =>
      intro v hv
      obtain ⟨n, ks⟩ := v
      simp only [Ix.mk.sizeOf_spec] at hv
      refine h n ks (fun w hw => ih w ?_) (fun c es he w hw => ih w ?_)
      · have := List.sizeOf_lt_of_mem hw
        omega
      · have h1 := List.sizeOf_lt_of_mem he
        have h2 := List.sizeOf_lt_of_mem hw
        simp only [Ix.mk.sizeOf_spec] at h1
        omega
  exact this (SizeOf.sizeOf v + 1) v (by omega)
theorem Ix.get_elim {P : Prop} {l : List Ix} {i : Nat} (h : i < l.length) (k : ∀ n us, Ix.mk n us ∈ l → (Ix.pvL l)[i]? = some (Ix.ag n us) → l[i]? = some (.mk n us) → l.drop i = .mk n us :: l.drop (i + 1) → P) : P := by
  obtain ⟨⟨n, us⟩, h1, h2, h3, h4⟩ := Ix.get_pvL h
  rw [Ix.pv_mk] at h2
  exact k n us h1 h2 h3 h4
end Go.AM

set_option linter.all false
set_option maxRecDepth 20000
set_option maxHeartbeats 4000000
namespace Go.AM
open Go.Proofs

theorem recS_len {D : List Dt} (hD : DOK D) (d c : Int) : (recS D d c).length ≤ 1000 := by
  unfold recS
  split
  · rename_i vars y h
    unfold conAt at h
    split at h
    · split at h
      · rename_i x hx
        split at h
        · rename_i z hz
          cases h
          rw [List.length_map]
          exact hD.args _ (List.mem_of_getElem? hx) _ (List.mem_of_getElem? hz)
        · cases h
      · cases h
    · cases h
  · simp
def payF (D : List Dt) (tn : Int) (ts : List V) (c : Int) (fs : List V) : List V := picks fs (recS D tn c)
theorem payloads_t {D : List Dt} (hD : DOK D) (tn : Int) (ts : List V) (hg : Good D (.mk 5 tn ts)) (c : Int) : Det Tryz.prog 87 [.lst 3 (Dt.pvL D), (V.mk 5 tn ts).pv, .int .i64 c] (optP [] (payS D (.mk 5 tn ts) c)) := by
  have hF := tfields_det hD (.mk 5 tn ts) (by have := hg.cnt; omega) c
  have hRc := trec_det hD tn c
  have hd := hg.decl
  rw [V.pv_mk] at hF
  rw [V.pv_mk]
  refine det_of_vc' (E := S.E 0) rfl fol Tryz.func87 rfl rfl (slots := [6, 7]) rfl rfl fun hw => ?_
  set_option smartUnfolding false in conv => whnf
  refine br_intro (fun g2 => ?_) (fun g2 => ?_) <;> set_option smartUnfolding false in conv => whnf
  · have g2 := dT g2
    have e : fieldsS D (.mk 5 tn ts) c = Option.none := by unfold fieldsS conOf; simp only; rw [if_neg (by omega)]
    rw [payS_none e]
    exact rd_no
  have g2 := dF g2
  refine Dt.get_elim (l := D) (i := tn.toNat) (by omega) fun nm vs cs hmem hdg hdg2 _ => ?_
  refine ⟨Dt.ag nm vs cs, ⟨by omega, hdg⟩, ?_⟩
  set_option smartUnfolding false in conv => whnf
  refine br_intro (fun g3 => ?_) (fun g3 => ?_) <;> set_option smartUnfolding false in conv => whnf
  · have g3 := dT g3
    rw [Cn.pvL_len] at g3
    have e : fieldsS D (.mk 5 tn ts) c = Option.none := by
      unfold fieldsS conOf; simp only; rw [hdg2]; simp only; rw [List.getElem?_eq_none (l := cs) (by omega)]; simp
    rw [payS_none e]
    exact rd_no
  cases hf : fieldsS D (.mk 5 tn ts) c with
  | none =>
    rw [hf, optP_none] at hF
    rw [payS_none hf, optP_none]
    refine acall_det (ps := [.lst 3 (Dt.pvL D), V.ag 5 tn ts, .int .i64 c]) hF ?_
    set_option smartUnfolding false in conv => whnf
    refine acall_det (ps := [.lst 3 (Dt.pvL D), .int .i64 tn, .int .i64 c]) hRc ?_
    set_option smartUnfolding false in conv => whnf
    have hl : (boolsP (recS D tn c)).length ≤ 9223372036854775807 := by have := recS_len hD tn c; rw [boolsP_len]; omega
    refine vloop_intro (σ := Nat) (fun i => i ≤ (boolsP (recS D tn c)).length) (fun i => [(9, .pv (.bool false)), (10, .pv .nils), (37, .pv (.lst 1 (boolsP (recS D tn c)))), (38, .pv (.int .i64 (boolsP (recS D tn c)).length)), (39, .pv (.int .i64 i))]) (fun _ => []) (fun i => (boolsP (recS D tn c)).length - i) 0 (Nat.zero_le _) (weak_bare rfl ⟨(by kernel_rfl), (by kernel_rfl), (by kernel_rfl), (by kernel_rfl), (by kernel_rfl), trivial⟩) ?_
    rintro i hi
    set_option smartUnfolding false in conv => whnf
    refine br_intro (fun h => ?_) (fun h => ?_) <;> set_option smartUnfolding false in conv => whnf
    · replace h : i < (boolsP (recS D tn c)).length := by have := dT h; simpa using this
      obtain ⟨b, hb0, hb1, hb2⟩ := drop_bool (l := recS D tn c) (i := i) (by rwa [boolsP_len] at h)
      refine ⟨.bool b, ⟨by simp, by simpa using hb1⟩, ?_⟩
      set_option smartUnfolding false in conv => whnf
      exact ⟨i + 1, h, weak_bare rfl ⟨(by kernel_rfl), (by kernel_rfl), (by kernel_rfl), (by kernel_rfl), sUp h hl, trivial⟩, subUp h⟩
    · exact rd_no
  | some fs =>
    obtain ⟨x, cn, hx, hcn, hfl, hrl⟩ := rec_len hf
    have hal := hD.args x hx cn hcn
    rw [hf, optP_some, List.nil_append] at hF
    have hR : PV.tuple [.lst 3 (V.pvL (payF D tn ts c fs)), .bool true] = optP [] (payS D (.mk 5 tn ts) c) := by rw [payS_some hf, optP_some, List.nil_append]; rfl
    rw [← hR]
    unfold payF
    generalize hbs : recS D tn c = bs at hRc hrl
    generalize hT : V.pvL (picks fs bs) = T
    refine acall_det (ps := [.lst 3 (Dt.pvL D), V.ag 5 tn ts, .int .i64 c]) hF ?_
    set_option smartUnfolding false in conv => whnf
    refine acall_det (ps := [.lst 3 (Dt.pvL D), .int .i64 tn, .int .i64 c]) hRc ?_
    set_option smartUnfolding false in conv => whnf
    have hl : fs.length ≤ 9223372036854775807 := by omega
    refine vloop_intro (σ := Nat × List PV) (fun x => x.1 ≤ fs.length ∧ x.2 ++ V.pvL (picks (fs.drop x.1) (bs.drop x.1)) = T ∧ x.2.length ≤ x.1) (fun x => [(8, .pv (.lst 3 (V.pvL fs))), (9, .pv (.bool true)), (10, lsV 0 x.2), (37, .pv (.lst 1 (boolsP bs))), (38, .pv (.int .i64 (boolsP bs).length)), (39, .pv (.int .i64 x.1))])
      (fun x => [lsB 25 3 x.2]) (fun x => fs.length - x.1) (0, []) ⟨by simp, by simpa using hT, Nat.le_refl _⟩ (weak_ren [1] 2 (by kernel_rfl) (blkD trivial) ⟨(by kernel_rfl), (by kernel_rfl), (by kernel_rfl), (by kernel_rfl), (by kernel_rfl), (by kernel_rfl), trivial⟩) ?_
    rintro ⟨i, ps⟩ ⟨hi, hs, hpl⟩
    simp only at hi hs hpl
    set_option smartUnfolding false in conv => whnf
    refine br_intro (fun h => ?_) (fun h => ?_) <;> set_option smartUnfolding false in conv => whnf
    · replace h : i < fs.length := by have := dT h; rw [boolsP_len, hrl, ← hfl] at this; simpa using this
      obtain ⟨b, hb0, hb1, hb2⟩ := drop_bool (l := bs) (i := i) (by omega)
      refine V.get_elim h fun k1 n1 ks1 hv hg hg0 hd => ?_
      rw [hd, hb2, picks_cons] at hs
      refine ⟨.bool b, ⟨by simp, by simpa using hb1⟩, ?_⟩
      set_option smartUnfolding false in conv => whnf
      refine br_intro (fun g => ?_) (fun g => ?_) <;> set_option smartUnfolding false in conv => whnf
      · have g : b = false := by simpa using g
        subst g
        rw [if_neg (by simp), V.pvL_cons, V.pv_mk] at hs
        refine ⟨V.ag k1 n1 ks1, ⟨by simp, by simpa using hg⟩, ?_⟩
        set_option smartUnfolding false in conv => whnf
        refine ⟨Nat.le_refl 1, ?_⟩
        set_option smartUnfolding false in conv => whnf
        cases ps with
        | nil =>
          set_option smartUnfolding false in conv => whnf
          refine ⟨⟨⟨by decide, by decide⟩, by decide⟩, ?_⟩
          set_option smartUnfolding false in conv => whnf
          exact ⟨(i + 1, [] ++ [V.ag k1 n1 ks1]), ⟨h, by rw [← hs]; simp, by simp⟩, weak_ren [2] 3 (by kernel_rfl) (blk (by kernel_rfl) trivial) ⟨(by kernel_rfl), (by kernel_rfl), (by kernel_rfl), (by kernel_rfl), (by kernel_rfl), sUp h hl, trivial⟩, subUp h⟩
        | cons p ps =>
          set_option smartUnfolding false in conv => whnf
          simp only [List.length_cons] at hpl
          refine ⟨⟨⟨by simp [pvs_len], by simp only [Nat.succ_eq_add_one]; omega⟩, by rw [show ((S.E 0).te 25).bytes = 40 from rfl]; simp only [Nat.succ_eq_add_one]; omega⟩, ?_⟩
          set_option smartUnfolding false in conv => whnf
          exact ⟨(i + 1, (p :: ps) ++ [V.ag k1 n1 ks1]), ⟨h, by rw [← hs]; simp, by simp; omega⟩, weak_ren [2] 3 (by kernel_rfl) (blkR_snoc (by kernel_rfl) trivial) ⟨(by kernel_rfl), (by kernel_rfl), by simp only [lsV_snoc]; kernel_rfl, (by kernel_rfl), (by kernel_rfl), sUp h hl, trivial⟩, subUp h⟩
      · have g : b = true := by simpa using g
        subst g
        rw [if_pos rfl] at hs
        exact ⟨(i + 1, ps), ⟨h, hs, by simp only; omega⟩, weak_ren [0] 1 (by kernel_rfl) (blkR_ls (by kernel_rfl) trivial) ⟨(by kernel_rfl), (by kernel_rfl), sLs (by kernel_rfl), (by kernel_rfl), (by kernel_rfl), sUp h hl, trivial⟩, subUp h⟩
    · replace h : ¬ i < fs.length := by have := dF h; rw [boolsP_len, hrl, ← hfl] at this; simpa using this
      rw [List.drop_of_length_le (by omega), picks_nil, V.pvL_nil, List.append_nil] at hs
      subst hs
      cases ps with
      | nil =>
        set_option smartUnfolding false in conv => whnf
        exact .le (.tuple (.cons (.nils 3) (.cons (.refl _) .nil)))
      | cons p ps =>
        set_option smartUnfolding false in conv => whnf
        exact .tup (.cons (rd_lsE (k := 0) rfl rfl trivial rfl) (.cons (.pv _) .nil))
end Go.AM

set_option linter.all false
set_option maxRecDepth 20000
set_option maxHeartbeats 4000000
namespace Go.AM
open Go.Proofs

/-! ### The payload and the recursive places -/
def pos (q : Bool) : List Bool → Nat → List Nat
  | [], _ => []
  | b :: bs, i => if (b == q) = true then i :: pos q bs (i + 1) else pos q bs (i + 1)
theorem pos_nil (q : Bool) (i : Nat) : pos q [] i = [] := rfl
theorem pos_cons (q b : Bool) (bs : List Bool) (i : Nat) : pos q (b :: bs) i = if (b == q) = true then i :: pos q bs (i + 1) else pos q bs (i + 1) := rfl
def natsP (l : List Nat) : List PV := l.map fun n : Nat => PV.int .i64 (n : Int)
theorem natsP_nil : natsP [] = [] := rfl
theorem natsP_cons (n : Nat) (l : List Nat) : natsP (n :: l) = .int .i64 n :: natsP l := rfl
theorem natsP_len (l : List Nat) : (natsP l).length = l.length := by simp [natsP]
theorem pos_len (q : Bool) : ∀ (bs : List Bool) (i : Nat), (pos q bs i).length ≤ bs.length
  | [], i => by simp [pos_nil]
  | b :: bs, i => by
    rw [pos_cons]
    have := pos_len q bs (i + 1)
    split <;> simp only [List.length_cons] <;> omega
theorem pos_lt (q : Bool) : ∀ (bs : List Bool) (i k : Nat), k ∈ pos q bs i → i ≤ k ∧ k < i + bs.length
  | [], i, k, h => by simp [pos_nil] at h
  | b :: bs, i, k, h => by
    rw [pos_cons] at h
    split at h
    · rcases List.mem_cons.1 h with rfl | h
      · simp only [List.length_cons]; omega
      · have := pos_lt q bs (i + 1) k h
        simp only [List.length_cons]; omega
    · have := pos_lt q bs (i + 1) k h
      simp only [List.length_cons]; omega
/-- What stands at the payload places. -/
theorem picks_pos : ∀ (fs : List V) (bs : List Bool) (l : List V) (i : Nat), (∀ j, fs[j]? = l[i + j]?) → fs.length = bs.length → (pos false bs i).filterMap (fun k => l[k]?) = picks fs bs
  | [], [], l, i, _, _ => by rw [pos_nil, picks_nil]; rfl
  | [], b :: bs, l, i, _, h => by simp at h
  | f :: fs, [], l, i, _, h => by simp at h
  | f :: fs, b :: bs, l, i, hj, h => by
    have ih := picks_pos fs bs l (i + 1) (fun j => by have := hj (j + 1); rw [show i + 1 + j = i + (j + 1) by omega, ← this]; simp) (by simpa using h)
    have h0 := hj 0
    rw [pos_cons, picks_cons]
    cases b with
    | true => rw [if_neg (by simp), if_pos rfl]; exact ih
    | false =>
      rw [if_pos (by simp), if_neg (by simp), List.filterMap_cons]
      have : l[i]? = some f := by simpa using h0.symm
      rw [this, ih]
attribute [irreducible] pos natsP
theorem payload_r {D : List Dt} (hD : DOK D) (tn : Int) (ts : List V) (ht : (V.mk 5 tn ts).cnt ≤ 1000) (c : Int) {fs : List V} (hf : fieldsS D (.mk 5 tn ts) c = some fs) :
    Det Tryz.prog 62 [.lst 3 (Dt.pvL D), (V.mk 5 tn ts).pv, .int .i64 c] (.tuple [.lst 1 (natsP (pos false (recS D tn c) 0)), .lst 1 (natsP (pos true (recS D tn c) 0)), .bool true]) := by
  have hF := rfields_det hD (.mk 5 tn ts) ht c
  have hRc := rrec_det hD tn c
  have hrl := recS_len hD tn c
  rw [V.pv_mk, hf, optP_some, List.nil_append] at hF
  rw [V.pv_mk]
  generalize recS D tn c = bs at hRc hrl
  generalize hP : natsP (pos false bs 0) = P
  generalize hQ : natsP (pos true bs 0) = Q
  refine det_of_vc' (E := S.E 0) rfl fol Tryz.func62 rfl rfl (slots := [6, 7, 8]) rfl rfl fun hw => ?_
  set_option smartUnfolding false in conv => whnf
  refine acall_det (ps := [.lst 3 (Dt.pvL D), V.ag 5 tn ts, .int .i64 c]) hF ?_
  set_option smartUnfolding false in conv => whnf
  refine acall_det (ps := [.lst 3 (Dt.pvL D), .int .i64 tn, .int .i64 c]) hRc ?_
  set_option smartUnfolding false in conv => whnf
  have hl : bs.length ≤ 9223372036854775807 := by omega
  refine vloop_intro (σ := Nat × List PV × List PV) (fun x => x.1 ≤ bs.length ∧ (x.2.1 ++ natsP (pos false (bs.drop x.1) x.1) = P ∧ x.2.2 ++ natsP (pos true (bs.drop x.1) x.1) = Q) ∧ x.2.1.length ≤ x.1 ∧ x.2.2.length ≤ x.1)
    (fun x => [(11, lsV 0 x.2.1), (12, lsV 1 x.2.2), (28, .pv (.lst 1 (boolsP bs))), (29, .pv (.int .i64 (boolsP bs).length)), (30, .pv (.int .i64 x.1))])
    (fun x => [lsB 3 1 x.2.1, lsB 3 1 x.2.2]) (fun x => bs.length - x.1) (0, [], []) ⟨by simp, ⟨by simpa using hP, by simpa using hQ⟩, by simp, by simp⟩ (weak_ren [1, 2] 3 (by kernel_rfl) (blkD (blkD trivial)) ⟨(by kernel_rfl), (by kernel_rfl), (by kernel_rfl), (by kernel_rfl), (by kernel_rfl), trivial⟩) ?_
  rintro ⟨i, ps, qs⟩ ⟨hi, ⟨hs1, hs2⟩, hl1, hl2⟩
  simp only at hi hs1 hs2 hl1 hl2
  set_option smartUnfolding false in conv => whnf
  refine br_intro (fun h => ?_) (fun h => ?_) <;> set_option smartUnfolding false in conv => whnf
  · replace h : i < bs.length := by have := dT h; rw [boolsP_len] at this; simpa using this
    obtain ⟨b, hb0, hb1, hb2⟩ := drop_bool (l := bs) (i := i) h
    rw [hb2, pos_cons] at hs1 hs2
    refine ⟨.bool b, ⟨by simp, by simpa using hb1⟩, ?_⟩
    set_option smartUnfolding false in conv => whnf
    refine br_intro (fun g => ?_) (fun g => ?_) <;> set_option smartUnfolding false in conv => whnf
    · subst g
      rw [if_neg (by simp)] at hs1
      rw [if_pos (by simp), natsP_cons] at hs2
      refine ⟨Nat.le_refl 1, ?_⟩
      set_option smartUnfolding false in conv => whnf
      cases qs with
      | nil =>
        set_option smartUnfolding false in conv => whnf
        refine ⟨⟨⟨by decide, by decide⟩, by decide⟩, ?_⟩
        set_option smartUnfolding false in conv => whnf
        exact ⟨(i + 1, ps, [] ++ [.int .i64 i]), ⟨h, ⟨hs1, by rw [← hs2]; simp⟩, by simp only; omega, by simp⟩, weak_ren [0, 3] 4 (by kernel_rfl) (blkR_ls (by kernel_rfl) (blk (by kernel_rfl) trivial)) ⟨sLs (by kernel_rfl), (by kernel_rfl), (by kernel_rfl), (by kernel_rfl), sUp h hl, trivial⟩, subUp h⟩
      | cons p qs =>
        set_option smartUnfolding false in conv => whnf
        simp only [List.length_cons] at hl2
        refine ⟨⟨⟨by simp [pvs_len], by simp only [Nat.succ_eq_add_one]; omega⟩, by rw [show ((S.E 0).te 3).bytes = 8 from rfl]; simp only [Nat.succ_eq_add_one]; omega⟩, ?_⟩
        set_option smartUnfolding false in conv => whnf
        exact ⟨(i + 1, ps, (p :: qs) ++ [.int .i64 i]), ⟨h, ⟨hs1, by rw [← hs2]; simp⟩, by simp only; omega, by simp; omega⟩, weak_ren [0, 3] 4 (by kernel_rfl) (blkR_ls (by kernel_rfl) (blkR_snoc (by kernel_rfl) trivial)) ⟨sLs (by kernel_rfl), by simp only [lsV_snoc]; kernel_rfl, (by kernel_rfl), (by kernel_rfl), sUp h hl, trivial⟩, subUp h⟩
    · subst g
      rw [if_pos (by simp), natsP_cons] at hs1
      rw [if_neg (by simp)] at hs2
      refine ⟨Nat.le_refl 1, ?_⟩
      set_option smartUnfolding false in conv => whnf
      cases ps with
      | nil =>
        set_option smartUnfolding false in conv => whnf
        refine ⟨⟨⟨by decide, by decide⟩, by decide⟩, ?_⟩
        set_option smartUnfolding false in conv => whnf
        exact ⟨(i + 1, [] ++ [.int .i64 i], qs), ⟨h, ⟨by rw [← hs1]; simp, hs2⟩, by simp, by simp only; omega⟩, weak_ren [3, 1] 4 (by kernel_rfl) (blk (by kernel_rfl) (blkR_ls (by kernel_rfl) trivial)) ⟨(by kernel_rfl), sLs (by kernel_rfl), (by kernel_rfl), (by kernel_rfl), sUp h hl, trivial⟩, subUp h⟩
      | cons p ps =>
        set_option smartUnfolding false in conv => whnf
        simp only [List.length_cons] at hl1
        refine ⟨⟨⟨by simp [pvs_len], by simp only [Nat.succ_eq_add_one]; omega⟩, by rw [show ((S.E 0).te 3).bytes = 8 from rfl]; simp only [Nat.succ_eq_add_one]; omega⟩, ?_⟩
        set_option smartUnfolding false in conv => whnf
        exact ⟨(i + 1, (p :: ps) ++ [.int .i64 i], qs), ⟨h, ⟨by rw [← hs1]; simp, hs2⟩, by simp; omega, by simp only; omega⟩, weak_ren [3, 1] 4 (by kernel_rfl) (blkR_snoc (by kernel_rfl) (blkR_ls (by kernel_rfl) trivial)) ⟨by simp only [lsV_snoc]; kernel_rfl, sLs (by kernel_rfl), (by kernel_rfl), (by kernel_rfl), sUp h hl, trivial⟩, subUp h⟩
  · replace h : ¬ i < bs.length := by have := dF h; rw [boolsP_len] at this; simpa using this
    rw [List.drop_of_length_le (by omega), pos_nil, natsP_nil, List.append_nil] at hs1 hs2
    subst hs1 hs2
    cases ps with
    | nil =>
      cases qs with
      | nil =>
        set_option smartUnfolding false in conv => whnf
        exact .le (.tuple (.cons (.nils 1) (.cons (.nils 1) (.cons (.refl _) .nil))))
      | cons q qs =>
        set_option smartUnfolding false in conv => whnf
        exact .tup (.cons (.le (.nils 1)) (.cons (rd_lsE (k := 1) rfl rfl trivial rfl) (.cons (.pv _) .nil)))
    | cons p ps =>
      cases qs with
      | nil =>
        set_option smartUnfolding false in conv => whnf
        exact .tup (.cons (rd_lsE (k := 0) rfl rfl trivial rfl) (.cons (.le (.nils 1)) (.cons (.pv _) .nil)))
      | cons q qs =>
        set_option smartUnfolding false in conv => whnf
        exact .tup (.cons (rd_lsE (k := 0) rfl rfl trivial rfl) (.cons (rd_lsE (k := 1) rfl rfl trivial rfl) (.cons (.pv _) .nil)))
end Go.AM

set_option linter.all false
set_option maxRecDepth 20000
set_option maxHeartbeats 4000000
namespace Go.AM
open Go.Proofs

theorem natsP_get {l : List Nat} {i : Nat} (h : i < l.length) : ∃ k, k ∈ l ∧ (natsP l)[i]? = some (.int .i64 (k : Nat)) ∧ l.drop i = k :: l.drop (i + 1) :=
  ⟨l[i], by simp, by unfold natsP; simp [h], List.drop_eq_getElem_cons h⟩
theorem natsP_len' (l : List Nat) : (natsP l).length = l.length := by unfold natsP; simp
theorem payTypes_det {D : List Dt} (hD : DOK D) (tn : Int) (ts : List V) (ht : (V.mk 5 tn ts).cnt ≤ 1000) (c : Int) : Det Tryz.prog 74 [.lst 3 (Dt.pvL D), (V.mk 5 tn ts).pv, .int .i64 c] (optP [] (payS D (.mk 5 tn ts) c)) := by
  have hF := rfields_det hD (.mk 5 tn ts) ht c
  have hP := fun fs hf => payload_r hD tn ts ht c (fs := fs) hf
  rw [V.pv_mk] at hF hP
  rw [V.pv_mk]
  refine det_of_vc' (E := S.E 0) rfl fol Tryz.func74 rfl rfl (slots := [6, 7]) rfl rfl fun hw => ?_
  set_option smartUnfolding false in conv => whnf
  cases hf : fieldsS D (.mk 5 tn ts) c with
  | none =>
    rw [hf, optP_none] at hF
    rw [payS_none hf, optP_none]
    refine acall_det (ps := [.lst 3 (Dt.pvL D), V.ag 5 tn ts, .int .i64 c]) hF ?_
    set_option smartUnfolding false in conv => whnf
    exact rd_no
  | some fs =>
    obtain ⟨x, cn, hx, hcn, hfl, hrl⟩ := rec_len hf
    have hal := hD.args x hx cn hcn
    have hP := hP fs hf
    rw [hf, optP_some, List.nil_append] at hF
    have hR : PV.tuple [.lst 3 (V.pvL (payF D tn ts c fs)), .bool true] = optP [] (payS D (.mk 5 tn ts) c) := by rw [payS_some hf, optP_some, List.nil_append]; rfl
    rw [← hR]
    unfold payF
    have hpk := picks_pos fs (recS D tn c) fs 0 (fun j => by rw [Nat.zero_add]) (by omega)
    have hlt := fun k hk => (pos_lt false (recS D tn c) 0 k hk).2
    have hnl := pos_len false (recS D tn c) 0
    rw [← hpk]
    generalize pos false (recS D tn c) 0 = ns at hP hlt hnl
    generalize hT : V.pvL (ns.filterMap fun k => fs[k]?) = T
    refine acall_det (ps := [.lst 3 (Dt.pvL D), V.ag 5 tn ts, .int .i64 c]) hF ?_
    set_option smartUnfolding false in conv => whnf
    refine acall_det (ps := [.lst 3 (Dt.pvL D), V.ag 5 tn ts, .int .i64 c]) hP ?_
    set_option smartUnfolding false in conv => whnf
    have hl : ns.length ≤ 9223372036854775807 := by omega
    refine vloop_intro (σ := Nat × List PV) (fun x => x.1 ≤ ns.length ∧ x.2 ++ V.pvL ((ns.drop x.1).filterMap fun k => fs[k]?) = T ∧ x.2.length ≤ x.1) (fun x => [(8, .pv (.lst 3 (V.pvL fs))), (13, lsV 0 x.2), (33, .pv (.lst 1 (natsP ns))), (34, .pv (.int .i64 (natsP ns).length)), (35, .pv (.int .i64 x.1))])
      (fun x => [lsB 25 3 x.2]) (fun x => ns.length - x.1) (0, []) ⟨by simp, by simpa using hT, Nat.le_refl _⟩ (weak_ren [1] 2 (by kernel_rfl) (blkD trivial) ⟨(by kernel_rfl), (by kernel_rfl), (by kernel_rfl), (by kernel_rfl), (by kernel_rfl), trivial⟩) ?_
    rintro ⟨i, ps⟩ ⟨hi, hs, hpl⟩
    simp only at hi hs hpl
    set_option smartUnfolding false in conv => whnf
    refine br_intro (fun h => ?_) (fun h => ?_) <;> set_option smartUnfolding false in conv => whnf
    · replace h : i < ns.length := by have := dT h; rw [natsP_len'] at this; simpa using this
      obtain ⟨m, hm, hm1, hm2⟩ := natsP_get h
      have hmf : m < fs.length := by have := hlt m hm; omega
      refine V.get_elim hmf fun k1 n1 ks1 hv hg hg0 hd => ?_
      rw [hm2, List.filterMap_cons, hg0] at hs
      simp only at hs
      rw [V.pvL_cons, V.pv_mk] at hs
      refine ⟨.int .i64 m, ⟨by simp, by simpa using hm1⟩, ?_⟩
      set_option smartUnfolding false in conv => whnf
      refine ⟨V.ag k1 n1 ks1, ⟨by simp, by simpa using hg⟩, ?_⟩
      set_option smartUnfolding false in conv => whnf
      refine ⟨Nat.le_refl 1, ?_⟩
      set_option smartUnfolding false in conv => whnf
      cases ps with
      | nil =>
        set_option smartUnfolding false in conv => whnf
        refine ⟨⟨⟨by decide, by decide⟩, by decide⟩, ?_⟩
        set_option smartUnfolding false in conv => whnf
        exact ⟨(i + 1, [] ++ [V.ag k1 n1 ks1]), ⟨h, by rw [← hs]; simp, by simp⟩, weak_ren [2] 3 (by kernel_rfl) (blk (by kernel_rfl) trivial) ⟨(by kernel_rfl), (by kernel_rfl), (by kernel_rfl), (by kernel_rfl), sUp h hl, trivial⟩, subUp h⟩
      | cons p ps =>
        set_option smartUnfolding false in conv => whnf
        simp only [List.length_cons] at hpl
        refine ⟨⟨⟨by simp [pvs_len], by simp only [Nat.succ_eq_add_one]; omega⟩, by rw [show ((S.E 0).te 25).bytes = 40 from rfl]; simp only [Nat.succ_eq_add_one]; omega⟩, ?_⟩
        set_option smartUnfolding false in conv => whnf
        exact ⟨(i + 1, (p :: ps) ++ [V.ag k1 n1 ks1]), ⟨h, by rw [← hs]; simp, by simp; omega⟩, weak_ren [2] 3 (by kernel_rfl) (blkR_snoc (by kernel_rfl) trivial) ⟨(by kernel_rfl), by simp only [lsV_snoc]; kernel_rfl, (by kernel_rfl), (by kernel_rfl), sUp h hl, trivial⟩, subUp h⟩
    · replace h : ¬ i < ns.length := by have := dF h; rw [natsP_len'] at this; simpa using this
      rw [List.drop_of_length_le (by omega), List.filterMap_nil, V.pvL_nil, List.append_nil] at hs
      subst hs
      cases ps with
      | nil =>
        set_option smartUnfolding false in conv => whnf
        exact .le (.tuple (.cons (.nils 3) (.cons (.refl _) .nil)))
      | cons p ps =>
        set_option smartUnfolding false in conv => whnf
        exact .tup (.cons (rd_lsE (k := 0) rfl rfl trivial rfl) (.cons (.pv _) .nil))

/-! ### The sum of the degrees -/
def totP (o : Option Int) : PV := .tuple [.int .i64 (o.getD 0), .bool o.isSome]
theorem totP_none : totP Option.none = .tuple [.int .i64 0, .bool false] := rfl
theorem totP_some (d : Int) : totP (some d) = .tuple [.int .i64 d, .bool true] := rfl
def Ix.fst (D : List Dt) : Ix → V → Int
  | .mk n ks, .mk tk tn ts => if tk = 6 then (Ix.degL D 0 ks ts).getD 0 else if tk = 7 then n else if tk = 5 then (Ix.deg D (.mk n ks) (.mk tk tn ts)).getD 0 else 0
theorem Ix.fst_mk (D : List Dt) (n : Int) (ks : List Ix) (tk tn : Int) (ts : List V) : Ix.fst D (.mk n ks) (.mk tk tn ts) = if tk = 6 then (Ix.degL D 0 ks ts).getD 0 else if tk = 7 then n else if tk = 5 then (Ix.deg D (.mk n ks) (.mk tk tn ts)).getD 0 else 0 := rfl
theorem Ix.fst_some {D : List Dt} {i : Ix} {t : V} {d : Int} (h : Ix.deg D i t = some d) : Ix.fst D i t = d := by
  obtain ⟨n, ks⟩ := i
  obtain ⟨tk, tn, ts⟩ := t
  rw [Ix.fst_mk]
  have h' := h
  rw [Ix.deg_mk] at h
  split at h
  · rename_i h1
    rw [if_pos h1]
    split at h
    · rw [h]; rfl
    · cases h
  · rename_i h1
    rw [if_neg h1]
    split at h
    · rename_i h2
      rw [if_pos h2]
      split at h
      · cases h; rfl
      · cases h
    · rename_i h2
      rw [if_neg h2]
      split at h
      · rename_i h3
        rw [if_pos h3, h']; rfl
      · rename_i h3
        rw [if_neg h3]
        split at h
        · cases h; rfl
        · cases h
def degP (D : List Dt) (i : Ix) (t : V) : PV := .tuple [.int .i64 (Ix.fst D i t), .bool (Ix.deg D i t).isSome]
theorem degP_none {D : List Dt} {i : Ix} {t : V} (h : Ix.deg D i t = Option.none) : degP D i t = .tuple [.int .i64 (Ix.fst D i t), .bool false] := by unfold degP; rw [h]; rfl
theorem degP_some {D : List Dt} {i : Ix} {t : V} {d : Int} (h : Ix.deg D i t = some d) : degP D i t = .tuple [.int .i64 d, .bool true] := by unfold degP; rw [h, Ix.fst_some h]; rfl
attribute [irreducible] Ix.fst degP
theorem total_of (D : List Dt) (l : List Ix) (us : List V) (hq : ∀ (i : Nat) e u, l[i]? = some e → us[i]? = some u → Det Tryz.prog 58 [.lst 3 (Dt.pvL D), u.pv, e.pv] (degP D e u)) :
    Det Tryz.prog 86 [.lst 3 (Dt.pvL D), .lst 3 (V.pvL us), .lst 2 (Ix.pvL l)] (totP (Ix.degL D 0 l us)) := by
  generalize hR : Ix.degL D 0 l us = o
  refine det_of_vc' (E := S.E 0) rfl fol Tryz.func86 rfl rfl (slots := [6, 7]) rfl rfl fun hw => ?_
  have hl : l.length ≤ 9223372036854775807 := by
    have := hw.2.2.1
    have := this.1
    rwa [Ix.pvL_len] at this
  set_option smartUnfolding false in conv => whnf
  refine br_intro (fun h0 => ?_) (fun h0 => ?_) <;> set_option smartUnfolding false in conv => whnf
  · have h0 : ¬ (us.length : Int) = l.length := by rw [V.pvL_len, Ix.pvL_len] at h0; simpa using h0
    cases o with
    | none => rw [totP_none]; exact rdP (.refl _)
    | some d => have := Ix.degL_len hR; omega
  have h0 : (us.length : Int) = l.length := by rw [V.pvL_len, Ix.pvL_len] at h0; simpa using h0
  refine vloop_intro (σ := Nat × Int) (fun x => x.1 ≤ l.length ∧ Ix.degL D x.2 (l.drop x.1) (us.drop x.1) = o ∧ 0 ≤ x.2 ∧ x.2 ≤ 6) (fun x => [(0, .pv (.lst 3 (Dt.pvL D))), (1, .pv (.lst 3 (V.pvL us))), (8, .pv (.int .i64 x.2)), (18, .pv (.lst 2 (Ix.pvL l))), (19, .pv (.int .i64 (Ix.pvL l).length)), (20, .pv (.int .i64 x.1))])
    (fun _ => []) (fun x => l.length - x.1) (0, 0) ⟨by simp, by simpa using hR, by simp, by simp⟩ (weak_bare rfl ⟨(by kernel_rfl), (by kernel_rfl), (by kernel_rfl), (by kernel_rfl), (by kernel_rfl), (by kernel_rfl), trivial⟩) ?_
  rintro ⟨i, a⟩ ⟨hi, hs, ha1, ha2⟩
  simp only at hi hs ha1 ha2
  set_option smartUnfolding false in conv => whnf
  refine br_intro (fun h => ?_) (fun h => ?_) <;> set_option smartUnfolding false in conv => whnf
  · replace h : i < l.length := by have := dT h; rw [Ix.pvL_len] at this; simpa using this
    refine Ix.get_elim h fun n1 es1 hv hg hg0 hd => ?_
    refine V.get_elim (l := us) (i := i) (by omega) fun k2 n2 ks2 hv2 hg2 hg02 hd2 => ?_
    have hdet := hq i _ _ hg0 hg02
    rw [Ix.pv_mk, V.pv_mk] at hdet
    rw [hd, hd2, Ix.degL_cons] at hs
    refine ⟨Ix.ag n1 es1, ⟨by simp, by simpa using hg⟩, ?_⟩
    set_option smartUnfolding false in conv => whnf
    refine ⟨V.ag k2 n2 ks2, ⟨by simp, by simpa using hg2⟩, ?_⟩
    set_option smartUnfolding false in conv => whnf
    cases hdg : Ix.deg D (.mk n1 es1) (.mk k2 n2 ks2) with
    | none =>
      rw [hdg] at hs
      simp only at hs
      subst hs
      rw [degP_none hdg] at hdet
      refine acall_det (ps := [.lst 3 (Dt.pvL D), V.ag k2 n2 ks2, Ix.ag n1 es1]) hdet ?_
      set_option smartUnfolding false in conv => whnf
      rw [totP_none]
      exact rdP (.refl _)
    | some d =>
      have hr := Ix.deg_rng D _ _ d hdg
      rw [hdg] at hs
      simp only at hs
      rw [degP_some hdg] at hdet
      refine acall_det (ps := [.lst 3 (Dt.pvL D), V.ag k2 n2 ks2, Ix.ag n1 es1]) hdet ?_
      set_option smartUnfolding false in conv => whnf
      have ew : IntKind.wrap .i64 (a + d) = a + d := wrapI (by omega) (by omega)
      refine br_intro (fun g => ?_) (fun g => ?_) <;> set_option smartUnfolding false in conv => whnf
      · have g := dT g
        rw [ew] at g
        rw [if_pos g] at hs
        subst hs
        rw [totP_none]
        exact rdP (.refl _)
      · have g := dF g
        rw [ew] at g
        rw [if_neg g] at hs
        exact ⟨(i + 1, a + d), ⟨h, hs, by simp only; omega, by simp only; omega⟩, weak_bare rfl ⟨(by kernel_rfl), (by kernel_rfl), sI ew, (by kernel_rfl), (by kernel_rfl), sUp h hl, trivial⟩, subUp h⟩
  · replace h : ¬ i < l.length := by have := dF h; rw [Ix.pvL_len] at this; simpa using this
    rw [List.drop_of_length_le (by omega), List.drop_of_length_le (by omega), Ix.degL_nil] at hs
    subst hs
    rw [totP_some]
    exact rdP (.refl _)
end Go.AM

set_option linter.all false
set_option maxRecDepth 20000
set_option maxHeartbeats 8000000
namespace Go.AM
open Go.Proofs

theorem rdIB {S : Nat → Prop} {H : Heap} {n : Int} {a b : Bool} (h : a = b) : Rd S H (.pv (.tuple [.int .i64 n, .bool a])) (.tuple [.int .i64 n, .bool b]) := h ▸ Rd.pv _
theorem degree_det {D : List Dt} (hD : DOK D) (hv : dvalid D = true) (i : Ix) : ∀ t, Good D t → Det Tryz.prog 58 [.lst 3 (Dt.pvL D), t.pv, i.pv] (degP D i t) := by
  refine Ix.rec2 (p := fun i => ∀ t, Good D t → Det Tryz.prog 58 [.lst 3 (Dt.pvL D), t.pv, i.pv] (degP D i t)) (fun n ks ih ih2 t hg => ?_) i
  obtain ⟨tk, tn, ts⟩ := t
  have hT : ∀ us : List V, (∀ u ∈ us, Good D u) → Det Tryz.prog 86 [.lst 3 (Dt.pvL D), .lst 3 (V.pvL us), .lst 2 (Ix.pvL ks)] (totP (Ix.degL D 0 ks us)) := fun us hus => total_of D ks us fun i e u h1 h2 => ih e (List.mem_of_getElem? h1) u (hus u (List.mem_of_getElem? h2))
  have hT2 : ∀ c es, Ix.mk c es ∈ ks → ∀ us : List V, (∀ u ∈ us, Good D u) → Det Tryz.prog 86 [.lst 3 (Dt.pvL D), .lst 3 (V.pvL us), .lst 2 (Ix.pvL es)] (totP (Ix.degL D 0 es us)) := fun c es he us hus => total_of D es us fun i e u h1 h2 => ih2 c es he e (List.mem_of_getElem? h1) u (hus u (List.mem_of_getElem? h2))
  clear ih ih2
  generalize hR : Ix.deg D (.mk n ks) (.mk tk tn ts) = o
  rw [Ix.deg_mk] at hR
  rw [V.pv_mk, Ix.pv_mk]
  refine det_of_vc' (E := S.E 0) rfl fol Tryz.func58 rfl rfl (slots := [6, 7]) rfl rfl fun hw => ?_
  have hl : ks.length ≤ 9223372036854775807 := by
    have := hw.2.2.1
    exact Ix.lenle this
  set_option smartUnfolding false in conv => whnf
  refine br_intro (fun h1 => ?_) (fun h1 => ?_) <;> set_option smartUnfolding false in conv => whnf
  · have h1 : tk = 6 := by simpa using h1
    rw [if_pos h1] at hR
    have hdet := hT ts fun u hu => hg.kid hu
    have hf : Ix.fst D (.mk n ks) (.mk tk tn ts) = (Ix.degL D 0 ks ts).getD 0 := by rw [Ix.fst_mk, if_pos h1]
    have ho : degP D (.mk n ks) (.mk tk tn ts) = .tuple [.int .i64 ((Ix.degL D 0 ks ts).getD 0), .bool o.isSome] := by unfold degP; rw [hf, Ix.deg_mk, if_pos h1, hR]
    rw [ho]
    cases hL : Ix.degL D 0 ks ts with
    | none =>
      rw [hL, totP_none] at hdet
      have : o = Option.none := by rw [← hR, hL]; split <;> rfl
      subst this
      refine acall_det (ps := [.lst 3 (Dt.pvL D), .lst 3 (V.pvL ts), .lst 2 (Ix.pvL ks)]) hdet ?_
      set_option smartUnfolding false in conv => whnf
      exact rdP (.refl _)
    | some d =>
      rw [hL, totP_some] at hdet
      have e : o.isSome = decide (n = 0) := by
        rw [← hR, hL]
        by_cases hn : n = 0
        · rw [if_pos hn, decide_eq_true hn]; rfl
        · rw [if_neg hn, decide_eq_false hn]; rfl
      rw [e]
      refine acall_det (ps := [.lst 3 (Dt.pvL D), .lst 3 (V.pvL ts), .lst 2 (Ix.pvL ks)]) hdet ?_
      set_option smartUnfolding false in conv => whnf
      exact rdP (.refl _)
  have h1 : ¬ tk = 6 := by simpa using h1
  rw [if_neg h1] at hR
  refine br_intro (fun h2 => ?_) (fun h2 => ?_) <;> set_option smartUnfolding false in conv => whnf
  · have h2 : tk = 7 := by simpa using h2
    rw [if_pos h2] at hR
    have hf : Ix.fst D (.mk n ks) (.mk tk tn ts) = n := by rw [Ix.fst_mk, if_neg h1, if_pos h2]
    have ho : degP D (.mk n ks) (.mk tk tn ts) = .tuple [.int .i64 n, .bool o.isSome] := by unfold degP; rw [hf, Ix.deg_mk, if_neg h1, if_pos h2, hR]
    rw [ho]
    refine br_intro (fun g1 => ?_) (fun g1 => ?_) <;> set_option smartUnfolding false in conv => whnf
    · have g1 := dT g1
      refine br_intro (fun g2 => ?_) (fun g2 => ?_) <;> set_option smartUnfolding false in conv => whnf
      · have g2 := dT g2
        refine rdIB ?_
        rw [Ix.pvL_len, ← hR]
        by_cases g3 : ks.length = 0
        · rw [if_pos ⟨g1, g2, g3⟩, decide_eq_true (by omega)]; rfl
        · rw [if_neg (fun h => g3 h.2.2), decide_eq_false (by omega)]; rfl
      · have g2 := dF g2
        rw [if_neg (fun h => g2 h.2.1)] at hR
        exact rdIB (by rw [← hR]; rfl)
    · have g1 := dF g1
      rw [if_neg (fun h => g1 h.1)] at hR
      exact rdIB (by rw [← hR]; rfl)
  have h2 : ¬ tk = 7 := by simpa using h2
  rw [if_neg h2] at hR
  refine br_intro (fun h3 => ?_) (fun h3 => ?_) <;> set_option smartUnfolding false in conv => whnf
  · have h3 : tk = 5 := by simpa using h3
    subst h3
    rw [if_pos rfl] at hR
    have ho : degP D (.mk n ks) (.mk 5 tn ts) = totP o := by
      have : Ix.deg D (.mk n ks) (.mk 5 tn ts) = o := by rw [Ix.deg_mk, if_neg h1, if_neg h2, if_pos rfl, hR]
      unfold degP
      rw [Ix.fst_mk, if_neg h1, if_neg h2, if_pos rfl, this]; rfl
    rw [ho]
    refine br_intro (fun g1 => ?_) (fun g1 => ?_) <;> set_option smartUnfolding false in conv => whnf
    · have g1 : ¬ n = 0 := by simpa using g1
      rw [if_neg (fun h => g1 h.1)] at hR
      subst hR
      rw [totP_none]
      exact rdP (.refl _)
    have g1 : n = 0 := by simpa using g1
    refine br_intro (fun g2 => ?_) (fun g2 => ?_) <;> set_option smartUnfolding false in conv => whnf
    · have g2 := dT g2
      rw [Ix.pvL_len] at g2
      rw [if_neg (fun h => by have := h.2; omega)] at hR
      subst hR
      rw [totP_none]
      exact rdP (.refl _)
    have g2 := dF g2
    rw [Ix.pvL_len] at g2
    rw [if_pos ⟨g1, by omega⟩] at hR
    refine vloop_intro (σ := Nat × Int) (fun x => x.1 ≤ ks.length ∧ Ix.degE D (.mk 5 tn ts) x.2 (ks.drop x.1) = o ∧ 0 ≤ x.2 ∧ x.2 ≤ 6) (fun x => [(0, .pv (.lst 3 (Dt.pvL D))), (4, .bp 0 0), (5, .bp 1 0), (10, .pv (.int .i64 x.2)), (66, .pv (.lst 2 (Ix.pvL ks))), (67, .pv (.int .i64 (Ix.pvL ks).length)), (68, .pv (.int .i64 x.1))])
      (fun _ => [.box 25 [.pv (.int .i64 5), .pv (.int .i64 tn), .pv (.lst 3 (V.pvL ts))], .box 28 [.pv (.int .i64 n), .pv (.lst 2 (Ix.pvL ks))]]) (fun x => ks.length - x.1) (0, 0) ⟨by simp, by simpa using hR, by simp, by simp⟩ (weak_sub ⟨(by kernel_rfl), (by kernel_rfl), (by kernel_rfl), (by kernel_rfl), (by kernel_rfl), (by kernel_rfl), (by kernel_rfl), trivial⟩) ?_
    rintro ⟨i, a⟩ ⟨hi, hs, ha1, ha2⟩
    simp only at hi hs ha1 ha2
    set_option smartUnfolding false in conv => whnf
    refine br_intro (fun h => ?_) (fun h => ?_) <;> set_option smartUnfolding false in conv => whnf
    · replace h : i < ks.length := by have := dT h; rw [Ix.pvL_len] at this; simpa using this
      refine Ix.get_elim h fun c1 es1 hv1 hg1 hg0 hd => ?_
      have hpay := payloads_t hD tn ts hg c1
      rw [V.pv_mk] at hpay
      rw [hd, Ix.degE_cons, Ix.degK_mk] at hs
      refine ⟨Ix.ag c1 es1, ⟨by simp, by simpa using hg1⟩, ?_⟩
      set_option smartUnfolding false in conv => whnf
      cases hp : payS D (.mk 5 tn ts) c1 with
      | none =>
        rw [hp, optP_none] at hpay
        rw [hp] at hs
        simp only at hs
        subst hs
        refine acall_det (ps := [.lst 3 (Dt.pvL D), V.ag 5 tn ts, .int .i64 c1]) hpay ?_
        set_option smartUnfolding false in conv => whnf
        rw [totP_none]
        exact rdP (.refl _)
      | some us =>
        rw [hp, optP_some, List.nil_append] at hpay
        rw [hp] at hs
        simp only at hs
        have htot := hT2 c1 es1 hv1 us (payS_good hv hg hp)
        refine acall_det (ps := [.lst 3 (Dt.pvL D), V.ag 5 tn ts, .int .i64 c1]) hpay ?_
        set_option smartUnfolding false in conv => whnf
        cases hL : Ix.degL D 0 es1 us with
        | none =>
          rw [hL, totP_none] at htot
          rw [hL] at hs
          simp only at hs
          subst hs
          refine acall_det (ps := [.lst 3 (Dt.pvL D), .lst 3 (V.pvL us), .lst 2 (Ix.pvL es1)]) htot ?_
          set_option smartUnfolding false in conv => whnf
          rw [totP_none]
          exact rdP (.refl _)
        | some d =>
          have hr := Ix.degL_rng D es1 us 0 d hL (by omega) (by omega)
          rw [hL, totP_some] at htot
          rw [hL] at hs
          simp only at hs
          refine acall_det (ps := [.lst 3 (Dt.pvL D), .lst 3 (V.pvL us), .lst 2 (Ix.pvL es1)]) htot ?_
          set_option smartUnfolding false in conv => whnf
          have ew1 : IntKind.wrap .i64 (1 + d) = 1 + d := wrapI (by omega) (by omega)
          have ew : IntKind.wrap .i64 (a + IntKind.wrap .i64 (1 + d)) = a + (1 + d) := by rw [ew1]; exact wrapI (by omega) (by omega)
          refine br_intro (fun g => ?_) (fun g => ?_) <;> set_option smartUnfolding false in conv => whnf
          · have g := dT g
            rw [ew] at g
            rw [if_pos g] at hs
            subst hs
            rw [totP_none]
            exact rdP (.refl _)
          · have g := dF g
            rw [ew] at g
            rw [if_neg g] at hs
            exact ⟨(i + 1, a + (1 + d)), ⟨h, hs, by simp only; omega, by simp only; omega⟩, weak_ren [0, 1] 3 (by kernel_rfl) (blk (by kernel_rfl) (blk (by kernel_rfl) trivial)) ⟨(by kernel_rfl), (by kernel_rfl), (by kernel_rfl), sI ew, (by kernel_rfl), (by kernel_rfl), sUp h hl, trivial⟩, subUp h⟩
    · replace h : ¬ i < ks.length := by have := dF h; rw [Ix.pvL_len] at this; simpa using this
      rw [List.drop_of_length_le (by omega), Ix.degE_nil] at hs
      subst hs
      rw [totP_some]
      exact rdP (.refl _)
  have h3 : ¬ tk = 5 := by simpa using h3
  rw [if_neg h3] at hR
  have ho : degP D (.mk n ks) (.mk tk tn ts) = .tuple [.int .i64 0, .bool o.isSome] := by unfold degP; rw [Ix.fst_mk, if_neg h1, if_neg h2, if_neg h3, Ix.deg_mk, if_neg h1, if_neg h2, if_neg h3, hR]
  rw [ho]
  refine br_intro (fun g1 => ?_) (fun g1 => ?_) <;> set_option smartUnfolding false in conv => whnf
  · have g1 : n = 0 := by simpa using g1
    refine rdIB ?_
    rw [Ix.pvL_len, ← hR]
    by_cases g3 : ks.length = 0
    · rw [if_pos ⟨g1, g3⟩, decide_eq_true (by omega)]; rfl
    · rw [if_neg (fun h => g3 h.2), decide_eq_false (by omega)]; rfl
  · have g1 : ¬ n = 0 := by simpa using g1
    rw [if_neg (fun h => g1 h.1)] at hR
    exact rdIB (by rw [← hR]; rfl)
end Go.AM

set_option linter.all false
set_option maxRecDepth 20000
set_option maxHeartbeats 8000000
namespace Go.AM
open Go.Proofs

/-! ### The reference's degrees -/
theorem degrees_of (D : List Dt) (l : List Ix) (us : List V) (hq : ∀ (i : Nat) e u, l[i]? = some e → us[i]? = some u → Det Tryz.prog 47 [.lst 3 (Dt.pvL D), u.pv, e.pv] (.int .i64 ((Ix.deg D e u).getD (-1)))) :
    Det Tryz.prog 73 [.lst 3 (Dt.pvL D), .lst 3 (V.pvL us), .lst 2 (Ix.pvL l)] (.int .i64 ((Ix.degL D 0 l us).getD (-1))) := by
  generalize hR : Ix.degL D 0 l us = o
  refine det_of_vc' (E := S.E 0) rfl fol Tryz.func73 rfl rfl (slots := [6]) rfl rfl fun hw => ?_
  have hl : l.length ≤ 9223372036854775807 := by
    have := hw.2.2.1
    have := this.1
    rwa [Ix.pvL_len] at this
  set_option smartUnfolding false in conv => whnf
  refine br_intro (fun h0 => ?_) (fun h0 => ?_) <;> set_option smartUnfolding false in conv => whnf
  · have h0 : ¬ (us.length : Int) = l.length := by rw [V.pvL_len, Ix.pvL_len] at h0; simpa using h0
    cases o with
    | none => exact rdP (.refl _)
    | some d => have := Ix.degL_len hR; omega
  have h0 : (us.length : Int) = l.length := by rw [V.pvL_len, Ix.pvL_len] at h0; simpa using h0
  refine vloop_intro (σ := Nat × Int) (fun x => x.1 ≤ l.length ∧ Ix.degL D x.2 (l.drop x.1) (us.drop x.1) = o ∧ 0 ≤ x.2 ∧ x.2 ≤ 6) (fun x => [(0, .pv (.lst 3 (Dt.pvL D))), (1, .pv (.lst 3 (V.pvL us))), (2, .pv (.lst 2 (Ix.pvL l))), (7, .pv (.int .i64 x.2)), (15, .pv (.lst 3 (V.pvL us))), (16, .pv (.int .i64 (V.pvL us).length)), (17, .pv (.int .i64 x.1))])
    (fun _ => []) (fun x => l.length - x.1) (0, 0) ⟨by simp, by simpa using hR, by simp, by simp⟩ (weak_bare rfl ⟨(by kernel_rfl), (by kernel_rfl), (by kernel_rfl), (by kernel_rfl), (by kernel_rfl), (by kernel_rfl), (by kernel_rfl), trivial⟩) ?_
  rintro ⟨i, a⟩ ⟨hi, hs, ha1, ha2⟩
  simp only at hi hs ha1 ha2
  set_option smartUnfolding false in conv => whnf
  refine br_intro (fun h => ?_) (fun h => ?_) <;> set_option smartUnfolding false in conv => whnf
  · replace h : i < l.length := by have := dT h; rw [V.pvL_len] at this; simp only at this; omega
    refine Ix.get_elim h fun n1 es1 hv hg hg0 hd => ?_
    refine V.get_elim (l := us) (i := i) (by omega) fun k2 n2 ks2 hv2 hg2 hg02 hd2 => ?_
    have hdet := hq i _ _ hg0 hg02
    rw [Ix.pv_mk, V.pv_mk] at hdet
    rw [hd, hd2, Ix.degL_cons] at hs
    refine ⟨V.ag k2 n2 ks2, ⟨by simp, by simpa using hg2⟩, ?_⟩
    set_option smartUnfolding false in conv => whnf
    refine ⟨Ix.ag n1 es1, ⟨by simp, by simpa using hg⟩, ?_⟩
    set_option smartUnfolding false in conv => whnf
    cases hdg : Ix.deg D (.mk n1 es1) (.mk k2 n2 ks2) with
    | none =>
      rw [hdg] at hs hdet
      simp only at hs
      subst hs
      refine acall_det (ps := [.lst 3 (Dt.pvL D), V.ag k2 n2 ks2, Ix.ag n1 es1]) hdet ?_
      set_option smartUnfolding false in conv => whnf
      exact rdP (.refl _)
    | some d =>
      have hr := Ix.deg_rng D _ _ d hdg
      rw [hdg] at hs hdet
      simp only at hs
      replace hdet : Det Tryz.prog 47 [.lst 3 (Dt.pvL D), V.ag k2 n2 ks2, Ix.ag n1 es1] (.int .i64 d) := hdet
      refine acall_det (ps := [.lst 3 (Dt.pvL D), V.ag k2 n2 ks2, Ix.ag n1 es1]) hdet ?_
      set_option smartUnfolding false in conv => whnf
      have ew : IntKind.wrap .i64 (a + d) = a + d := wrapI (by omega) (by omega)
      refine br_intro (fun g => ?_) (fun g => ?_) <;> set_option smartUnfolding false in conv => whnf
      · have g := dT g; omega
      refine br_intro (fun g => ?_) (fun g => ?_) <;> set_option smartUnfolding false in conv => whnf
      · have g := dT g
        rw [ew] at g
        rw [if_pos g] at hs
        subst hs
        exact rdP (.refl _)
      · have g := dF g
        rw [ew] at g
        rw [if_neg g] at hs
        exact ⟨(i + 1, a + d), ⟨h, hs, by simp only; omega, by simp only; omega⟩, weak_bare rfl ⟨(by kernel_rfl), (by kernel_rfl), (by kernel_rfl), sI ew, (by kernel_rfl), (by kernel_rfl), sUp h hl, trivial⟩, subUp h⟩
  · replace h : ¬ i < l.length := by have := dF h; rw [V.pvL_len] at this; simp only at this; omega
    rw [List.drop_of_length_le (by omega), List.drop_of_length_le (by omega), Ix.degL_nil] at hs
    subst hs
    exact rdP (.refl _)
theorem rdegree_det {D : List Dt} (hD : DOK D) (hv : dvalid D = true) (i : Ix) : ∀ t, Good D t → Det Tryz.prog 47 [.lst 3 (Dt.pvL D), t.pv, i.pv] (.int .i64 ((Ix.deg D i t).getD (-1))) := by
  refine Ix.rec2 (p := fun i => ∀ t, Good D t → Det Tryz.prog 47 [.lst 3 (Dt.pvL D), t.pv, i.pv] (.int .i64 ((Ix.deg D i t).getD (-1)))) (fun n ks ih ih2 t hg => ?_) i
  obtain ⟨tk, tn, ts⟩ := t
  have hT : ∀ us : List V, (∀ u ∈ us, Good D u) → Det Tryz.prog 73 [.lst 3 (Dt.pvL D), .lst 3 (V.pvL us), .lst 2 (Ix.pvL ks)] (.int .i64 ((Ix.degL D 0 ks us).getD (-1))) := fun us hus => degrees_of D ks us fun i e u h1 h2 => ih e (List.mem_of_getElem? h1) u (hus u (List.mem_of_getElem? h2))
  have hT2 : ∀ c es, Ix.mk c es ∈ ks → ∀ us : List V, (∀ u ∈ us, Good D u) → Det Tryz.prog 73 [.lst 3 (Dt.pvL D), .lst 3 (V.pvL us), .lst 2 (Ix.pvL es)] (.int .i64 ((Ix.degL D 0 es us).getD (-1))) := fun c es he us hus => degrees_of D es us fun i e u h1 h2 => ih2 c es he e (List.mem_of_getElem? h1) u (hus u (List.mem_of_getElem? h2))
  clear ih ih2
  have hgc := hg.cnt
  generalize hR : Ix.deg D (.mk n ks) (.mk tk tn ts) = o
  rw [Ix.deg_mk] at hR
  rw [V.pv_mk, Ix.pv_mk]
  refine det_of_vc' (E := S.E 0) rfl fol Tryz.func47 rfl rfl (slots := [6]) rfl rfl fun hw => ?_
  have hl : ks.length ≤ 9223372036854775807 := by
    have := hw.2.2.1
    exact Ix.lenle this
  set_option smartUnfolding false in conv => whnf
  refine br_intro (fun h1 => ?_) (fun h1 => ?_) <;> set_option smartUnfolding false in conv => whnf
  · have h1 : tk = 6 := by simpa using h1
    rw [if_pos h1] at hR
    refine br_intro (fun g1 => ?_) (fun g1 => ?_) <;> set_option smartUnfolding false in conv => whnf
    · have g1 : ¬ n = 0 := by simpa using g1
      rw [if_neg g1] at hR
      exact rdI (by rw [← hR]; rfl)
    have g1 : n = 0 := by simpa using g1
    rw [if_pos g1] at hR
    refine acall_det (ps := [.lst 3 (Dt.pvL D), .lst 3 (V.pvL ts), .lst 2 (Ix.pvL ks)]) (hT ts fun u hu => hg.kid hu) ?_
    set_option smartUnfolding false in conv => whnf
    exact rdI (by rw [hR])
  have h1 : ¬ tk = 6 := by simpa using h1
  rw [if_neg h1] at hR
  refine br_intro (fun h2 => ?_) (fun h2 => ?_) <;> set_option smartUnfolding false in conv => whnf
  · have h2 : tk = 7 := by simpa using h2
    rw [if_pos h2] at hR
    refine br_intro (fun g1 => ?_) (fun g1 => ?_) <;> set_option smartUnfolding false in conv => whnf
    · have g1 := dT g1
      rw [if_neg (by omega)] at hR
      exact rdI (by rw [← hR]; rfl)
    have g1 := dF g1
    refine br_intro (fun g2 => ?_) (fun g2 => ?_) <;> set_option smartUnfolding false in conv => whnf
    · have g2 := dT g2
      rw [if_neg (by omega)] at hR
      exact rdI (by rw [← hR]; rfl)
    have g2 := dF g2
    refine br_intro (fun g3 => ?_) (fun g3 => ?_) <;> set_option smartUnfolding false in conv => whnf
    · have g3 := dT g3
      rw [Ix.pvL_len] at g3
      rw [if_neg (by omega)] at hR
      exact rdI (by rw [← hR]; rfl)
    have g3 := dF g3
    rw [Ix.pvL_len] at g3
    rw [if_pos (by omega)] at hR
    exact rdI (by rw [← hR]; rfl)
  have h2 : ¬ tk = 7 := by simpa using h2
  rw [if_neg h2] at hR
  refine br_intro (fun h3 => ?_) (fun h3 => ?_) <;> set_option smartUnfolding false in conv => whnf
  · have h3 : tk = 5 := by simpa using h3
    subst h3
    rw [if_pos rfl] at hR
    refine br_intro (fun g1 => ?_) (fun g1 => ?_) <;> set_option smartUnfolding false in conv => whnf
    · have g1 : ¬ n = 0 := by simpa using g1
      rw [if_neg (fun h => g1 h.1)] at hR
      exact rdI (by rw [← hR]; rfl)
    have g1 : n = 0 := by simpa using g1
    refine br_intro (fun g2 => ?_) (fun g2 => ?_) <;> set_option smartUnfolding false in conv => whnf
    · have g2 := dT g2
      rw [Ix.pvL_len] at g2
      rw [if_neg (fun h => by have := h.2; omega)] at hR
      exact rdI (by rw [← hR]; rfl)
    have g2 := dF g2
    rw [Ix.pvL_len] at g2
    rw [if_pos ⟨g1, by omega⟩] at hR
    refine vloop_intro (σ := Nat × Int) (fun x => x.1 ≤ ks.length ∧ Ix.degE D (.mk 5 tn ts) x.2 (ks.drop x.1) = o ∧ 0 ≤ x.2 ∧ x.2 ≤ 6) (fun x => [(0, .pv (.lst 3 (Dt.pvL D))), (4, .bp 0 0), (5, .bp 1 0), (7, .pv (.int .i64 x.2)), (56, .pv (.lst 2 (Ix.pvL ks))), (57, .pv (.int .i64 (Ix.pvL ks).length)), (58, .pv (.int .i64 x.1))])
      (fun _ => [.box 25 [.pv (.int .i64 5), .pv (.int .i64 tn), .pv (.lst 3 (V.pvL ts))], .box 28 [.pv (.int .i64 n), .pv (.lst 2 (Ix.pvL ks))]]) (fun x => ks.length - x.1) (0, 0) ⟨by simp, by simpa using hR, by simp, by simp⟩ (weak_sub ⟨(by kernel_rfl), (by kernel_rfl), (by kernel_rfl), (by kernel_rfl), (by kernel_rfl), (by kernel_rfl), (by kernel_rfl), trivial⟩) ?_
    rintro ⟨i, a⟩ ⟨hi, hs, ha1, ha2⟩
    simp only at hi hs ha1 ha2
    set_option smartUnfolding false in conv => whnf
    refine br_intro (fun h => ?_) (fun h => ?_) <;> set_option smartUnfolding false in conv => whnf
    · replace h : i < ks.length := by have := dT h; rw [Ix.pvL_len] at this; simpa using this
      refine Ix.get_elim h fun c1 es1 hv1 hg1 hg0 hd => ?_
      have hpay := payTypes_det hD tn ts (by omega) c1
      rw [V.pv_mk] at hpay
      rw [hd, Ix.degE_cons, Ix.degK_mk] at hs
      refine ⟨Ix.ag c1 es1, ⟨by simp, by simpa using hg1⟩, ?_⟩
      set_option smartUnfolding false in conv => whnf
      refine br_intro (fun g3 => ?_) (fun g3 => ?_) <;> set_option smartUnfolding false in conv => whnf
      · have g3 := dT g3
        rw [payS_none (conOf_big hv (.inl g3))] at hs
        exact rdI (by rw [← hs]; rfl)
      have g3 := dF g3
      refine br_intro (fun g4 => ?_) (fun g4 => ?_) <;> set_option smartUnfolding false in conv => whnf
      · have g4 := dT g4
        rw [payS_none (conOf_big hv (.inr g4))] at hs
        exact rdI (by rw [← hs]; rfl)
      have g4 := dF g4
      cases hp : payS D (.mk 5 tn ts) c1 with
      | none =>
        rw [hp, optP_none] at hpay
        rw [hp] at hs
        simp only at hs
        subst hs
        refine acall_det (ps := [.lst 3 (Dt.pvL D), V.ag 5 tn ts, .int .i64 c1]) hpay ?_
        set_option smartUnfolding false in conv => whnf
        exact rdP (.refl _)
      | some us =>
        rw [hp, optP_some, List.nil_append] at hpay
        rw [hp] at hs
        simp only at hs
        have htot := hT2 c1 es1 hv1 us (payS_good hv hg hp)
        refine acall_det (ps := [.lst 3 (Dt.pvL D), V.ag 5 tn ts, .int .i64 c1]) hpay ?_
        set_option smartUnfolding false in conv => whnf
        cases hL : Ix.degL D 0 es1 us with
        | none =>
          rw [hL] at hs htot
          simp only at hs
          subst hs
          refine acall_det (ps := [.lst 3 (Dt.pvL D), .lst 3 (V.pvL us), .lst 2 (Ix.pvL es1)]) htot ?_
          set_option smartUnfolding false in conv => whnf
          exact rdP (.refl _)
        | some d =>
          have hr := Ix.degL_rng D es1 us 0 d hL (by omega) (by omega)
          rw [hL] at hs htot
          simp only at hs
          replace htot : Det Tryz.prog 73 [.lst 3 (Dt.pvL D), .lst 3 (V.pvL us), .lst 2 (Ix.pvL es1)] (.int .i64 d) := htot
          refine acall_det (ps := [.lst 3 (Dt.pvL D), .lst 3 (V.pvL us), .lst 2 (Ix.pvL es1)]) htot ?_
          set_option smartUnfolding false in conv => whnf
          have ew1 : IntKind.wrap .i64 (1 + d) = 1 + d := wrapI (by omega) (by omega)
          have ew : IntKind.wrap .i64 (a + IntKind.wrap .i64 (1 + d)) = a + (1 + d) := by rw [ew1]; exact wrapI (by omega) (by omega)
          have ew2 : IntKind.wrap .i64 (IntKind.wrap .i64 (a + 1) + d) = a + (1 + d) := by rw [show IntKind.wrap .i64 (a + 1) = a + 1 from wrapI (by omega) (by omega), wrapI (by omega) (by omega)]; omega
          refine br_intro (fun g => ?_) (fun g => ?_) <;> set_option smartUnfolding false in conv => whnf
          · have g := dT g; omega
          refine br_intro (fun g => ?_) (fun g => ?_) <;> set_option smartUnfolding false in conv => whnf
          · have g := dT g
            rw [ew2] at g
            rw [if_pos g] at hs
            subst hs
            exact rdP (.refl _)
          · have g := dF g
            rw [ew2] at g
            rw [if_neg g] at hs
            exact ⟨(i + 1, a + (1 + d)), ⟨h, hs, by simp only; omega, by simp only; omega⟩, weak_ren [0, 1] 3 (by kernel_rfl) (blk (by kernel_rfl) (blk (by kernel_rfl) trivial)) ⟨(by kernel_rfl), (by kernel_rfl), (by kernel_rfl), sI ew, (by kernel_rfl), (by kernel_rfl), sUp h hl, trivial⟩, subUp h⟩
    · replace h : ¬ i < ks.length := by have := dF h; rw [Ix.pvL_len] at this; simpa using this
      rw [List.drop_of_length_le (by omega), Ix.degE_nil] at hs
      subst hs
      exact rdP (.refl _)
  have h3 : ¬ tk = 5 := by simpa using h3
  rw [if_neg h3] at hR
  refine br_intro (fun g1 => ?_) (fun g1 => ?_) <;> set_option smartUnfolding false in conv => whnf
  · have g1 : ¬ n = 0 := by simpa using g1
    rw [if_neg (fun h => g1 h.1)] at hR
    exact rdI (by rw [← hR]; rfl)
  have g1 : n = 0 := by simpa using g1
  refine br_intro (fun g2 => ?_) (fun g2 => ?_) <;> set_option smartUnfolding false in conv => whnf
  · have g2 := dT g2
    rw [Ix.pvL_len] at g2
    rw [if_neg (by omega)] at hR
    exact rdI (by rw [← hR]; rfl)
  have g2 := dF g2
  rw [Ix.pvL_len] at g2
  rw [if_pos (by omega)] at hR
  exact rdI (by rw [← hR]; rfl)
end Go.AM

set_option linter.all false
set_option maxRecDepth 20000
set_option maxHeartbeats 4000000
namespace Go.AM
open Go.Proofs

theorem iknown_det {D : List Dt} (hD : DOK D) (hN : DN D) (t : V) : Det Tryz.prog 57 [.lst 3 (Dt.pvL D), t.pv] (.bool (known D t)) := by
  have h1 := coreValid_det hD hN
  have h2 := tValid_det D 0 t
  unfold coreP at h1
  obtain ⟨k, n, ts⟩ := t
  rw [V.pv_mk] at h2 ⊢
  unfold known
  refine det_of_vc' (E := S.E 0) rfl fol Tryz.func57 rfl rfl (slots := [4]) rfl rfl fun hw => ?_
  set_option smartUnfolding false in conv => whnf
  refine acall_det (ps := [.agg [.lst 3 (Dt.pvL D), .nils, .nils, .nils]]) h1 ?_
  set_option smartUnfolding false in conv => whnf
  refine br_intro (fun g => ?_) (fun g => ?_) <;> set_option smartUnfolding false in conv => whnf
  · refine acall_det (ps := [.lst 3 (Dt.pvL D), V.ag k n ts, .int .i64 0]) h2 ?_
    set_option smartUnfolding false in conv => whnf
    exact rdB (by rw [g]; rfl)
  · exact rdB (by rw [g]; rfl)
end Go.AM

set_option linter.all false
set_option maxRecDepth 20000
set_option maxHeartbeats 4000000
namespace Go.AM
open Go.Proofs

/-! ### Degree and Valid, both -/
/-- What both answer. -/
noncomputable def degS (D : List Dt) (t : V) (i : Ix) : Int := if known D t = true then (Ix.deg D i t).getD (-1) else -1
theorem degS_no {D : List Dt} {t : V} {i : Ix} (h : known D t = false) : degS D t i = -1 := by unfold degS; rw [if_neg (by rw [h]; simp)]
theorem degS_yes {D : List Dt} {t : V} {i : Ix} (h : known D t = true) : degS D t i = (Ix.deg D i t).getD (-1) := by unfold degS; rw [if_pos h]
theorem degS_ge {D : List Dt} {t : V} {i : Ix} : -1 ≤ degS D t i ∧ degS D t i ≤ 6 := by
  unfold degS
  split
  · cases h : Ix.deg D i t with
    | none => simp
    | some d => have := Ix.deg_rng D i t d h; simp only [Option.getD_some]; omega
  · omega
attribute [irreducible] degS
theorem iDegree_det {D : List Dt} (hD : DOK D) (hN : DN D) (t : V) (i : Ix) : Det Tryz.prog 34 [.lst 3 (Dt.pvL D), t.pv, i.pv] (.int .i64 (degS D t i)) := by
  have h1 := iknown_det hD hN t
  have h2 := fun h : known D t = true => degree_det hD (known_good h).1 i t (known_good h).2
  generalize hS : degS D t i = r
  obtain ⟨tk, tn, ts⟩ := t
  obtain ⟨n, ks⟩ := i
  rw [V.pv_mk] at h1 h2
  rw [Ix.pv_mk] at h2
  rw [V.pv_mk, Ix.pv_mk]
  refine det_of_vc' (E := S.E 0) rfl fol Tryz.func34 rfl rfl (slots := [6]) rfl rfl fun hw => ?_
  set_option smartUnfolding false in conv => whnf
  cases hk : known D (.mk tk tn ts) with
  | false =>
    rw [hk] at h1
    rw [degS_no hk] at hS
    subst hS
    refine acall_det (ps := [.lst 3 (Dt.pvL D), V.ag tk tn ts]) h1 ?_
    set_option smartUnfolding false in conv => whnf
    exact rdP (.refl _)
  | true =>
    rw [hk] at h1
    rw [degS_yes hk] at hS
    have h2 := h2 hk
    refine acall_det (ps := [.lst 3 (Dt.pvL D), V.ag tk tn ts]) h1 ?_
    set_option smartUnfolding false in conv => whnf
    cases hd : Ix.deg D (.mk n ks) (.mk tk tn ts) with
    | none =>
      rw [degP_none hd] at h2
      rw [hd] at hS
      subst hS
      refine acall_det (ps := [.lst 3 (Dt.pvL D), V.ag tk tn ts, Ix.ag n ks]) h2 ?_
      set_option smartUnfolding false in conv => whnf
      exact rdP (.refl _)
    | some d =>
      rw [degP_some hd] at h2
      rw [hd] at hS
      subst hS
      refine acall_det (ps := [.lst 3 (Dt.pvL D), V.ag tk tn ts, Ix.ag n ks]) h2 ?_
      set_option smartUnfolding false in conv => whnf
      exact rdP (.refl _)
theorem fine_det {D : List Dt} (hD : DOK D) (hN : DN D) (t : V) (ht : t.cnt ≤ 1000000) : Det Tryz.prog 37 [.lst 3 (Dt.pvL D), t.pv] (.bool (known D t)) := by
  have h1 := validData_r hD hN
  have h2 := rValid_det D 0 t ht
  obtain ⟨k, n, ts⟩ := t
  rw [V.pv_mk] at h2 ⊢
  unfold known
  refine det_of_vc' (E := S.E 0) rfl fol Tryz.func37 rfl rfl (slots := [4]) rfl rfl fun hw => ?_
  set_option smartUnfolding false in conv => whnf
  refine acall_det (ps := [.lst 3 (Dt.pvL D)]) h1 ?_
  set_option smartUnfolding false in conv => whnf
  refine br_intro (fun g => ?_) (fun g => ?_) <;> set_option smartUnfolding false in conv => whnf
  · refine acall_det (ps := [.lst 3 (Dt.pvL D), V.ag k n ts, .int .i64 0]) h2 ?_
    set_option smartUnfolding false in conv => whnf
    exact rdB (by rw [g]; rfl)
  · exact rdB (by rw [g]; rfl)
theorem rDegree_det {D : List Dt} (hD : DOK D) (hN : DN D) (t : V) (ht : t.cnt ≤ 1000000) (i : Ix) : Det Tryz.prog 21 [.lst 3 (Dt.pvL D), t.pv, i.pv] (.int .i64 (degS D t i)) := by
  have h1 := fine_det hD hN t ht
  have h2 := fun h : known D t = true => rdegree_det hD (known_good h).1 i t (known_good h).2
  generalize hS : degS D t i = r
  obtain ⟨tk, tn, ts⟩ := t
  obtain ⟨n, ks⟩ := i
  rw [V.pv_mk] at h1 h2
  rw [Ix.pv_mk] at h2
  rw [V.pv_mk, Ix.pv_mk]
  refine det_of_vc' (E := S.E 0) rfl fol Tryz.func21 rfl rfl (slots := [6]) rfl rfl fun hw => ?_
  set_option smartUnfolding false in conv => whnf
  cases hk : known D (.mk tk tn ts) with
  | false =>
    rw [hk] at h1
    rw [degS_no hk] at hS
    subst hS
    refine acall_det (ps := [.lst 3 (Dt.pvL D), V.ag tk tn ts]) h1 ?_
    set_option smartUnfolding false in conv => whnf
    exact rdP (.refl _)
  | true =>
    rw [hk] at h1
    rw [degS_yes hk] at hS
    have h2 := h2 hk
    rw [hS] at h2
    refine acall_det (ps := [.lst 3 (Dt.pvL D), V.ag tk tn ts]) h1 ?_
    set_option smartUnfolding false in conv => whnf
    refine acall_det (ps := [.lst 3 (Dt.pvL D), V.ag tk tn ts, Ix.ag n ks]) h2 ?_
    set_option smartUnfolding false in conv => whnf
    exact rdP (.refl _)
theorem iValid_det {D : List Dt} (hD : DOK D) (hN : DN D) (t : V) (i : Ix) : Det Tryz.prog 27 [.lst 3 (Dt.pvL D), t.pv, i.pv] (.bool (decide (0 ≤ degS D t i))) := by
  have h1 := iDegree_det hD hN t i
  generalize degS D t i = r at h1
  obtain ⟨tk, tn, ts⟩ := t
  obtain ⟨n, ks⟩ := i
  rw [V.pv_mk, Ix.pv_mk] at h1 ⊢
  refine det_of_vc' (E := S.E 0) rfl fol Tryz.func27 rfl rfl (slots := [6]) rfl rfl fun hw => ?_
  set_option smartUnfolding false in conv => whnf
  refine acall_det (ps := [.lst 3 (Dt.pvL D), V.ag tk tn ts, Ix.ag n ks]) h1 ?_
  set_option smartUnfolding false in conv => whnf
  exact rdB rfl
theorem rIValid_det {D : List Dt} (hD : DOK D) (hN : DN D) (t : V) (ht : t.cnt ≤ 1000000) (i : Ix) : Det Tryz.prog 29 [.lst 3 (Dt.pvL D), t.pv, i.pv] (.bool (decide (0 ≤ degS D t i))) := by
  have h1 := rDegree_det hD hN t ht i
  generalize degS D t i = r at h1
  obtain ⟨tk, tn, ts⟩ := t
  obtain ⟨n, ks⟩ := i
  rw [V.pv_mk, Ix.pv_mk] at h1 ⊢
  refine det_of_vc' (E := S.E 0) rfl fol Tryz.func29 rfl rfl (slots := [6]) rfl rfl fun hw => ?_
  set_option smartUnfolding false in conv => whnf
  refine acall_det (ps := [.lst 3 (Dt.pvL D), V.ag tk tn ts, Ix.ag n ks]) h1 ?_
  set_option smartUnfolding false in conv => whnf
  exact rdB rfl
end Go.AM

set_option linter.all false
set_option maxRecDepth 20000
set_option maxHeartbeats 4000000
namespace Go.AM
open Go.Proofs

/-! ### The degree of a folded row -/
theorem rec_self {D : List Dt} {d n : Int} {ts fs : List V} (hf : fieldsS D (.mk 5 d ts) n = some fs) : ∀ (k : Nat) f, fs[k]? = some f → (recS D d n)[k]? = some true → f = .mk 5 d ts := by
  unfold fieldsS at hf
  cases hc : conOf D (.mk 5 d ts) n with
  | none => rw [hc] at hf; cases hf
  | some c =>
    rw [hc] at hf
    have hf := flds_map (ts := ts) hf
    unfold conOf at hc
    simp only at hc
    by_cases hk : True ∧ 0 ≤ d ∧ 0 ≤ n
    · rw [if_pos hk] at hc
      cases hx : D[d.toNat]? with
      | none => rw [hx] at hc; cases hc
      | some x =>
        rw [hx] at hc
        simp only at hc
        by_cases hl : (ts.length : Int) = x.vars
        · rw [if_pos hl] at hc
          have er : recS D d n = c.args.map (isSelf d x.vars) := by
            unfold recS conAt
            rw [if_pos ⟨hk.2.1, hk.2.2⟩, hx]
            simp only [hc]
          intro k f h1 h2
          rw [er, List.getElem?_map] at h2
          cases ha : c.args[k]? with
          | none => rw [ha] at h2; cases h2
          | some a =>
            rw [ha] at h2
            have hs : isSelf d x.vars a = true := by simpa using h2
            rw [← hl] at hs
            rw [hf, List.getElem?_map, ha, Option.map_some, sub_self hs] at h1
            exact (Option.some.inj h1).symm
        · rw [if_neg hl] at hc; cases hc
    · rw [if_neg hk] at hc; cases hc
theorem good_known {D : List Dt} (hv : dvalid D = true) {t : V} (h : Good D t) : known D t = true := by
  unfold known V.okW
  rw [hv, h.ok]
  have := h.cnt
  simp [this]
/-- The sum of degrees that are all there. -/
def sumD (D : List Dt) : List Ix → List V → Option Int
  | [], _ => some 0
  | i :: l, fs => match fs with
    | [] => Option.none
    | f :: fs => match Ix.deg D i f, sumD D l fs with
      | some d, some s => some (d + s)
      | _, _ => Option.none
theorem sumD_nil (D : List Dt) (fs : List V) : sumD D [] fs = some 0 := by rw [sumD]
theorem sumD_cons (D : List Dt) (i : Ix) (l : List Ix) (f : V) (fs : List V) : sumD D (i :: l) (f :: fs) = match Ix.deg D i f, sumD D l fs with
      | some d, some s => some (d + s)
      | _, _ => Option.none := by rw [sumD]
theorem sumD_rng {D : List Dt} : ∀ {l : List Ix} {fs : List V} {s : Int}, sumD D l fs = some s → 0 ≤ s ∧ s ≤ 6 * l.length
  | [], fs, s, h => by rw [sumD_nil] at h; cases h; simp
  | i :: l, [], s, h => by rw [sumD] at h; cases h
  | i :: l, f :: fs, s, h => by
    rw [sumD_cons] at h
    cases hd : Ix.deg D i f with
    | none => rw [hd] at h; cases h
    | some d =>
      cases hs : sumD D l fs with
      | none => rw [hd, hs] at h; cases h
      | some s' =>
        rw [hd, hs] at h
        cases h
        have h1 := Ix.deg_rng D i f d hd
        have h2 := sumD_rng hs
        simp only [List.length_cons]
        omega
theorem degL_sum {D : List Dt} : ∀ {l : List Ix} {us : List V} {a s : Int}, l.length = us.length → 0 ≤ a → a ≤ 6 → sumD D l us = some s → Ix.degL D a l us = if a + s ≤ 6 then some (a + s) else Option.none
  | [], [], a, s, _, h0, h1, h => by
    rw [sumD_nil] at h; cases h
    rw [Ix.degL_nil, if_pos (by omega)]; simp
  | [], u :: us, a, s, hl, _, _, _ => by simp at hl
  | i :: l, [], a, s, hl, _, _, _ => by simp at hl
  | i :: l, u :: us, a, s, hl, h0, h1, h => by
    rw [sumD_cons] at h
    cases hd : Ix.deg D i u with
    | none => rw [hd] at h; cases h
    | some d =>
      cases hs : sumD D l us with
      | none => rw [hd, hs] at h; cases h
      | some s' =>
        rw [hd, hs] at h
        cases h
        have hr := Ix.deg_rng D i u d hd
        have hr2 := sumD_rng hs
        rw [Ix.degL_cons, hd]
        simp only
        by_cases hg : 6 < a + d
        · rw [if_pos hg, if_neg (by omega)]
        · rw [if_neg hg, degL_sum (by simpa using hl) (by omega) (by omega) hs]
          by_cases hg2 : a + d + s' ≤ 6
          · rw [if_pos hg2, if_pos (by omega)]; congr 1; omega
          · rw [if_neg hg2, if_neg (by omega)]
theorem degE_mono {D : List Dt} {t : V} : ∀ {l : List Ix} {b d : Int}, Ix.degE D t b l = some d → b + l.length ≤ d
  | [], b, d, h => by rw [Ix.degE_nil] at h; cases h; simp
  | e :: l, b, d, h => by
    rw [Ix.degE_cons] at h
    cases hk : Ix.degK D t e with
    | none => rw [hk] at h; cases h
    | some x =>
      rw [hk] at h
      have hr := Ix.degK_rng D t e x hk
      simp only at h
      split at h
      · cases h
      · have := degE_mono h
        simp only [List.length_cons]
        omega
theorem degE_shift {D : List Dt} {t : V} : ∀ {l : List Ix} {b d a : Int}, Ix.degE D t b l = some d → 0 ≤ b → 0 ≤ a → a ≤ 6 → Ix.degE D t a l = if a + (d - b) ≤ 6 then some (a + (d - b)) else Option.none
  | [], b, d, a, h, hb, h0, h1 => by
    rw [Ix.degE_nil] at h; cases h
    rw [Ix.degE_nil, if_pos (by omega)]; congr 1; omega
  | e :: l, b, d, a, h, hb, h0, h1 => by
    rw [Ix.degE_cons] at h ⊢
    cases hk : Ix.degK D t e with
    | none => rw [hk] at h; cases h
    | some x =>
      rw [hk] at h
      have hr := Ix.degK_rng D t e x hk
      simp only at h ⊢
      by_cases hg : 6 < b + (1 + x)
      · rw [if_pos hg] at h; cases h
      · rw [if_neg hg] at h
        have hr2 := Ix.degE_rng D t l (b + (1 + x)) d h (by omega) (by omega)
        have hmono := degE_mono h
        by_cases hg2 : 6 < a + (1 + x)
        · rw [if_pos hg2, if_neg (by omega)]
        · rw [if_neg hg2, degE_shift h (by omega) (by omega) (by omega)]
          by_cases hg3 : a + (1 + x) + (d - (b + (1 + x))) ≤ 6
          · rw [if_pos hg3, if_pos (by omega)]; congr 1; omega
          · rw [if_neg hg3, if_neg (by omega)]
theorem degE_app {D : List Dt} {t : V} : ∀ {l m : List Ix} {a : Int}, Ix.degE D t a (l ++ m) = match Ix.degE D t a l with | some b => Ix.degE D t b m | Option.none => Option.none
  | [], m, a => by rw [List.nil_append, Ix.degE_nil]
  | e :: l, m, a => by
    rw [List.cons_append, Ix.degE_cons, Ix.degE_cons]
    cases Ix.degK D t e with
    | none => rfl
    | some x =>
      simp only
      split
      · rfl
      · exact degE_app
/-- The row's payload part, its recursive part. -/
def pickI {α : Type} (q : Bool) : List α → List Bool → List α
  | i :: l, b :: bs => if (b == q) = true then i :: pickI q l bs else pickI q l bs
  | _, _ => []
theorem pickI_nil {α : Type} (q : Bool) (bs : List Bool) : pickI q ([] : List α) bs = [] := by unfold pickI; rfl
theorem pickI_cons {α : Type} (q b : Bool) (i : α) (l : List α) (bs : List Bool) : pickI q (i :: l) (b :: bs) = if (b == q) = true then i :: pickI q l bs else pickI q l bs := by rw [pickI]
def kidsL : List Ix → List Ix
  | [] => []
  | .mk _ ks :: l => ks ++ kidsL l
theorem kidsL_nil : kidsL [] = [] := rfl
theorem kidsL_cons (n : Int) (ks : List Ix) (l : List Ix) : kidsL (.mk n ks :: l) = ks ++ kidsL l := rfl
/-- The index with a row. -/
def foldI (c : Int) (row : List Ix) (bs : List Bool) : Ix := .mk 0 (.mk c (pickI false row bs) :: kidsL (pickI true row bs))
/-- Sums of the two parts. -/
theorem sum_parts {D : List Dt} {t : V} {d : Int} {ts : List V} (ht : t = .mk 5 d ts) : ∀ {row : List Ix} {fs : List V} {bs : List Bool} {s : Int}, row.length = fs.length → fs.length = bs.length → (∀ (k : Nat) f, fs[k]? = some f → bs[k]? = some true → f = t) → sumD D row fs = some s →
    ∃ p r, s = p + r ∧ 0 ≤ p ∧ 0 ≤ r ∧ sumD D (pickI false row bs) (picks fs bs) = some p ∧ (pickI false row bs).length = (picks fs bs).length ∧
      (∀ a : Int, 0 ≤ a → a ≤ 6 → Ix.degE D t a (kidsL (pickI true row bs)) = if a + r ≤ 6 then some (a + r) else Option.none) ∧ ((kidsL (pickI true row bs)).length : Int) ≤ r
  | [], fs, bs, s, h1, h2, _, hs => by
    have : fs = [] := List.eq_nil_of_length_eq_zero (by simpa using h1.symm)
    subst this
    rw [sumD_nil] at hs; cases hs
    refine ⟨0, 0, rfl, by omega, by omega, ?_, ?_, fun a h0 h1 => ?_, ?_⟩
    · rw [pickI_nil, sumD_nil]
    · rw [pickI_nil, picks_nil]; rfl
    · rw [pickI_nil, kidsL_nil, Ix.degE_nil, if_pos (by omega)]; simp
    · rw [pickI_nil, kidsL_nil]; simp
  | i :: row, [], bs, s, h1, _, _, _ => by simp at h1
  | i :: row, f :: fs, [], s, _, h2, _, _ => by simp at h2
  | i :: row, f :: fs, b :: bs, s, h1, h2, hself, hs => by
    rw [sumD_cons] at hs
    cases hd : Ix.deg D i f with
    | none => rw [hd] at hs; cases hs
    | some x =>
      cases hs' : sumD D row fs with
      | none => rw [hd, hs'] at hs; cases hs
      | some s' =>
        rw [hd, hs'] at hs
        cases hs
        have hx := Ix.deg_rng D i f x hd
        obtain ⟨p, r, rfl, hp, hr, e1, e2, e3, e4⟩ := sum_parts ht (row := row) (fs := fs) (bs := bs) (s := s') (by simpa using h1) (by simpa using h2) (fun k f' a1 a2 => hself (k + 1) f' (by simpa using a1) (by simpa using a2)) hs'
        cases b with
        | false =>
          refine ⟨x + p, r, by omega, by omega, hr, ?_, ?_, ?_, ?_⟩
          · rw [pickI_cons, if_pos (by simp), picks_cons, if_neg (by simp), sumD_cons, hd, e1]
          · rw [pickI_cons, if_pos (by simp), picks_cons, if_neg (by simp), List.length_cons, List.length_cons, e2]
          · intro a h0 h1; rw [pickI_cons, if_neg (by simp)]; exact e3 a h0 h1
          · rw [pickI_cons, if_neg (by simp)]; exact e4
        | true =>
          obtain rfl : f = t := hself 0 f rfl rfl
          obtain ⟨n, ks⟩ := i
          subst ht
          rw [Ix.deg_mk, if_neg (by omega), if_neg (by omega), if_pos rfl] at hd
          by_cases hn : n = 0 ∧ ks.length ≤ 6
          · rw [if_pos hn] at hd
            have hmono := degE_mono hd
            refine ⟨p, x + r, by omega, hp, by omega, ?_, ?_, ?_, ?_⟩
            · rw [pickI_cons, if_neg (by simp), picks_cons, if_pos rfl, e1]
            · rw [pickI_cons, if_neg (by simp), picks_cons, if_pos rfl, e2]
            · intro a h0 h1
              rw [pickI_cons, if_pos (by simp), kidsL_cons, degE_app, degE_shift hd (by omega) h0 h1]
              by_cases hg : a + (x - 0) ≤ 6
              · rw [if_pos hg]
                simp only
                rw [e3 _ (by omega) hg]
                by_cases hg2 : a + (x - 0) + r ≤ 6
                · rw [if_pos hg2, if_pos (by omega)]; congr 1; omega
                · rw [if_neg hg2, if_neg (by omega)]
              · rw [if_neg hg, if_neg (by omega)]
            · rw [pickI_cons, if_pos (by simp), kidsL_cons, List.length_append]; omega
          · rw [if_neg hn] at hd; cases hd
/-- The degree of the folded index. -/
theorem deg_fold {D : List Dt} {d c : Int} {ts fs : List V} {row : List Ix} {s : Int} (hf : fieldsS D (.mk 5 d ts) c = some fs) (hl : row.length = fs.length) (hs : sumD D row fs = some s) :
    Ix.deg D (foldI c row (recS D d c)) (.mk 5 d ts) = if 1 + s ≤ 6 then some (1 + s) else Option.none := by
  obtain ⟨x, y, _, _, h1, h2⟩ := rec_len hf
  obtain ⟨p, r, rfl, hp, hr, e1, e2, e3, e4⟩ := sum_parts (t := .mk 5 d ts) rfl (bs := recS D d c) hl (by omega) (fun k f a1 a2 => rec_self hf k f a1 a2) hs
  have hp' : payS D (.mk 5 d ts) c = some (picks fs (recS D d c)) := payS_some hf
  unfold foldI
  rw [Ix.deg_mk, if_neg (by omega), if_neg (by omega), if_pos rfl]
  have hK : Ix.degK D (.mk 5 d ts) (.mk c (pickI false row (recS D d c))) = if 0 + p ≤ 6 then some (0 + p) else Option.none := by
    rw [Ix.degK_mk, hp']
    exact degL_sum e2 (by omega) (by omega) e1
  by_cases hlen : (0 : Int) = 0 ∧ (Ix.mk c (pickI false row (recS D d c)) :: kidsL (pickI true row (recS D d c))).length ≤ 6
  · rw [if_pos hlen, Ix.degE_cons, hK]
    by_cases hg : 0 + p ≤ 6
    · rw [if_pos hg]
      simp only
      by_cases hg2 : 6 < 0 + (1 + (0 + p))
      · rw [if_pos hg2, if_neg (by omega)]
      · rw [if_neg hg2, e3 _ (by omega) (by omega)]
        by_cases hg3 : 0 + (1 + (0 + p)) + r ≤ 6
        · rw [if_pos hg3, if_pos (by omega)]; congr 1; omega
        · rw [if_neg hg3, if_neg (by omega)]
    · rw [if_neg hg, if_neg (by omega)]
  · rw [if_neg hlen]
    simp only [List.length_cons, true_and] at hlen
    rw [if_neg (by omega)]
attribute [irreducible] pickI sumD kidsL
end Go.AM

set_option linter.all false
set_option maxRecDepth 20000
set_option maxHeartbeats 4000000
namespace Go.AM
open Go.Proofs

/-! ### How many indices -/
mutual
def Ix.cnt : Ix → Nat
  | .mk _ ks => 1 + Ix.cntL ks
def Ix.cntL : List Ix → Nat
  | [] => 0
  | v :: l => Ix.cnt v + Ix.cntL l
end
theorem Ix.cnt_mk (n : Int) (ks : List Ix) : Ix.cnt (.mk n ks) = 1 + Ix.cntL ks := by rw [Ix.cnt]
theorem Ix.cntL_nil : Ix.cntL [] = 0 := by rw [Ix.cntL]
theorem Ix.cntL_cons (v : Ix) (l : List Ix) : Ix.cntL (v :: l) = v.cnt + Ix.cntL l := by rw [Ix.cntL]
theorem Ix.cnt_pos (v : Ix) : 1 ≤ v.cnt := by cases v; rw [Ix.cnt_mk]; omega
theorem Ix.len_cntL : ∀ l : List Ix, l.length ≤ Ix.cntL l
  | [] => by simp
  | v :: l => by
    rw [Ix.cntL_cons, List.length_cons]
    have := Ix.len_cntL l
    have := v.cnt_pos; omega
theorem Ix.cnt_mem {v : Ix} {l : List Ix} (h : v ∈ l) : v.cnt ≤ Ix.cntL l := by
  induction l with
  | nil => cases h
  | cons a l ih =>
    rw [Ix.cntL_cons]
    rcases List.mem_cons.1 h with rfl | h
    · omega
    · have := ih h; omega
attribute [irreducible] Ix.cnt Ix.cntL
mutual
theorem Ix.val_iff : ∀ (v : Ix) (n : Int), 0 ≤ n → n ≤ 100000 → ((Ix.val v n).1 = decide ((v.cnt : Int) ≤ n) ∧ ((Ix.val v n).1 = true → (Ix.val v n).2 = n - v.cnt))
  | .mk m ks, n, h0, h1 => by
    rw [Ix.val_mk, Ix.cnt_mk]
    have ew : IntKind.wrap .i64 (n - 1) = n - 1 := wrapI (by omega) (by omega)
    rw [ew]
    by_cases h : n - 1 < 0
    · rw [if_pos h]
      exact ⟨by rw [decide_eq_false (by omega)], fun h' => by cases h'⟩
    · rw [if_neg h]
      have := Ix.valL_iff ks (n - 1) (by omega) (by omega)
      exact ⟨by rw [this.1]; exact decide_eq_decide.2 (by omega), fun h' => by rw [this.2 h']; omega⟩
theorem Ix.valL_iff : ∀ (l : List Ix) (n : Int), 0 ≤ n → n ≤ 100000 → ((Ix.valL l n).1 = decide ((Ix.cntL l : Int) ≤ n) ∧ ((Ix.valL l n).1 = true → (Ix.valL l n).2 = n - Ix.cntL l))
  | [], n, h0, h1 => by rw [Ix.valL_nil, Ix.cntL_nil]; exact ⟨by rw [decide_eq_true (by omega)], fun _ => by simp⟩
  | v :: l, n, h0, h1 => by
    rw [Ix.valL_cons, Ix.cntL_cons]
    have hv := Ix.val_iff v n h0 h1
    cases hx : Ix.val v n with
    | mk b m =>
      rw [hx] at hv
      simp only at hv
      cases b with
      | false =>
        have : ¬ (v.cnt : Int) ≤ n := by have := hv.1; simpa using this
        simp only
        exact ⟨by rw [decide_eq_false (by omega)], fun h' => by cases h'⟩
      | true =>
        have h2 : (v.cnt : Int) ≤ n := by have := hv.1; simpa using this
        have h3 := hv.2 rfl
        subst h3
        simp only
        have := Ix.valL_iff l (n - v.cnt) (by omega) (by omega)
        exact ⟨by rw [this.1]; exact decide_eq_decide.2 (by omega), fun h' => by rw [this.2 h']; omega⟩
end
theorem keepI_cnt {i : Ix} (h : (i.val 40).1 = true) : i.cnt ≤ 40 := by
  rw [(Ix.val_iff i 40 (by omega) (by omega)).1] at h
  have := of_decide_eq_true h
  omega
end Go.AM

set_option linter.all false
set_option maxRecDepth 20000
set_option maxHeartbeats 4000000
namespace Go.AM
open Go.Proofs

/-! ### Copies of indices -/
theorem Ix.pvL_nil : Ix.pvL [] = [] := by unfold Ix.pvL; rfl
theorem Ix.pvL_cons (v : Ix) (l : List Ix) : Ix.pvL (v :: l) = v.pv :: Ix.pvL l := by rw [Ix.pvL]
theorem clones_of (l : List Ix) (hc : Ix.cntL l ≤ 1000000) (hq : ∀ v ∈ l, Det Tryz.prog 36 [v.pv] v.pv) : Det Tryz.prog 28 [.lst 2 (Ix.pvL l)] (.lst 2 (Ix.pvL l)) := by
  have hlc := Ix.len_cntL l
  refine det_of_vc' (E := S.E 0) rfl fol Tryz.func28 rfl rfl (slots := [2]) rfl rfl fun hw => ?_
  have hl : l.length ≤ 9223372036854775807 := by omega
  set_option smartUnfolding false in conv => whnf
  refine vloop_intro (σ := Nat × List PV) (fun x => x.1 ≤ l.length ∧ x.2 ++ Ix.pvL (l.drop x.1) = Ix.pvL l ∧ x.2.length = x.1) (fun x => [(3, lsV 0 x.2), (6, .pv (.lst 2 (Ix.pvL l))), (7, .pv (.int .i64 (Ix.pvL l).length)), (8, .pv (.int .i64 x.1))])
    (fun x => [lsB 28 2 x.2]) (fun x => l.length - x.1) (0, []) ⟨by simp, by simp, rfl⟩ (weak_ren [0] 1 (by kernel_rfl) (blkD trivial) ⟨(by kernel_rfl), (by kernel_rfl), (by kernel_rfl), (by kernel_rfl), trivial⟩) ?_
  rintro ⟨i, ps⟩ ⟨hi, hs, hpl⟩
  simp only at hi hs hpl
  set_option smartUnfolding false in conv => whnf
  refine br_intro (fun h => ?_) (fun h => ?_) <;> set_option smartUnfolding false in conv => whnf
  · replace h : i < l.length := by have := dT h; rw [Ix.pvL_len] at this; simpa using this
    obtain ⟨⟨n1, es1⟩, hv, hg, hg0, hd⟩ := Ix.get_pvL h
    have hih := hq _ hv
    rw [Ix.pv_mk] at hg hih
    rw [hd, Ix.pvL_cons, Ix.pv_mk] at hs
    refine ⟨Ix.ag n1 es1, ⟨by simp, by simpa using hg⟩, ?_⟩
    set_option smartUnfolding false in conv => whnf
    refine acall_det (ps := [Ix.ag n1 es1]) hih ?_
    set_option smartUnfolding false in conv => whnf
    refine ⟨Nat.le_refl 1, ?_⟩
    set_option smartUnfolding false in conv => whnf
    cases ps with
    | nil =>
      set_option smartUnfolding false in conv => whnf
      refine ⟨⟨⟨by decide, by decide⟩, by decide⟩, ?_⟩
      set_option smartUnfolding false in conv => whnf
      exact ⟨(i + 1, [] ++ [Ix.ag n1 es1]), ⟨h, hs, by simp at hpl ⊢; omega⟩, weak_ren [3] 4 (by kernel_rfl) (blk (by kernel_rfl) trivial) ⟨(by kernel_rfl), (by kernel_rfl), (by kernel_rfl), sUp h hl, trivial⟩, subUp h⟩
    | cons p ps =>
      set_option smartUnfolding false in conv => whnf
      simp only [List.length_cons] at hpl
      refine ⟨⟨⟨by simp [pvs_len], by simp only [Nat.succ_eq_add_one]; omega⟩, by rw [show ((S.E 0).te 28).bytes = 32 from rfl]; simp only [Nat.succ_eq_add_one]; omega⟩, ?_⟩
      set_option smartUnfolding false in conv => whnf
      exact ⟨(i + 1, (p :: ps) ++ [Ix.ag n1 es1]), ⟨h, by rw [← hs]; simp, by simp; omega⟩, weak_ren [3] 4 (by kernel_rfl) (blkR_snoc (by kernel_rfl) trivial) ⟨by simp only [lsV_snoc]; kernel_rfl, (by kernel_rfl), (by kernel_rfl), sUp h hl, trivial⟩, subUp h⟩
  · replace h : ¬ i < l.length := by have := dF h; rw [Ix.pvL_len] at this; simpa using this
    rw [List.drop_of_length_le (by omega), Ix.pvL_nil, List.append_nil] at hs
    cases ps with
    | nil =>
      set_option smartUnfolding false in conv => whnf
      rw [← hs]
      exact .le (.nils 2)
    | cons p ps =>
      set_option smartUnfolding false in conv => whnf
      exact rd_lsE (k := 0) hs rfl trivial rfl
theorem uclone_det (v : Ix) : v.cnt ≤ 1000000 → Det Tryz.prog 36 [v.pv] v.pv := by
  refine Ix.recOn' (p := fun v => v.cnt ≤ 1000000 → Det Tryz.prog 36 [v.pv] v.pv) (fun n ks ih hc => ?_) v
  rw [Ix.cnt_mk] at hc
  have hcl := clones_of ks (by omega) fun v hv => ih v hv (by have := Ix.cnt_mem hv; omega)
  rw [Ix.pv_mk]
  refine det_of_vcc (E := S.E 0) rfl fol Tryz.func36 rfl rfl (cell := (2, 28)) rfl rfl fun hw => ?_
  set_option smartUnfolding false in conv => whnf
  refine acall_det (ps := [.lst 2 (Ix.pvL ks)]) hcl ?_
  set_option smartUnfolding false in conv => whnf
  exact .pv _
theorem uclones_det (l : List Ix) (hc : Ix.cntL l ≤ 1000000) : Det Tryz.prog 28 [.lst 2 (Ix.pvL l)] (.lst 2 (Ix.pvL l)) := clones_of l hc fun v hv => uclone_det v (by have := Ix.cnt_mem hv; omega)
theorem copy17_det (v : Ix) : v.cnt ≤ 1000000 → Det Tryz.prog 30 [v.pv] v.pv := by
  refine Ix.recOn' (p := fun v => v.cnt ≤ 1000000 → Det Tryz.prog 30 [v.pv] v.pv) (fun n ts ih hc => ?_) v
  rw [Ix.cnt_mk] at hc
  have hlc := Ix.len_cntL ts
  have hl : ts.length ≤ 9223372036854775807 := by omega
  rw [Ix.pv_mk]
  refine det_of_vcc (E := S.E 0) rfl fol Tryz.func30 rfl rfl (cell := (2, 28)) rfl rfl fun hw => ?_
  set_option smartUnfolding false in conv => whnf
  refine vloop_intro (σ := Nat × List PV) (fun x => x.1 ≤ ts.length ∧ x.2 ++ Ix.pvL (ts.drop x.1) = Ix.pvL ts ∧ x.2.length = x.1) (fun x => [(2, .bp 0 0), (3, .bp 1 0), (10, .pv (.lst 2 (Ix.pvL ts))), (11, .pv (.int .i64 (Ix.pvL ts).length)), (12, .pv (.int .i64 x.1))])
    (fun x => [.box 28 [.pv (.int .i64 0), .pv .nils], .box 28 [.pv (.int .i64 n), lsV 2 x.2], lsB 28 2 x.2])
    (fun x => ts.length - x.1) (0, []) ⟨by simp, by simp, rfl⟩ (weak_ren [1, 2, 3] 4 (by kernel_rfl) (blk (by kernel_rfl) (blk (by kernel_rfl) (blkD trivial))) ⟨(by kernel_rfl), (by kernel_rfl), (by kernel_rfl), (by kernel_rfl), (by kernel_rfl), trivial⟩) ?_
  rintro ⟨i, ps⟩ ⟨hi, hs, hpl⟩
  simp only at hi hs hpl
  set_option smartUnfolding false in conv => whnf
  refine br_intro (fun h => ?_) (fun h => ?_) <;> set_option smartUnfolding false in conv => whnf
  · replace h : i < ts.length := by have := dT h; rw [Ix.pvL_len] at this; simpa using this
    obtain ⟨⟨n1, es1⟩, hv, hg, hg0, hd⟩ := Ix.get_pvL h
    have hih := ih _ hv (by have := Ix.cnt_mem hv; omega)
    rw [Ix.pv_mk] at hg hih
    rw [hd, Ix.pvL_cons, Ix.pv_mk] at hs
    refine ⟨Ix.ag n1 es1, ⟨by simp, by simpa using hg⟩, ?_⟩
    set_option smartUnfolding false in conv => whnf
    refine acall_det (ps := [Ix.ag n1 es1]) hih ?_
    set_option smartUnfolding false in conv => whnf
    refine ⟨Nat.le_refl 1, ?_⟩
    set_option smartUnfolding false in conv => whnf
    cases ps with
    | nil =>
      set_option smartUnfolding false in conv => whnf
      refine ⟨⟨⟨by decide, by decide⟩, by decide⟩, ?_⟩
      set_option smartUnfolding false in conv => whnf
      exact ⟨(i + 1, [] ++ [Ix.ag n1 es1]), ⟨h, hs, by simp at hpl ⊢; omega⟩, weak_ren [0, 1, 5] 6 (by kernel_rfl) (blk (by kernel_rfl) (blk (by kernel_rfl) (blk (by kernel_rfl) trivial))) ⟨(by kernel_rfl), (by kernel_rfl), (by kernel_rfl), (by kernel_rfl), sUp h hl, trivial⟩, subUp h⟩
    | cons p ps =>
      set_option smartUnfolding false in conv => whnf
      simp only [List.length_cons] at hpl
      refine ⟨⟨⟨by simp [pvs_len], by simp only [Nat.succ_eq_add_one]; omega⟩, by rw [show ((S.E 0).te 28).bytes = 32 from rfl]; simp only [Nat.succ_eq_add_one]; omega⟩, ?_⟩
      set_option smartUnfolding false in conv => whnf
      exact ⟨(i + 1, (p :: ps) ++ [Ix.ag n1 es1]), ⟨h, by rw [← hs]; simp, by simp; omega⟩, weak_ren [0, 1, 5] 6 (by kernel_rfl) (blk (by kernel_rfl) (blk (by simp only [lsV_snoc]; kernel_rfl) (blkR_snoc (by kernel_rfl) trivial))) ⟨(by kernel_rfl), (by kernel_rfl), (by kernel_rfl), (by kernel_rfl), sUp h hl, trivial⟩, subUp h⟩
  · replace h : ¬ i < ts.length := by have := dF h; rw [Ix.pvL_len] at this; simpa using this
    rw [List.drop_of_length_le (by omega), Ix.pvL_nil, List.append_nil] at hs
    cases ps with
    | nil =>
      set_option smartUnfolding false in conv => whnf
      exact .le (.agg (.cons (.refl _) (.cons (ple_nils hs) .nil)))
    | cons p ps =>
      set_option smartUnfolding false in conv => whnf
      exact .mix (.cons (.pv _) (.cons (rd_lsE (k := 2) hs rfl trivial rfl) .nil))
end Go.AM

set_option linter.all false
set_option maxRecDepth 20000
set_option maxHeartbeats 4000000
namespace Go.AM
open Go.Proofs

/-! ### index.Payload -/
theorem ipayload_det {D : List Dt} (hD : DOK D) (hN : DN D) (tn : Int) (ts : List V) (ht : (V.mk 5 tn ts).cnt ≤ 1000) (hk : known D (.mk 5 tn ts) = true) (c : Int) {fs : List V} (hf : fieldsS D (.mk 5 tn ts) c = some fs) :
    Det Tryz.prog 35 [.lst 3 (Dt.pvL D), (V.mk 5 tn ts).pv, .int .i64 c] (.tuple [.lst 1 (natsP (pos false (recS D tn c) 0)), .lst 1 (natsP (pos true (recS D tn c) 0)), .bool true]) := by
  have hKn := iknown_det hD hN (.mk 5 tn ts)
  rw [hk, V.pv_mk] at hKn
  have hF := tfields_det hD (.mk 5 tn ts) ht c
  have hRc := trec_det hD tn c
  have hrl := recS_len hD tn c
  rw [V.pv_mk, hf, optP_some, List.nil_append] at hF
  rw [V.pv_mk]
  generalize recS D tn c = bs at hRc hrl
  generalize hP : natsP (pos false bs 0) = P
  generalize hQ : natsP (pos true bs 0) = Q
  refine det_of_vc' (E := S.E 0) rfl fol Tryz.func35 rfl rfl (slots := [6, 7, 8]) rfl rfl fun hw => ?_
  set_option smartUnfolding false in conv => whnf
  refine acall_det (ps := [.lst 3 (Dt.pvL D), V.ag 5 tn ts]) hKn ?_
  set_option smartUnfolding false in conv => whnf
  refine acall_det (ps := [.lst 3 (Dt.pvL D), V.ag 5 tn ts, .int .i64 c]) hF ?_
  set_option smartUnfolding false in conv => whnf
  refine acall_det (ps := [.lst 3 (Dt.pvL D), .int .i64 tn, .int .i64 c]) hRc ?_
  set_option smartUnfolding false in conv => whnf
  have hl : bs.length ≤ 9223372036854775807 := by omega
  refine vloop_intro (σ := Nat × List PV × List PV) (fun x => x.1 ≤ bs.length ∧ (x.2.1 ++ natsP (pos false (bs.drop x.1) x.1) = P ∧ x.2.2 ++ natsP (pos true (bs.drop x.1) x.1) = Q) ∧ x.2.1.length ≤ x.1 ∧ x.2.2.length ≤ x.1)
    (fun x => [(6, lsV 0 x.2.1), (7, lsV 1 x.2.2), (30, .pv (.lst 1 (boolsP bs))), (31, .pv (.int .i64 (boolsP bs).length)), (32, .pv (.int .i64 x.1))])
    (fun x => [lsB 3 1 x.2.1, lsB 3 1 x.2.2]) (fun x => bs.length - x.1) (0, [], []) ⟨by simp, ⟨by simpa using hP, by simpa using hQ⟩, by simp, by simp⟩ (weak_ren [1, 2] 3 (by kernel_rfl) (blkD (blkD trivial)) ⟨(by kernel_rfl), (by kernel_rfl), (by kernel_rfl), (by kernel_rfl), (by kernel_rfl), trivial⟩) ?_
  rintro ⟨i, ps, qs⟩ ⟨hi, ⟨hs1, hs2⟩, hl1, hl2⟩
  simp only at hi hs1 hs2 hl1 hl2
  set_option smartUnfolding false in conv => whnf
  refine br_intro (fun h => ?_) (fun h => ?_) <;> set_option smartUnfolding false in conv => whnf
  · replace h : i < bs.length := by have := dT h; rw [boolsP_len] at this; simpa using this
    obtain ⟨b, hb0, hb1, hb2⟩ := drop_bool (l := bs) (i := i) h
    rw [hb2, pos_cons] at hs1 hs2
    refine ⟨.bool b, ⟨by simp, by simpa using hb1⟩, ?_⟩
    set_option smartUnfolding false in conv => whnf
    refine br_intro (fun g => ?_) (fun g => ?_) <;> set_option smartUnfolding false in conv => whnf
    · subst g
      rw [if_neg (by simp)] at hs1
      rw [if_pos (by simp), natsP_cons] at hs2
      refine ⟨Nat.le_refl 1, ?_⟩
      set_option smartUnfolding false in conv => whnf
      cases qs with
      | nil =>
        set_option smartUnfolding false in conv => whnf
        refine ⟨⟨⟨by decide, by decide⟩, by decide⟩, ?_⟩
        set_option smartUnfolding false in conv => whnf
        exact ⟨(i + 1, ps, [] ++ [.int .i64 i]), ⟨h, ⟨hs1, by rw [← hs2]; simp⟩, by simp only; omega, by simp⟩, weak_ren [0, 3] 4 (by kernel_rfl) (blkR_ls (by kernel_rfl) (blk (by kernel_rfl) trivial)) ⟨sLs (by kernel_rfl), (by kernel_rfl), (by kernel_rfl), (by kernel_rfl), sUp h hl, trivial⟩, subUp h⟩
      | cons p qs =>
        set_option smartUnfolding false in conv => whnf
        simp only [List.length_cons] at hl2
        refine ⟨⟨⟨by simp [pvs_len], by simp only [Nat.succ_eq_add_one]; omega⟩, by rw [show ((S.E 0).te 3).bytes = 8 from rfl]; simp only [Nat.succ_eq_add_one]; omega⟩, ?_⟩
        set_option smartUnfolding false in conv => whnf
        exact ⟨(i + 1, ps, (p :: qs) ++ [.int .i64 i]), ⟨h, ⟨hs1, by rw [← hs2]; simp⟩, by simp only; omega, by simp; omega⟩, weak_ren [0, 3] 4 (by kernel_rfl) (blkR_ls (by kernel_rfl) (blkR_snoc (by kernel_rfl) trivial)) ⟨sLs (by kernel_rfl), by simp only [lsV_snoc]; kernel_rfl, (by kernel_rfl), (by kernel_rfl), sUp h hl, trivial⟩, subUp h⟩
    · subst g
      rw [if_pos (by simp), natsP_cons] at hs1
      rw [if_neg (by simp)] at hs2
      refine ⟨Nat.le_refl 1, ?_⟩
      set_option smartUnfolding false in conv => whnf
      cases ps with
      | nil =>
        set_option smartUnfolding false in conv => whnf
        refine ⟨⟨⟨by decide, by decide⟩, by decide⟩, ?_⟩
        set_option smartUnfolding false in conv => whnf
        exact ⟨(i + 1, [] ++ [.int .i64 i], qs), ⟨h, ⟨by rw [← hs1]; simp, hs2⟩, by simp, by simp only; omega⟩, weak_ren [3, 1] 4 (by kernel_rfl) (blk (by kernel_rfl) (blkR_ls (by kernel_rfl) trivial)) ⟨(by kernel_rfl), sLs (by kernel_rfl), (by kernel_rfl), (by kernel_rfl), sUp h hl, trivial⟩, subUp h⟩
      | cons p ps =>
        set_option smartUnfolding false in conv => whnf
        simp only [List.length_cons] at hl1
        refine ⟨⟨⟨by simp [pvs_len], by simp only [Nat.succ_eq_add_one]; omega⟩, by rw [show ((S.E 0).te 3).bytes = 8 from rfl]; simp only [Nat.succ_eq_add_one]; omega⟩, ?_⟩
        set_option smartUnfolding false in conv => whnf
        exact ⟨(i + 1, (p :: ps) ++ [.int .i64 i], qs), ⟨h, ⟨by rw [← hs1]; simp, hs2⟩, by simp; omega, by simp only; omega⟩, weak_ren [3, 1] 4 (by kernel_rfl) (blkR_snoc (by kernel_rfl) (blkR_ls (by kernel_rfl) trivial)) ⟨by simp only [lsV_snoc]; kernel_rfl, sLs (by kernel_rfl), (by kernel_rfl), (by kernel_rfl), sUp h hl, trivial⟩, subUp h⟩
  · replace h : ¬ i < bs.length := by have := dF h; rw [boolsP_len] at this; simpa using this
    rw [List.drop_of_length_le (by omega), pos_nil, natsP_nil, List.append_nil] at hs1 hs2
    subst hs1 hs2
    cases ps with
    | nil =>
      cases qs with
      | nil =>
        set_option smartUnfolding false in conv => whnf
        exact .le (.tuple (.cons (.nils 1) (.cons (.nils 1) (.cons (.refl _) .nil))))
      | cons q qs =>
        set_option smartUnfolding false in conv => whnf
        exact .tup (.cons (.le (.nils 1)) (.cons (rd_lsE (k := 1) rfl rfl trivial rfl) (.cons (.pv _) .nil)))
    | cons p ps =>
      cases qs with
      | nil =>
        set_option smartUnfolding false in conv => whnf
        exact .tup (.cons (rd_lsE (k := 0) rfl rfl trivial rfl) (.cons (.le (.nils 1)) (.cons (.pv _) .nil)))
      | cons q qs =>
        set_option smartUnfolding false in conv => whnf
        exact .tup (.cons (rd_lsE (k := 0) rfl rfl trivial rfl) (.cons (rd_lsE (k := 1) rfl rfl trivial rfl) (.cons (.pv _) .nil)))
end Go.AM

set_option linter.all false
set_option maxRecDepth 20000
set_option maxHeartbeats 4000000
namespace Go.AM
open Go.Proofs

theorem uknown_det {D : List Dt} (hD : DOK D) (hN : DN D) (t : V) : Det Tryz.prog 31 [.lst 3 (Dt.pvL D), t.pv] (.bool (known D t)) := by
  have h1 := coreValid_det hD hN
  have h2 := tValid_det D 0 t
  unfold coreP at h1
  obtain ⟨k, n, ts⟩ := t
  rw [V.pv_mk] at h2 ⊢
  unfold known
  refine det_of_vc' (E := S.E 0) rfl fol Tryz.func31 rfl rfl (slots := [4]) rfl rfl fun hw => ?_
  set_option smartUnfolding false in conv => whnf
  refine acall_det (ps := [.agg [.lst 3 (Dt.pvL D), .nils, .nils, .nils]]) h1 ?_
  set_option smartUnfolding false in conv => whnf
  refine br_intro (fun g => ?_) (fun g => ?_) <;> set_option smartUnfolding false in conv => whnf
  · refine acall_det (ps := [.lst 3 (Dt.pvL D), V.ag k n ts, .int .i64 0]) h2 ?_
    set_option smartUnfolding false in conv => whnf
    exact rdB (by rw [g]; rfl)
  · exact rdB (by rw [g]; rfl)
end Go.AM

set_option linter.all false
namespace Go.AM
open Go.Proofs

/-! ### A callee reads what was built; after that it is let go of -/
theorem gupd_dead : ∀ (S : List Nat) (G : Own) (id : Nat), gupd G (S.map fun i => (i, AB.dead)) id = if id ∈ S then AB.dead else G id
  | [], G, id => by simp [gupd]
  | i :: S, G, id => by
    simp only [List.map_cons, gupd]
    rw [gupd_dead S]
    by_cases h : id ∈ S
    · simp [h]
    · by_cases h2 : id = i
      · subst h2; simp [h, gset]
      · simp [h, h2, gset]
theorem adet_eat {P : Program} {f : FuncId} {ps : List PV} {r : PV} {H : Heap} {vs : List AV} {S : List Nat} (h : Det P f ps r) (hr : RdL (· ∈ S) H vs ps) : ADet P f vs H (.pv r) (S.map fun i => (i, AB.dead)) S where
  enters := h.enters
  ids := fun p hp => by simp only [List.mem_map] at hp; obtain ⟨i, hi, rfl⟩ := hp; exact hi
  calls := fun w X ι G us hC hS hT => Calls.mono (h.calls w (offS X ι G (· ∈ S)) us (fun b hb => off_lt hC (offS_off hb)) hC.laid (TR_of hr.len (hr.sound hC hS) hT)) (by
    rintro e w' ⟨v, rfl, hv, hP⟩
    have hg : ∀ id, gupd G (S.map fun i => (i, AB.dead)) id = if id ∈ S then AB.dead else G id := gupd_dead S G
    generalize gupd G (S.map fun i => (i, AB.dead)) = G' at hg
    have hlive : ∀ id, (G' id).live = true → id ∉ S ∧ (G id).live = true := fun id hl => by
      rw [hg] at hl
      split at hl
      · simp [AB.live] at hl
      · rename_i hn; exact ⟨hn, hl⟩
    have hown : ∀ b, own ι G' b → own ι G b := fun b ⟨id, h1, h2⟩ => ⟨id, (hlive id h1).2, h2⟩
    have hoff : ∀ b, off X ι G' b → off X ι G b := fun b hb => hb.elim (fun h => .inl (hown b h)) .inr
    have hC' := hP.conc hC
    have hsome : ∀ id, (G id).isNone = false → (G' id).isNone = false := fun id hi => by
      rw [hg]; split
      · rfl
      · exact hi
    have hbox : ∀ id, (G' id).isBox = true → (G id).isBox = true := fun id hb => by
      rw [hg] at hb
      split at hb
      · simp [AB.isBox] at hb
      · exact hb
    have hrow : ∀ id, (G' id).isRow = true → (G id).isRow = true ∧ (G' id).sz = (G id).sz := fun id hb => by
      rw [hg] at hb ⊢
      split at hb
      · simp [AB.isRow] at hb
      · rename_i hn; rw [if_neg hn]; exact ⟨hb, rfl⟩
    have hN : Next w' X ι G w' ι G' := ⟨⟨Nat.le_refl _, fun _ _ _ => rfl, fun b _ hb => hoff b hb⟩, fun _ _ => rfl, hsome, fun id _ hb => hbox id hb, fun id _ hb => hrow id hb⟩
    refine ⟨v, ι, rfl, ?_, ⟨?_, ?_, hC'.xlt, ?_, hC'.laid, fun p hp i hi => hC'.free p hp i (hlive i hi).2⟩, ?_⟩
    · simp only [VR]
      refine hv.less fun b hb => ?_
      rcases hb with ⟨id, h1, h2⟩ | hx
      · exact .inr ⟨id, (hlive id h1).1, (hlive id h1).2, h2⟩
      · exact .inl hx
    · exact fun i j hi hj he => hC'.inj i j (hlive i hi).2 (hlive j hj).2 he
    · exact fun i hi => hC'.dis i (hlive i hi).2
    · intro id
      rw [hg]
      split
      · trivial
      · cases hn : (G id).isNone with
        | true => exact BR_none hn
        | false => exact (hC'.br id).next hN hn fun _ => rfl
    · exact ⟨hP.size, hP.os, hP.tape, hP.output, fun b hb _ => hP.heap b hb, fun b _ hb => hown b hb, fun _ _ => rfl, hsome, fun id _ hb => hbox id hb, fun id _ hb => hrow id hb⟩)
end Go.AM

set_option linter.all false
namespace Go.AM
open Go.Proofs

/-! ### A callee reads rows that stay: they are frozen -/
theorem gupd_mem : ∀ (U : Upd) (G : Own) (id : Nat), (gupd G U id = G id ∧ ∀ b, (id, b) ∉ U) ∨ ∃ b, (id, b) ∈ U ∧ gupd G U id = b
  | [], G, id => .inl ⟨rfl, fun b => by simp⟩
  | (i, b) :: U, G, id => by
    rcases gupd_mem U (gset G i b) id with ⟨h1, h2⟩ | ⟨c, h1, h2⟩
    · by_cases he : id = i
      · subst he
        exact .inr ⟨b, by simp, by simp only [gupd]; rw [h1]; simp [gset]⟩
      · exact .inl ⟨by simp only [gupd]; rw [h1]; simp [gset, he], fun c => by simp [he, h2 c]⟩
    · exact .inr ⟨c, by simp [h1], by simp only [gupd]; exact h2⟩
theorem adet_look {P : Program} {f : FuncId} {ps : List PV} {r : PV} {H : Heap} {vs : List AV} (S : List (Nat × Nat × List PV)) (h : Det P f ps r) (hr : RdL (· ∈ S.map (·.1)) H vs ps)
    (hf : ∀ q ∈ S, ∃ t xs, hget H q.1 = .row t q.2.1 xs ∧ RdL (· ∈ S.map (·.1)) H xs q.2.2) : ADet P f vs H (.pv r) (S.map fun q => (q.1, AB.frozen q.2.1 q.2.2)) (S.map (·.1)) where
  enters := h.enters
  ids := fun p hp => by simp only [List.mem_map] at hp ⊢; obtain ⟨i, hi, rfl⟩ := hp; exact ⟨i, hi, rfl⟩
  calls := fun w X ι G us hC hS hT => Calls.mono (h.calls w (offS X ι G (· ∈ S.map (·.1))) us (fun b hb => off_lt hC (offS_off hb)) hC.laid (TR_of hr.len (hr.sound hC hS) hT)) (by
    rintro e w' ⟨v, rfl, hv, hP⟩
    have hg : ∀ id, (gupd G (S.map fun q => (q.1, AB.frozen q.2.1 q.2.2)) id = G id ∧ id ∉ S.map (·.1)) ∨ ∃ sz xs, (id, sz, xs) ∈ S ∧ gupd G (S.map fun q => (q.1, AB.frozen q.2.1 q.2.2)) id = .frozen sz xs := fun id => by
      rcases gupd_mem (S.map fun q => (q.1, AB.frozen q.2.1 q.2.2)) G id with ⟨h1, h2⟩ | ⟨b, h1, h2⟩
      · refine .inl ⟨h1, fun hm => ?_⟩
        simp only [List.mem_map] at hm
        obtain ⟨q, hq, rfl⟩ := hm
        exact h2 _ (by simp only [List.mem_map]; exact ⟨q, hq, rfl⟩)
      · simp only [List.mem_map] at h1
        obtain ⟨q, hq, he⟩ := h1
        cases he
        exact .inr ⟨q.2.1, q.2.2, hq, h2⟩
    generalize gupd G (S.map fun q => (q.1, AB.frozen q.2.1 q.2.2)) = G' at hg
    have hold : ∀ sz id xs, (id, sz, xs) ∈ S → ∃ t ys, G id = .row t sz ys ∧ RdL (· ∈ S.map (·.1)) H ys xs ∧ hget H id = .row t sz ys := fun sz id xs hm => by
      obtain ⟨t, ys, h1, h2⟩ := hf _ hm
      exact ⟨t, ys, by rw [hS id (by simp only [List.mem_map]; exact ⟨_, hm, rfl⟩)]; exact h1, h2, h1⟩
    have hlive : ∀ id, (G' id).live = true → id ∉ S.map (·.1) ∧ (G id).live = true := fun id hl => by
      rcases hg id with ⟨h1, h2⟩ | ⟨sz, xs, h1, h2⟩
      · rw [h1] at hl; exact ⟨h2, hl⟩
      · rw [h2] at hl; simp [AB.live] at hl
    have hown : ∀ b, own ι G' b → own ι G b := fun b ⟨id, h1, h2⟩ => ⟨id, (hlive id h1).2, h2⟩
    have hoff : ∀ b, off X ι G' b → off X ι G b := fun b hb => hb.elim (fun h => .inl (hown b h)) .inr
    have hless : ∀ b, off X ι G' b → offS X ι G (· ∈ S.map (·.1)) b := fun b hb => by
      rcases hb with ⟨id, h1, h2⟩ | hx
      · exact .inr ⟨id, (hlive id h1).1, (hlive id h1).2, h2⟩
      · exact .inl hx
    have hC' := hP.conc hC
    have hsome : ∀ id, (G id).isNone = false → (G' id).isNone = false := fun id hi => by
      rcases hg id with ⟨h1, h2⟩ | ⟨sz, xs, h1, h2⟩
      · rw [h1]; exact hi
      · rw [h2]; rfl
    have hbox : ∀ id, (G' id).isBox = true → (G id).isBox = true := fun id hb => by
      rcases hg id with ⟨h1, h2⟩ | ⟨sz, xs, h1, h2⟩
      · rw [h1] at hb; exact hb
      · rw [h2] at hb; simp [AB.isBox] at hb
    have hrow : ∀ id, (G' id).isRow = true → (G id).isRow = true ∧ (G' id).sz = (G id).sz := fun id hb => by
      rcases hg id with ⟨h1, h2⟩ | ⟨sz, xs, h1, h2⟩
      · rw [h1] at hb ⊢; exact ⟨hb, rfl⟩
      · obtain ⟨t, ys, h3, _⟩ := hold _ _ _ h1
        rw [h2, h3]; exact ⟨rfl, rfl⟩
    have hN : Next w' X ι G w' ι G' := ⟨⟨Nat.le_refl _, fun _ _ _ => rfl, fun b _ hb => hoff b hb⟩, fun _ _ => rfl, hsome, fun id _ hb => hbox id hb, fun id _ hb => hrow id hb⟩
    refine ⟨v, ι, rfl, ?_, ⟨?_, ?_, hC'.xlt, ?_, hC'.laid, fun p hp i hi => hC'.free p hp i (hlive i hi).2⟩, ?_⟩
    · simp only [VR]
      exact hv.less hless
    · exact fun i j hi hj he => hC'.inj i j (hlive i hi).2 (hlive j hj).2 he
    · exact fun i hi => hC'.dis i (hlive i hi).2
    · intro id
      rcases hg id with ⟨h1, h2⟩ | ⟨sz, xs, h1, h2⟩
      · rw [h1]
        cases hn : (G id).isNone with
        | true => exact BR_none hn
        | false => exact (hC'.br id).next hN hn fun _ => rfl
      · rw [h2]
        obtain ⟨t, ys, h3, h4, h5⟩ := hold _ _ _ h1
        simp only [BR]
        have hm : id ∈ S.map (·.1) := by simp only [List.mem_map]; exact ⟨_, h1, rfl⟩
        have hlen := h4.len
        have hRd : Rd (· ∈ S.map (·.1)) H (.row id ys.length) (.lst sz xs) := by
          have := Rd.row (S := (· ∈ S.map (·.1))) (H := H) (n := ys.length) hm h5 (Nat.le_refl _) h4
          rwa [List.take_of_length_le (by omega)] at this
        have hb := hC'.br id
        rw [h3] at hb
        have hvr : VR w' X ι G (.row id ys.length) (.slice (some ⟨(ι id).1, 0, none⟩) ys.length (ι id).2) := by
          simp only [VR]
          refine ⟨by rw [h3]; rfl, fun _ => ⟨trivial, hb.choose_spec.2.2.1⟩, rfl⟩
        have := hRd.sound hC' hS _ hvr
        rw [← hlen]
        exact this.less hless
    · exact ⟨hP.size, hP.os, hP.tape, hP.output, fun b hb _ => hP.heap b hb, fun b _ hb => hown b hb, fun _ _ => rfl, hsome, fun id _ hb => hbox id hb, fun id _ hb => hrow id hb⟩)
end Go.AM
