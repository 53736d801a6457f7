import Derived.Test.YtfkkfgeepiopaaaGreatSlV
set_option linter.all false
set_option maxRecDepth 20000
set_option maxHeartbeats 2000000
namespace Go.AM
open Go.Proofs

/-! ### Valid data: what it says of a declaration -/
theorem decsR_get {D : List Dt} : ∀ {l : List Dt} {i j : Nat} {x : Dt}, decsR D i l = true → l[j]? = some x → 0 ≤ x.vars ∧ x.vars ≤ 6 ∧ x.cons.length ≤ 8 ∧ consR D (i + j) x.vars x.cons = true
  | [], i, j, x, _, h => by simp at h
  | y :: l, i, 0, x, h, hj => by
    rw [decsR_cons] at h
    simp only [Bool.and_eq_true, decide_eq_true_eq] at h
    simp at hj; subst hj
    exact ⟨h.1.1.1.1.1.1, h.1.1.1.1.1.2, h.1.1.1.2, h.1.2⟩
  | y :: l, i, j + 1, x, h, hj => by
    rw [decsR_cons] at h
    simp only [Bool.and_eq_true] at h
    have := decsR_get (j := j) h.2 (by simpa using hj)
    rw [show i + (j + 1) = i + 1 + j by omega]
    exact this
theorem consR_get {D : List Dt} {d : Nat} {vars : Int} : ∀ {l : List Cn} {c : Cn}, consR D d vars l = true → c ∈ l → argsR D d vars c.args = true
  | [], c, _, h => by simp at h
  | y :: l, c, h, hc => by
    rw [consR_cons] at h
    simp only [Bool.and_eq_true] at h
    rcases List.mem_cons.1 hc with rfl | hc
    · exact h.1.2
    · exact consR_get h.2 hc
theorem argsR_get {D : List Dt} {d : Nat} {vars : Int} : ∀ {l : List V} {a : V}, argsR D d vars l = true → a ∈ l → argR D d vars a = true
  | [], a, _, h => by simp at h
  | y :: l, a, h, hc => by
    rw [argsR_cons] at h
    simp only [Bool.and_eq_true] at h
    rcases List.mem_cons.1 hc with rfl | hc
    · exact h.1
    · exact argsR_get h.2 hc
theorem shape_mono {D : List Dt} {d : Nat} {vars k n : Int} {r : Bool × Int × Int} (h : V.shape (D.take d) vars k n = some r) : V.shape D vars k n = some r := by
  unfold V.shape at h ⊢
  split
  · rename_i h1; rwa [if_pos h1] at h
  rename_i h1; rw [if_neg h1] at h
  split
  · rename_i h2; rwa [if_pos h2] at h
  rename_i h2; rw [if_neg h2] at h
  split
  · rename_i h3
    rw [if_pos h3, List.getElem?_take] at h
    split at h
    · rename_i x hx
      split at hx
      · rw [hx]; exact h
      · cases hx
    · cases h
  rename_i h3; rwa [if_neg h3] at h
mutual
theorem okT_mono {D : List Dt} {d : Nat} {vars : Int} : ∀ t : V, V.okT (D.take d) vars t = true → V.okT D vars t = true
  | .mk k n ts, h => by
    rw [V.okT_mk] at h ⊢
    cases hs : V.shape (D.take d) vars k n with
    | none => rw [hs] at h; cases h
    | some r =>
      rw [hs] at h
      rw [shape_mono hs]
      obtain ⟨b, lo, hi⟩ := r
      simp only [Bool.and_eq_true] at h ⊢
      exact ⟨h.1, okTL_mono ts h.2⟩
theorem okTL_mono {D : List Dt} {d : Nat} {vars : Int} : ∀ l : List V, V.okTL (D.take d) vars l = true → V.okTL D vars l = true
  | [], _ => V.okTL_nil _ _
  | t :: l, h => by
    rw [V.okTL_cons] at h ⊢
    simp only [Bool.and_eq_true] at h ⊢
    exact ⟨okT_mono t h.1, okTL_mono l h.2⟩
end
theorem okTL_mem {D : List Dt} {vars : Int} : ∀ {l : List V} {t : V}, V.okTL D vars l = true → t ∈ l → V.okT D vars t = true
  | [], t, _, h => by simp at h
  | y :: l, t, h, hm => by
    rw [V.okTL_cons] at h
    simp only [Bool.and_eq_true] at h
    rcases List.mem_cons.1 hm with rfl | hm
    · exact h.1
    · exact okTL_mem h.2 hm
theorem V.subL_len (us : List V) : ∀ l : List V, (V.subL us l).length = l.length
  | [] => by rw [V.subL_nil]
  | t :: l => by rw [V.subL_cons, List.length_cons, List.length_cons, V.subL_len us l]
mutual
theorem sub_ok {D : List Dt} {us : List V} {vars w : Int} (hu : V.okTL D w us = true) (hl : (us.length : Int) = vars) : ∀ t : V, V.okT D vars t = true → V.okT D w (V.sub us t) = true
  | .mk k n ts, h => by
    by_cases h4 : k = 4
    · subst h4
      rw [V.okT_mk] at h
      have hs : V.shape D vars 4 n = some (decide (0 ≤ n) && decide (n < vars), 0, 0) := by unfold V.shape; rw [if_neg (by omega), if_pos rfl]
      rw [hs] at h
      simp only [Bool.and_eq_true, decide_eq_true_eq] at h
      rw [V.sub_mk, if_pos ⟨rfl, h.1.1.1.1, by omega⟩]
      have hm : us[n.toNat]?.getD (.mk 0 0 []) ∈ us := by
        rw [List.getElem?_eq_getElem (by omega)]; simp
      exact okTL_mem hu hm
    · rw [V.sub_mk, if_neg (fun e => h4 e.1), V.okT_mk, V.subL_len]
      rw [V.okT_mk] at h
      have hs : V.shape D vars k n = V.shape D w k n := by unfold V.shape; rw [if_neg (c := k = 4) h4, if_neg (c := k = 4) h4]
      rw [hs] at h
      cases hr : V.shape D w k n with
      | none => rw [hr] at h; cases h
      | some r =>
        rw [hr] at h
        obtain ⟨b, lo, hi⟩ := r
        simp only [Bool.and_eq_true] at h ⊢
        exact ⟨h.1, subL_ok hu hl ts h.2⟩
theorem subL_ok {D : List Dt} {us : List V} {vars w : Int} (hu : V.okTL D w us = true) (hl : (us.length : Int) = vars) : ∀ l : List V, V.okTL D vars l = true → V.okTL D w (V.subL us l) = true
  | [], _ => by rw [V.subL_nil, V.okTL_nil]
  | t :: l, h => by
    rw [V.okTL_cons] at h
    simp only [Bool.and_eq_true] at h
    rw [V.subL_cons, V.okTL_cons, sub_ok hu hl t h.1, subL_ok hu hl l h.2]; rfl
end
theorem flds_mem {ts : List V} : ∀ {l fs : List V}, flds ts l = some fs → ∀ f ∈ fs, f.cnt ≤ 200 ∧ ∃ a ∈ l, f = V.sub ts a
  | [], fs, h, f, hf => by simp [flds_nil] at h; subst h; simp at hf
  | a :: l, fs, h, f, hf => by
    rw [flds_cons] at h
    split at h
    · cases h
    · rename_i hn
      cases hr : flds ts l with
      | none => rw [hr] at h; cases h
      | some r =>
        rw [hr] at h
        cases h
        rcases List.mem_cons.1 hf with rfl | hf
        · exact ⟨by omega, a, by simp, rfl⟩
        · obtain ⟨h1, b, hb, h2⟩ := flds_mem hr f hf
          exact ⟨h1, b, by simp [hb], h2⟩
/-- A good ground type. -/
structure Good (D : List Dt) (t : V) : Prop where
  ok : V.okT D 0 t = true
  cnt : t.cnt ≤ 200
theorem Good.kid {D : List Dt} {k n : Int} {ts : List V} {u : V} (h : Good D (.mk k n ts)) (hu : u ∈ ts) : Good D u := by
  have h1 := h.ok
  have h2 := h.cnt
  rw [V.okT_mk] at h1
  rw [V.cnt_mk] at h2
  have := V.cnt_mem hu
  refine ⟨?_, by omega⟩
  split at h1
  · simp only [Bool.and_eq_true] at h1
    exact okTL_mem h1.2 hu
  · cases h1
theorem Good.fields {D : List Dt} (hv : dvalid D = true) {t : V} (h : Good D t) {c : Int} {fs : List V} (hf : fieldsS D t c = some fs) : ∀ f ∈ fs, Good D f := by
  obtain ⟨k, n, ts⟩ := t
  have hok := h.ok
  unfold fieldsS conOf at hf
  simp only at hf
  by_cases hk : k = 5 ∧ 0 ≤ n ∧ 0 ≤ c
  · rw [if_pos hk] at hf
    cases hx : D[n.toNat]? with
    | none => rw [hx] at hf; simp at hf
    | some x =>
      rw [hx] at hf
      simp only at hf
      by_cases hl : (ts.length : Int) = x.vars
      · rw [if_pos hl] at hf
        cases hc : x.cons[c.toNat]? with
        | none => rw [hc] at hf; simp at hf
        | some cc =>
          rw [hc] at hf
          unfold dvalid at hv
          simp only [Bool.and_eq_true] at hv
          have hd := decsR_get hv.2.1 hx
          rw [Nat.zero_add] at hd
          have hca := consR_get hd.2.2.2 (List.mem_of_getElem? hc)
          simp only [V.kids] at hf
          intro f hfm
          obtain ⟨h1, a, ha, rfl⟩ := flds_mem hf f hfm
          refine ⟨?_, h1⟩
          have har := argsR_get hca ha
          rw [← arg_eq hx hd.2.1] at har
          simp only [Bool.and_eq_true] at har
          have hw := har.1
          unfold V.okW at hw
          simp only [Bool.and_eq_true] at hw
          refine sub_ok (vars := x.vars) ?_ hl a (okT_mono a hw.2)
          rw [V.okT_mk] at hok
          split at hok
          · simp only [Bool.and_eq_true] at hok; exact hok.2
          · cases hok
      · rw [if_neg hl] at hf; simp at hf
  · rw [if_neg hk] at hf; simp at hf

/-! ### The type of a value -/
def V.knd : V → Int | .mk k _ _ => k
def V.hd (t : V) : V := t.kids.headD (.mk 0 0 [])
mutual
def V.has (D : List Dt) : V → V → Bool
  | .mk k n ks, t =>
    if k = 1 then decide (t.knd = 3) && decide (n = 0) && decide ((ks.length : Int) = 0)
    else if k = 2 then decide (t.knd = 2) && (decide (n = 0) || decide (n = 1)) && decide ((ks.length : Int) = 0)
    else if k = 3 then decide (t.knd = 1) && decide (-1099511627776 ≤ n) && decide (n ≤ 1099511627776) && decide ((ks.length : Int) = 0)
    else if k = 8 then decide (t.knd = 9) && decide (0 ≤ n) && decide (n < 64) && decide ((ks.length : Int) = 0)
    else if k = 4 then decide (t.knd = 6) && decide (n = 0) && V.hasE D ks t.kids
    else if k = 5 then decide (t.knd = 5) && (match fieldsS D t n with | some fs => V.hasE D ks fs | Option.none => false)
    else if k = 6 then decide (t.knd = 7) && decide (n = 0) && decide ((ks.length : Int) ≤ 4096) && V.hasA D ks t.hd
    else if k = 7 then decide (t.knd = 8) && decide (n = 0) && V.hasE D ks t.kids
    else false
def V.hasE (D : List Dt) : List V → List V → Bool
  | v :: l, ts => match ts with
    | t :: m => V.has D v t && V.hasE D l m
    | [] => false
  | [], ts => ts.isEmpty
def V.hasA (D : List Dt) : List V → V → Bool
  | [], _ => true
  | v :: l, t => V.has D v t && V.hasA D l t
end
theorem V.has_mk (D : List Dt) (k n : Int) (ks : List V) (t : V) : V.has D (.mk k n ks) t =
    if k = 1 then decide (t.knd = 3) && decide (n = 0) && decide ((ks.length : Int) = 0)
    else if k = 2 then decide (t.knd = 2) && (decide (n = 0) || decide (n = 1)) && decide ((ks.length : Int) = 0)
    else if k = 3 then decide (t.knd = 1) && decide (-1099511627776 ≤ n) && decide (n ≤ 1099511627776) && decide ((ks.length : Int) = 0)
    else if k = 8 then decide (t.knd = 9) && decide (0 ≤ n) && decide (n < 64) && decide ((ks.length : Int) = 0)
    else if k = 4 then decide (t.knd = 6) && decide (n = 0) && V.hasE D ks t.kids
    else if k = 5 then decide (t.knd = 5) && (match fieldsS D t n with | some fs => V.hasE D ks fs | Option.none => false)
    else if k = 6 then decide (t.knd = 7) && decide (n = 0) && decide ((ks.length : Int) ≤ 4096) && V.hasA D ks t.hd
    else if k = 7 then decide (t.knd = 8) && decide (n = 0) && V.hasE D ks t.kids
    else false := by rw [V.has]
theorem V.hasE_cons (D : List Dt) (v t : V) (l m : List V) : V.hasE D (v :: l) (t :: m) = (V.has D v t && V.hasE D l m) := by rw [V.hasE]
theorem V.hasE_nil (D : List Dt) : V.hasE D [] [] = true := by simp [V.hasE]
theorem V.hasA_cons (D : List Dt) (v t : V) (l : List V) : V.hasA D (v :: l) t = (V.has D v t && V.hasA D l t) := by rw [V.hasA]
theorem V.hasA_nil (D : List Dt) (t : V) : V.hasA D [] t = true := by rw [V.hasA]
theorem V.hasE_eq (D : List Dt) : ∀ l m : List V, eqL (V.has D) l m = V.hasE D l m
  | [], [] => by rw [eqL_nil, V.hasE_nil]
  | [], t :: m => by rw [eqL_len _ _ _ (by simp), V.hasE]; rfl
  | v :: l, [] => by rw [eqL_len _ _ _ (by simp), V.hasE]
  | v :: l, t :: m => by rw [eqL_cons, V.hasE_cons, V.hasE_eq D l m]
theorem V.hasA_eq (D : List Dt) (t : V) : ∀ l : List V, (!l.any fun v => !V.has D v t) = V.hasA D l t
  | [] => by rw [V.hasA_nil]; rfl
  | v :: l => by rw [V.hasA_cons, ← V.hasA_eq D t l]; simp
attribute [irreducible] V.has V.hasE V.hasA V.hd
end Go.AM
