import Derived.Test.YtfkkfgeepiopaaaGreatDatA
set_option linter.all false
set_option maxRecDepth 20000
set_option maxHeartbeats 2000000
namespace Go.AM
open Go.Proofs

/-! ### Valid data types: the plain law -/
def argR (D : List Dt) (d : Nat) (vars : Int) (t : V) : Bool := isSelf d vars t || V.okW (D.take d) vars t
def argsR (D : List Dt) (d : Nat) (vars : Int) : List V → Bool
  | [] => true
  | t :: l => argR D d vars t && argsR D d vars l
noncomputable def consR (D : List Dt) (d : Nat) (vars : Int) : List Cn → Bool
  | [] => true
  | c :: l => (upName c.name && decide (c.args.length ≤ 6) && argsR D d vars c.args) && consR D d vars l
noncomputable def decsR (D : List Dt) : Nat → List Dt → Bool
  | _, [] => true
  | d, x :: l => (decide (0 ≤ x.vars) && decide (x.vars ≤ 6) && decide (1 ≤ x.cons.length) && decide (x.cons.length ≤ 8) && upName x.name && consR D d x.vars x.cons) && decsR D (d + 1) l
theorem argsR_nil (D : List Dt) (d : Nat) (vars : Int) : argsR D d vars [] = true := rfl
theorem argsR_cons (D : List Dt) (d : Nat) (vars : Int) (t : V) (l : List V) : argsR D d vars (t :: l) = (argR D d vars t && argsR D d vars l) := rfl
theorem consR_nil (D : List Dt) (d : Nat) (vars : Int) : consR D d vars [] = true := rfl
theorem consR_cons (D : List Dt) (d : Nat) (vars : Int) (c : Cn) (l : List Cn) : consR D d vars (c :: l) = ((upName c.name && decide (c.args.length ≤ 6) && argsR D d vars c.args) && consR D d vars l) := rfl
theorem decsR_nil (D : List Dt) (d : Nat) : decsR D d [] = true := rfl
theorem decsR_cons (D : List Dt) (d : Nat) (x : Dt) (l : List Dt) : decsR D d (x :: l) = ((decide (0 ≤ x.vars) && decide (x.vars ≤ 6) && decide (1 ≤ x.cons.length) && decide (x.cons.length ≤ 8) && upName x.name && consR D d x.vars x.cons) && decsR D (d + 1) l) := rfl
def namesOf (D : List Dt) : List ByteArray := D.map (·.name)
def cnamesOf (D : List Dt) : List ByteArray := D.flatMap fun x => x.cons.map (·.name)
noncomputable def dvalid (D : List Dt) : Bool := decide (D.length ≤ 12) && (decsR D 0 D && (ndup (namesOf D) && ndup (cnamesOf D)))
attribute [irreducible] argsR consR decsR argR
structure DN (D : List Dt) : Prop where
  name : ∀ d ∈ D, d.name.size ≤ 10000
  cname : ∀ d ∈ D, ∀ c ∈ d.cons, c.name.size ≤ 10000

/-- Types over one declaration more. -/
theorem shape_take {D : List Dt} {d : Nat} {vars k n : Int} (h : ¬ (k = 5 ∧ n = d)) : V.shape (D.take (d + 1)) vars k n = V.shape (D.take d) vars k n ∨ n < 0 := by
  by_cases hn : n < 0
  · exact .inr hn
  · left
    unfold V.shape
    split
    · rfl
    split
    · rfl
    split
    · rename_i h5
      have hne : n.toNat ≠ d := fun e => h ⟨h5, by omega⟩
      have : (D.take (d + 1))[n.toNat]? = (D.take d)[n.toNat]? := by
        rw [List.getElem?_take, List.getElem?_take]
        by_cases hlt : n.toNat < d
        · rw [if_pos (by omega), if_pos hlt]
        · rw [if_neg (by omega), if_neg hlt]
      rw [this]
    · rfl
theorem okT_neg {D D' : List Dt} {vars k n : Int} {ts : List V} (hn : n < 0) : V.okT D vars (.mk k n ts) = false := by
  rw [V.okT_mk]
  unfold V.shape
  split
  · rename_i b lo hi h
    split at h
    · cases h; simp; omega
    split at h
    · cases h; simp; omega
    split at h
    · split at h <;> cases h; simp; omega
    split at h
    · cases h; simp; omega
    split at h
    · cases h; simp; omega
    split at h
    · cases h; simp; omega
    · cases h
  · rfl
mutual
theorem okT_take {D : List Dt} {d : Nat} {vars : Int} : ∀ t : V, V.ment d t = false → V.okT (D.take (d + 1)) vars t = V.okT (D.take d) vars t
  | .mk k n ts, h => by
    rw [V.ment_mk] at h
    simp only [Bool.or_eq_false_iff, Bool.and_eq_false_iff, decide_eq_false_iff_not] at h
    have hk : ¬ (k = 5 ∧ n = d) := fun e => h.1.elim (fun x => x e.1) (fun x => x e.2)
    rcases shape_take (D := D) (vars := vars) hk with hs | hn
    · rw [V.okT_mk, V.okT_mk, hs, okTL_take ts h.2]
    · rw [okT_neg (D' := []) hn, okT_neg (D' := []) hn]
theorem okTL_take {D : List Dt} {d : Nat} {vars : Int} : ∀ l : List V, V.mentL d l = false → V.okTL (D.take (d + 1)) vars l = V.okTL (D.take d) vars l
  | [], _ => by rw [V.okTL_nil, V.okTL_nil]
  | t :: l, h => by
    rw [V.mentL_cons] at h
    simp only [Bool.or_eq_false_iff] at h
    rw [V.okTL_cons, V.okTL_cons, okT_take t h.1, okTL_take l h.2]
end
mutual
theorem ment_of_ok {D : List Dt} {d : Nat} {vars : Int} : ∀ t : V, V.okT (D.take d) vars t = true → V.ment d t = false
  | .mk k n ts, h => by
    rw [V.ment_mk]
    have hts : V.okTL (D.take d) vars ts = true := by
      rw [V.okT_mk] at h
      split at h
      · simp only [Bool.and_eq_true] at h; exact h.2
      · cases h
    rw [mentL_of_ok ts hts, Bool.or_false]
    by_cases hk : k = 5 ∧ n = d
    · exfalso
      rw [V.okT_mk] at h
      have : V.shape (D.take d) vars k n = Option.none := by
        unfold V.shape
        rw [if_neg (by omega), if_neg (by omega), if_pos hk.1, List.getElem?_take, if_neg (by omega)]
      rw [this] at h
      cases h
    · simp only [Bool.and_eq_false_iff, decide_eq_false_iff_not]
      by_cases h5 : k = 5
      · exact .inr fun e => hk ⟨h5, e⟩
      · exact .inl h5
theorem mentL_of_ok {D : List Dt} {d : Nat} {vars : Int} : ∀ l : List V, V.okTL (D.take d) vars l = true → V.mentL d l = false
  | [], _ => V.mentL_nil _
  | t :: l, h => by
    rw [V.okTL_cons] at h
    simp only [Bool.and_eq_true] at h
    rw [V.mentL_cons, ment_of_ok t h.1, mentL_of_ok l h.2]; rfl
end
theorem self_args {D : List Dt} {vars : Int} : ∀ (l : List V) (i : Nat), selfArgs l i = true → (i : Int) + l.length ≤ vars → V.okTL D vars l = true ∧ V.cntL l = l.length
  | [], i, _, _ => ⟨V.okTL_nil _ _, V.cntL_nil⟩
  | .mk k n us :: l, i, h, hl => by
    rw [selfArgs_cons] at h
    simp only [Bool.and_eq_true, decide_eq_true_eq, List.length_cons] at h hl
    have := self_args (D := D) (vars := vars) l (i + 1) h.2 (by omega)
    have hu : us = [] := List.eq_nil_of_length_eq_zero (by omega)
    subst hu
    obtain ⟨⟨⟨rfl, rfl⟩, _⟩, _⟩ := h
    refine ⟨?_, ?_⟩
    · rw [V.okTL_cons, this.1, Bool.and_true, V.okT_mk]
      have : V.shape D vars 4 i = some (true, 0, 0) := by
        unfold V.shape
        rw [if_neg (by omega), if_pos rfl, decide_eq_true (by omega), decide_eq_true (by omega)]; rfl
      rw [this]
      simp [V.okTL_nil]
    · rw [V.cntL_cons, V.cnt_mk, V.cntL_nil, this.2]; simp; omega
theorem arg_eq {D : List Dt} {d : Nat} {x : Dt} (hd : D[d]? = some x) (h6 : x.vars ≤ 6) (t : V) : (V.okW (D.take (d + 1)) x.vars t && (isSelf d x.vars t || !V.ment d t)) = argR D d x.vars t := by
  unfold argR
  cases hs : isSelf d x.vars t with
  | true =>
    simp only [Bool.true_or, Bool.and_true]
    obtain ⟨k, n, ts⟩ := t
    rw [isSelf_mk] at hs
    simp only [Bool.and_eq_true, decide_eq_true_eq] at hs
    obtain ⟨⟨⟨rfl, rfl⟩, hlen⟩, hsa⟩ := hs
    have h2 := self_args (D := D.take (d + 1)) (vars := x.vars) ts 0 hsa (by omega)
    unfold V.okW
    rw [V.okT_mk]
    have : V.shape (D.take (d + 1)) x.vars 5 (d : Int) = some (true, x.vars, x.vars) := by
      unfold V.shape
      rw [if_neg (by omega), if_neg (by omega), if_pos rfl, Int.toNat_natCast, List.getElem?_take, if_pos (by omega), hd]
      simp
    rw [this, V.cnt_mk, h2.2]
    simp only [h2.1, Bool.true_and, Bool.and_true, Bool.and_eq_true, decide_eq_true_eq]
    omega
  | false =>
    simp only [Bool.false_or]
    unfold V.okW
    cases hm : V.ment d t with
    | false => rw [okT_take t hm]; simp
    | true =>
      simp only [Bool.not_true, Bool.and_false]
      symm
      simp only [Bool.and_eq_false_iff]
      right
      cases ho : V.okT (D.take d) x.vars t with
      | false => rfl
      | true => rw [ment_of_ok t ho] at hm; cases hm
end Go.AM
