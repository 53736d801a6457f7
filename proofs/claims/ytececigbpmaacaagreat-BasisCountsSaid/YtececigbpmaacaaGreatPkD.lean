import Derived.Test.YtececigbpmaacaaGreatPkC
import Derived.Scope
import Derived.Deep.LoopGhost
set_option linter.all false
namespace Go.AM
section
variable {P : Program} {X : Nat → Prop} {w0 : World} {ι0 : Io} {G0 : Own} {n : Nat}

/-- The guard's word. -/
def Wants (ops : List Oper) (F : Fn) (o : Oper) (b : Bool) : Prop :=
  match o.guard with
  | Option.none => b = true
  | some (g, want) => ∃ og d, ops[g]? = some og ∧ og.dst = some d ∧ ((∃ bb, F d = some (.pv (.bool bb)) ∧ b = (bb == want)) ∨ (F d = some (.pv (.tuple [])) ∧ b = false))

structure Stp where
  run : Bool
  x : AV
  u : Upd
  T : List Nat

inductive Tr (P : Program) (ops : List Oper) : Fn → Heap → List Oper → List Stp → Fn → Heap → Prop
  | nil (F : Fn) (H : Heap) : Tr P ops F H [] [] F H
  | run {F H o rest x u T l F' H'} : Wants ops F o true → AStep P F H o x u T → Tr P ops (fnset F o.dst x) (hupd H u) rest l F' H' → Tr P ops F H (o :: rest) (⟨true, x, u, T⟩ :: l) F' H'
  | skip {F H o rest l F' H'} : Wants ops F o false → Tr P ops (fnset F o.dst NV) H rest l F' H' → Tr P ops F H (o :: rest) (⟨false, NV, [], []⟩ :: l) F' H'

def trOf (l : List Stp) : Trace := l.map fun s => (s.T, uids s.u)

theorem br_cases {b : Bool} {X Y : Prop} (h : br b X Y) : (b = true ∧ X) ∨ (b = false ∧ Y) := by cases b; exact .inr ⟨rfl, h⟩; exact .inl ⟨rfl, h⟩

/-- What the reading in the text's order says. -/
theorem tr_of_vops {E : Env} {ops : List Oper} : ∀ (rest : List Oper) (tr : Trace) (K : Trace → Post) (fr : Fr) (H : Heap), vops E ops rest tr K fr H →
    ∃ l fr' H', Tr E.P ops (fget fr) H rest l (fget fr') H' ∧ K ((trOf l).reverse ++ tr) fr' H'
  | [], tr, K, fr, H, h => ⟨[], fr, H, .nil _ _, h⟩
  | o :: rest, tr, K, fr, H, h => by
    simp only [vops] at h
    have yes : ∀ fr1, fget fr1 = fget fr → Wants ops (fget fr) o true → aop E (opd fr1) H o.op (fun x u T => vops E ops rest ((T, uids u) :: tr) K (fput fr1 o.dst x) (hupd H u)) →
        ∃ l fr' H', Tr E.P ops (fget fr) H (o :: rest) l (fget fr') H' ∧ K ((trOf l).reverse ++ tr) fr' H' := by
      intro fr1 hfr hW h
      rw [opd_eq, hfr] at h
      obtain ⟨x, u, T, hK, hS⟩ := astep_of h
      obtain ⟨l, fr', H', hT, hk⟩ := tr_of_vops rest _ K _ _ hK
      rw [fget_fput, hfr] at hT
      exact ⟨_, fr', H', .run hW hS hT, by simpa [trOf] using hk⟩
    have no : ∀ fr1, fget fr1 = fget fr → Wants ops (fget fr) o false → vops E ops rest (([], []) :: tr) K (fput fr1 o.dst NV) H →
        ∃ l fr' H', Tr E.P ops (fget fr) H (o :: rest) l (fget fr') H' ∧ K ((trOf l).reverse ++ tr) fr' H' := by
      intro fr1 hfr hW h
      obtain ⟨l, fr', H', hT, hk⟩ := tr_of_vops rest _ K _ _ h
      rw [fget_fput, hfr] at hT
      exact ⟨_, fr', H', .skip hW hT, by simpa [trOf, uids] using hk⟩
    unfold vguard at h
    cases hg : o.guard with
    | none => simp only [hg] at h; exact yes fr rfl (by simp [Wants, hg]) h
    | some gw =>
      obtain ⟨g, want⟩ := gw
      simp only [hg] at h
      rw [nthO_eq] at h
      cases hog : ops[g]? with
      | none => simp [hog] at h
      | some og =>
        simp only [hog] at h
        cases hd : og.dst with
        | none => simp [hd] at h
        | some d =>
          simp only [hd] at h
          have mk : ∀ b bb, fget fr d = some (.pv (.bool bb)) → b = (bb == want) → Wants ops (fget fr) o b := fun b bb h1 h2 => by
            simp only [Wants, hg]; exact ⟨og, d, hog, hd, .inl ⟨bb, h1, h2⟩⟩
          have mk' : fget fr d = some (.pv (.tuple [])) → Wants ops (fget fr) o false := fun h1 => by
            simp only [Wants, hg]; exact ⟨og, d, hog, hd, .inr ⟨h1, trivial⟩⟩
          split at h
          · rename_i b hfd
            cases want with
            | true =>
              simp only at h
              rcases br_cases h with ⟨rfl, h⟩ | ⟨rfl, h⟩
              · exact yes _ (fget_same hfd) (mk _ _ hfd rfl) h
              · exact no _ (fget_same hfd) (mk _ _ hfd rfl) h
            | false =>
              simp only at h
              rcases br_cases h with ⟨rfl, h⟩ | ⟨rfl, h⟩
              · exact no _ (fget_same hfd) (mk _ _ hfd rfl) h
              · exact yes _ (fget_same hfd) (mk _ _ hfd rfl) h
          · rename_i hfd; exact no fr rfl (mk' hfd) h
          · exact h.elim

theorem getD_bool {a : Act} {d : Nat} {b : Bool} (h : a.tmps.getD d undef = .bool b) : a.tmps[d]? = some (.bool b) := by
  rw [Array.getD_eq_getD_getElem?] at h
  cases ha : a.tmps[d]? with
  | none => rw [ha] at h; simp [undef] at h
  | some v => rw [ha] at h; simpa using h

/-- In the run. -/
theorem wants_run {ops : Array Oper} {F : Fn} {o : Oper} {b : Bool} (h : Wants ops.toList F o b) {w : World} {ι : Io} {G : Own} {a : Act}
    (hF : ∀ t, (∃ g want og, o.guard = some (g, want) ∧ ops[g]? = some og ∧ og.dst = some t) → ∀ v, F t = some v → VR w X ι G v (a.tmps.getD t undef)) : Region.wanted o (yielded ops a.tmps) = b := by
  unfold Wants at h
  unfold Region.wanted
  cases hg : o.guard with
  | none => simp only [hg] at h ⊢; exact h.symm
  | some gw =>
    obtain ⟨g, want⟩ := gw
    simp only [hg] at h ⊢
    obtain ⟨og, d, hog, hd, h⟩ := h
    have hog' : ops[g]? = some og := by simpa using hog
    have hv := hF d ⟨g, want, og, hg, hog', hd⟩
    unfold yielded
    simp only [hog', Option.bind_some, hd]
    rcases h with ⟨bb, h1, rfl⟩ | ⟨h1, rfl⟩
    · have := hv _ h1
      simp only [VR, PR] at this
      rw [getD_bool this]
      cases bb <;> cases want <;> rfl
    · have := hv _ h1
      simp only [VR, PR, TR] at this
      obtain ⟨vs, this, rfl⟩ := this
      rw [Array.getD_eq_getD_getElem?] at this
      cases ht : a.tmps[d]? with
      | none => rfl
      | some v =>
        rw [ht] at this
        simp at this
        subst this
        rfl

theorem St.put {F : Fn} {G : Own} {a : Act} {w : World} {ι : Io} (h : St X w0 ι0 G0 n F G a w ι) {dst : Option Nat} (hd : ∀ d, dst = some d → d < n) {w' : World} {ι' : Io} {G' : Own} {v : Value} {x : AV}
    (hv : VR w' X ι' G' x v) (hC : Conc w' X ι' G') (hG : Gr w ι G w' ι' G') : St X w0 ι0 G0 n (fnset F dst x) G' (a.put dst v) w' ι' where
  conc := hC
  slots := by
    intro d y hy
    have old : ∀ y, F d = some y → VR w' X ι' G' y (a.tmps.getD d undef) := fun y hy => VR.next (hG.next X) _ _ (h.slots d y hy)
    cases dst with
    | none => exact old y hy
    | some e =>
      simp only [fnset] at hy
      simp only [Act.put]
      by_cases he : d = e
      · subst he
        simp only [if_true, Option.some.injEq] at hy
        subst hy
        have : d < a.tmps.size := by rw [h.size]; exact hd d rfl
        simpa [Array.getD_eq_getD_getElem?, Array.getElem?_setIfInBounds, this] using hv
      · rw [if_neg he] at hy
        have he' : ¬ e = d := fun e' => he e'.symm
        have := old y hy
        simpa [Array.getD_eq_getD_getElem?, Array.getElem?_setIfInBounds, he'] using this
  size := by cases dst <;> simp [Act.put, h.size]
  nodef := by cases dst <;> simpa [Act.put] using h.nodef
  gr := h.gr.trans hG

theorem VR_NV {w : World} {ι : Io} {G : Own} : VR w X ι G NV undef := by simp only [NV, VR, PR]; exact ⟨[], rfl, by simp [TR]⟩

/-- In the text's order. -/
theorem wpOps_text {ops : Array Oper} {Q : Exit → Act → World → Prop} (hn : ∀ o ∈ ops.toList, ∀ d, o.dst = some d → d < n) :
    ∀ (rest pre : List Oper) (l : List Stp) (F : Fn) (H : Heap) (F' : Fn) (H' : Heap), ops.toList = pre ++ rest → Tr P ops.toList F H rest l F' H' →
      ∀ a w ι, St X w0 ι0 G0 n F (hget H) a w ι → (∀ a' w' ι', St X w0 ι0 G0 n F' (hget H') a' w' ι' → Q .normal a' w') → wpOps P ops Q (List.range' pre.length rest.length) a w
  | [], pre, l, F, H, F', H', he, hT, a, w, ι, hS, hQ => by
    cases hT
    simpa [wpOps] using hQ a w ι hS
  | o :: rest, pre, l, F, H, F', H', he, hT, a, w, ι, hS, hQ => by
    have ho : ops[pre.length]? = some o := by
      have : ops.toList[pre.length]? = some o := by rw [he]; simp
      simpa using this
    have hmem : o ∈ ops.toList := by rw [he]; simp
    have hgo := fun F1 H1 l1 (hT1 : Tr P ops.toList F1 H1 rest l1 F' H') a1 w1 ι1 hS1 => wpOps_text (Q := Q) hn rest (pre ++ [o]) l1 F1 H1 F' H' (by simpa using he) hT1 a1 w1 ι1 hS1 hQ
    simp only [List.length_append, List.length_singleton] at hgo
    simp only [List.length_cons, List.range'_succ, wpOps_cons]
    unfold wpOp
    simp only [ho]
    have hslots : ∀ t, (∃ g want og, o.guard = some (g, want) ∧ ops[g]? = some og ∧ og.dst = some t) → ∀ v, F t = some v → VR w X ι (hget H) v (a.tmps.getD t undef) := fun t _ v hv => hS.slots t v hv
    cases hT with
    | run hW hA hT =>
      rw [wants_run hW hslots]
      simp only [if_true]
      refine .inl (hA.2 X w ι _ a hS.conc ⟨hlen H, by rw [hget_hlen]; rfl⟩ (fun _ _ => rfl) (fun t _ v hv => hS.slots t v hv) _ _ ?_)
      intro v w' ι' hv hC hG
      exact hgo _ _ _ hT _ _ ι' (by rw [hget_hupd]; exact hS.put (fun d hd => hn o hmem d hd) hv hC hG)
    | skip hW hT =>
      rw [wants_run hW hslots]
      simp only [Bool.false_eq_true, if_false]
      exact hgo _ _ _ hT _ _ ι (hS.put (fun d hd => hn o hmem d hd) VR_NV hS.conc (Gr.refl _ _ _))
end
end Go.AM

namespace Go.AM

/-! ### Writes laid over one another, some of them -/
section
variable {β : Type}
def updW : (Nat → β) → List (Nat × β) → (Nat → β)
  | F, [] => F
  | F, (i, b) :: u => updW (fun j => if j = i then b else F j) u
def keysW (w : List (Nat × β)) : List Nat := w.map (·.1)
def foldW : (Nat → β) → (Nat → Bool) → Nat → List (List (Nat × β)) → (Nat → β)
  | F, _, _, [] => F
  | F, f, k, w :: ws => foldW (if f k then updW F w else F) f (k + 1) ws

theorem updW_congr : ∀ (w : List (Nat × β)) {F F' : Nat → β} {i : Nat}, (i ∉ keysW w → F i = F' i) → updW F w i = updW F' w i
  | [], F, F', i, h => h (by simp [keysW])
  | (j, b) :: w, F, F', i, h => by
    simp only [updW]
    refine updW_congr w fun hi => ?_
    by_cases e : i = j
    · simp [e]
    · simp only [e, if_false]
      exact h (by simpa [keysW, e] using hi)
theorem updW_notin : ∀ (w : List (Nat × β)) {F : Nat → β} {i : Nat}, i ∉ keysW w → updW F w i = F i
  | [], F, i, _ => rfl
  | (j, b) :: w, F, i, h => by
    simp only [keysW, List.map_cons, List.mem_cons, not_or] at h
    simp only [updW]
    rw [updW_notin w h.2]
    simp [h.1]
theorem foldW_congr : ∀ (ws : List (List (Nat × β))) (k : Nat) {F F' : Nat → β} {f f' : Nat → Bool} {i : Nat},
    (∀ j w, ws[j]? = some w → i ∈ keysW w → f (k + j) = f' (k + j)) → F i = F' i → foldW F f k ws i = foldW F' f' k ws i
  | [], k, F, F', f, f', i, h, h0 => h0
  | w :: ws, k, F, F', f, f', i, h, h0 => by
    simp only [foldW]
    refine foldW_congr ws (k + 1) (fun j w' hj hi => by have := h (j + 1) w' (by simpa using hj) hi; simpa [Nat.add_comm, Nat.add_left_comm] using this) ?_
    by_cases hi : i ∈ keysW w
    · have := h 0 w rfl hi
      simp only [Nat.add_zero] at this
      rw [this]
      split
      · exact updW_congr w fun hn => absurd hi hn
      · exact h0
    · split <;> split <;> simp only [updW_notin w hi, h0]
theorem foldW_last : ∀ (ws : List (List (Nat × β))) (k : Nat) {F F' : Nat → β} {f : Nat → Bool} {i j : Nat} {w : List (Nat × β)}, ws[j]? = some w → f (k + j) = true → i ∈ keysW w →
    (∀ j' w', j < j' → ws[j']? = some w' → i ∈ keysW w' → f (k + j') = false) → foldW F f k ws i = updW F' w i
  | [], k, F, F', f, i, j, w, hj, hf, hi, h => by simp at hj
  | v :: ws, k, F, F', f, i, 0, w, hj, hf, hi, h => by
    simp at hj; subst hj
    simp only [Nat.add_zero] at hf
    simp only [foldW, hf, if_true]
    have : ∀ (ws : List (List (Nat × β))) (k : Nat) (F1 : Nat → β), (∀ j' w', ws[j']? = some w' → i ∈ keysW w' → f (k + j') = false) → foldW F1 f k ws i = F1 i := by
      intro ws
      induction ws with
      | nil => intro k F1 _; rfl
      | cons w1 ws ih =>
        intro k F1 h1
        simp only [foldW]
        rw [ih (k + 1) _ fun j' w' hj' hi' => by have := h1 (j' + 1) w' (by simpa using hj') hi'; simpa [Nat.add_comm, Nat.add_left_comm] using this]
        split
        · rename_i hk
          by_cases hi1 : i ∈ keysW w1
          · have := h1 0 w1 rfl hi1; simp [hk] at this
          · exact updW_notin w1 hi1
        · rfl
    rw [this ws (k + 1) _ fun j' w' hj' hi' => by have := h (j' + 1) w' (by omega) (by simpa using hj') hi'; simpa [Nat.add_comm, Nat.add_left_comm] using this]
    exact updW_congr v fun hn => absurd hi hn
  | v :: ws, k, F, F', f, i, j + 1, w, hj, hf, hi, h => by
    simp only [foldW]
    exact foldW_last ws (k + 1) (j := j) (by simpa using hj) (by simpa [Nat.add_comm, Nat.add_left_comm] using hf) hi fun j' w' hlt hj' hi' => by
      have := h (j' + 1) w' (by omega) (by simpa using hj') hi'; simpa [Nat.add_comm, Nat.add_left_comm] using this
/-- One more. -/
theorem foldW_add {ws : List (List (Nat × β))} {F : Nat → β} {f : Nat → Bool} {i : Nat} {w : List (Nat × β)} (hi : ws[i]? = some w)
    (h : ∀ j w' t, i < j → ws[j]? = some w' → t ∈ keysW w → t ∈ keysW w' → f j = false) : foldW F (fun j => f j || j == i) 0 ws = updW (foldW F f 0 ws) w := by
  funext t
  by_cases ht : t ∈ keysW w
  · exact foldW_last ws 0 hi (by simp) ht fun j w' hlt hj ht' => by
      simp only [Nat.zero_add, Bool.or_eq_false_iff]
      exact ⟨h j w' t hlt hj ht ht', by simp; omega⟩
  · rw [updW_notin w ht]
    refine foldW_congr ws 0 (fun j w' hj ht' => ?_) rfl
    have : j ≠ i := by rintro rfl; rw [hi] at hj; cases hj; exact ht ht'
    simp [this]
end

theorem gupd_updW : ∀ (u : Upd) (G : Own), gupd G u = updW G u
  | [], G => rfl
  | (i, b) :: u, G => by simp only [gupd, updW, gupd_updW u]; rfl
def wrF (d : Option Nat) (x : AV) : List (Nat × Option AV) := match d with | some d => [(d, some x)] | Option.none => []
theorem fnset_updW (F : Fn) (d : Option Nat) (x : AV) : fnset F d x = updW F (wrF d x) := by cases d <;> rfl
theorem keys_wrF (d : Option Nat) (x : AV) : keysW (wrF d x) = d.toList := by cases d <;> rfl
theorem keys_upd : ∀ (u : Upd), keysW u = uids u
  | [] => rfl
  | (i, b) :: u => by have := keys_upd u; simp only [keysW] at this; simp [keysW, uids, this]

def wsF : List Oper → List Stp → List (List (Nat × Option AV))
  | o :: os, s :: ss => wrF o.dst s.x :: wsF os ss
  | _, _ => []
def wsG (l : List Stp) : List (List (Nat × AB)) := l.map (·.u)

section
variable {P : Program} {ops : List Oper}

/-- What is known of number i. -/
theorem tr_get {F : Fn} {H : Heap} {os : List Oper} {l : List Stp} {F' : Fn} {H' : Heap} (h : Tr P ops F H os l F' H') : ∀ (k : Nat),
    (∀ i o, os[i]? = some o → ∃ s Hi, l[i]? = some s ∧ hget Hi = foldW (hget H) (fun j => decide (j < k + i)) k (wsG l) ∧ Wants ops (foldW F (fun j => decide (j < k + i)) k (wsF os l)) o s.run ∧
      (s.run = true → AStep P (foldW F (fun j => decide (j < k + i)) k (wsF os l)) Hi o s.x s.u s.T) ∧ (s.run = false → s.x = NV ∧ s.u = [] ∧ s.T = [])) ∧
    os.length = l.length ∧ (∀ f : Nat → Bool, (∀ j, j < os.length → f (k + j) = true) → F' = foldW F f k (wsF os l) ∧ hget H' = foldW (hget H) f k (wsG l)) := by
  have cF : ∀ (ws : List (List (Nat × Option AV))) (k : Nat) (F : Fn) (f f' : Nat → Bool), (∀ j, f (k + j) = f' (k + j)) → foldW F f k ws = foldW F f' k ws := fun ws k F f f' hf => by
    funext t; exact foldW_congr ws k (fun j _ _ _ => hf j) rfl
  have cG : ∀ (ws : List (List (Nat × AB))) (k : Nat) (F : Own) (f f' : Nat → Bool), (∀ j, f (k + j) = f' (k + j)) → foldW F f k ws = foldW F f' k ws := fun ws k F f f' hf => by
    funext t; exact foldW_congr ws k (fun j _ _ _ => hf j) rfl
  have zF : ∀ (ws : List (List (Nat × Option AV))) (k : Nat) (F : Fn), foldW F (fun j => decide (j < k + 0)) k ws = F := fun ws => by
    intro k F
    have : ∀ (ws : List (List (Nat × Option AV))) (k' : Nat) (F : Fn), k ≤ k' → foldW F (fun j => decide (j < k + 0)) k' ws = F := by
      intro ws
      induction ws with
      | nil => intros; rfl
      | cons w ws ih => intro k' F hk; simp only [foldW]; rw [ih _ _ (by omega)]; simp; omega
    exact this ws k F (Nat.le_refl _)
  have zG : ∀ (ws : List (List (Nat × AB))) (k : Nat) (F : Own), foldW F (fun j => decide (j < k + 0)) k ws = F := fun ws => by
    intro k F
    have : ∀ (ws : List (List (Nat × AB))) (k' : Nat) (F : Own), k ≤ k' → foldW F (fun j => decide (j < k + 0)) k' ws = F := by
      intro ws
      induction ws with
      | nil => intros; rfl
      | cons w ws ih => intro k' F hk; simp only [foldW]; rw [ih _ _ (by omega)]; simp; omega
    exact this ws k F (Nat.le_refl _)
  induction h with
  | nil F H => exact fun k => ⟨fun i o ho => by simp at ho, rfl, fun f _ => ⟨rfl, rfl⟩⟩
  | @run F H o rest x u T l F' H' hW hA hT ih =>
    intro k
    obtain ⟨i1, i2, i3⟩ := ih (k + 1)
    refine ⟨fun i o' ho' => ?_, by simp [i2], fun f hf => ?_⟩
    · cases i with
      | zero =>
        simp at ho'; subst ho'
        refine ⟨_, H, rfl, (zG _ _ _).symm, ?_, fun _ => ?_, fun hr => by simp at hr⟩
        · rw [zF]; exact hW
        · rw [zF]; exact hA
      | succ i =>
        obtain ⟨s, Hi, h1, h2, h3, h4, h5⟩ := i1 i o' (by simpa using ho')
        refine ⟨s, Hi, by simpa using h1, ?_, ?_, ?_, h5⟩
        · rw [h2, hget_hupd, gupd_updW]
          simp only [wsG, List.map_cons, foldW, show decide (k < k + (i + 1)) = true by simp, if_true, Nat.add_right_comm, Nat.add_assoc, Nat.add_comm 1]
        · have : foldW F (fun j => decide (j < k + (i + 1))) k (wsF (o :: rest) (⟨true, x, u, T⟩ :: l)) = foldW (fnset F o.dst x) (fun j => decide (j < k + 1 + i)) (k + 1) (wsF rest l) := by
            simp only [wsF, foldW, show decide (k < k + (i + 1)) = true by simp, if_true, fnset_updW]
            refine cF _ _ _ _ _ fun j => ?_
            simp only [decide_eq_decide]; omega
          rw [this]; exact h3
        · have : foldW F (fun j => decide (j < k + (i + 1))) k (wsF (o :: rest) (⟨true, x, u, T⟩ :: l)) = foldW (fnset F o.dst x) (fun j => decide (j < k + 1 + i)) (k + 1) (wsF rest l) := by
            simp only [wsF, foldW, show decide (k < k + (i + 1)) = true by simp, if_true, fnset_updW]
            refine cF _ _ _ _ _ fun j => ?_
            simp only [decide_eq_decide]; omega
          rw [this]; exact h4
    · have hk := hf 0 (by simp)
      simp only [Nat.add_zero] at hk
      obtain ⟨j1, j2⟩ := i3 f fun j hj => by have := hf (j + 1) (by simpa using hj); simpa [Nat.add_comm, Nat.add_left_comm] using this
      simp only [wsF, wsG, List.map_cons, foldW, hk, if_true]
      rw [j1, j2, fnset_updW, hget_hupd, gupd_updW]
      exact ⟨rfl, rfl⟩
  | @skip F H o rest l F' H' hW hT ih =>
    intro k
    obtain ⟨i1, i2, i3⟩ := ih (k + 1)
    refine ⟨fun i o' ho' => ?_, by simp [i2], fun f hf => ?_⟩
    · cases i with
      | zero =>
        simp at ho'; subst ho'
        refine ⟨_, H, rfl, (zG _ _ _).symm, ?_, fun hr => by simp at hr, fun _ => ⟨rfl, rfl, rfl⟩⟩
        rw [zF]; exact hW
      | succ i =>
        obtain ⟨s, Hi, h1, h2, h3, h4, h5⟩ := i1 i o' (by simpa using ho')
        have : foldW F (fun j => decide (j < k + (i + 1))) k (wsF (o :: rest) (⟨false, NV, [], []⟩ :: l)) = foldW (fnset F o.dst NV) (fun j => decide (j < k + 1 + i)) (k + 1) (wsF rest l) := by
          simp only [wsF, foldW, show decide (k < k + (i + 1)) = true by simp, if_true, fnset_updW]
          refine cF _ _ _ _ _ fun j => ?_
          simp only [decide_eq_decide]; omega
        refine ⟨s, Hi, by simpa using h1, ?_, ?_, ?_, h5⟩
        · rw [h2]
          simp only [wsG, List.map_cons, foldW, show decide (k < k + (i + 1)) = true by simp, if_true, Nat.add_right_comm, Nat.add_assoc, Nat.add_comm 1, updW]
        · rw [this]; exact h3
        · rw [this]; exact h4
    · have hk := hf 0 (by simp)
      simp only [Nat.add_zero] at hk
      obtain ⟨j1, j2⟩ := i3 f fun j hj => by have := hf (j + 1) (by simpa using hj); simpa [Nat.add_comm, Nat.add_left_comm] using this
      simp only [wsF, wsG, List.map_cons, foldW, hk, if_true]
      rw [j1, j2, fnset_updW]
      exact ⟨rfl, rfl⟩
end
end Go.AM

namespace Go.AM

theorem memN_iff {a : Nat} : ∀ {l : List Nat}, memN a l = true ↔ a ∈ l
  | [] => by simp [memN]
  | b :: l => by
    simp only [memN]
    cases h : Nat.beq a b with
    | true => simp [Nat.eq_of_beq_eq_true h]
    | false =>
      have : a ≠ b := fun e => by subst e; simp at h
      simp [this, memN_iff]
theorem meetN_iff : ∀ {l k : List Nat}, meetN l k = true ↔ ∃ a, a ∈ l ∧ a ∈ k
  | [], k => by simp [meetN]
  | b :: l, k => by
    simp only [meetN]
    cases h : memN b k with
    | true => simp only [true_iff]; exact ⟨b, by simp, memN_iff.1 h⟩
    | false =>
      have : b ∉ k := fun e => by rw [memN_iff.2 e] at h; simp at h
      simp only [meetN_iff, List.mem_cons]
      constructor
      · rintro ⟨a, h1, h2⟩; exact ⟨a, .inr h1, h2⟩
      · rintro ⟨a, rfl | h1, h2⟩
        · exact absurd h2 this
        · exact ⟨a, h1, h2⟩
theorem revL_eq {α : Type} : ∀ (l k : List α), revL l k = l.reverse ++ k
  | [], k => rfl
  | a :: l, k => by simp [revL, revL_eq l]
theorem binds_eq (e : Edge) : bindsE e = Region.binds .any e := by
  unfold bindsE Region.binds
  cases e.ground <;> rfl

/-- A set of operations with all that must come before. -/
def Closed (ops : List Oper) (D : Nat → Bool) : Prop := ∀ j o e, ops[j]? = some o → e ∈ o.after.toList → bindsE e = true → D j = true → D e.on = true
/-- Number i is surely before number j. -/
def Bef (ops : List Oper) (i j : Nat) : Prop := ∀ D, Closed ops D → (∀ o e, ops[j]? = some o → e ∈ o.after.toList → bindsE e = true → D e.on = true) → D i = true

theorem mem_ancE {ops : List Oper} {anc : List (List Nat)} {n j : Nat} {o : Oper} (ho : ops[j]? = some o) (hn : n ≤ j)
    (hanc : ∀ k, k < n → ∀ l, nthO anc (n - (k + 1)) = some l → ∀ i ∈ l, Bef ops i k) : ∀ (es : List Edge), (∀ e ∈ es, e ∈ o.after.toList) → edgesLt n es = true → ∀ i ∈ ancE anc n es, Bef ops i j
  | [], _, _, i, hi => by simp [ancE] at hi
  | e :: es, hes, hlt, i, hi => by
    simp only [ancE] at hi
    simp only [edgesLt] at hlt
    cases hb : bindsE e <;> simp only [hb] at hi hlt
    · exact mem_ancE ho hn hanc es (fun e he => hes e (List.mem_cons_of_mem _ he)) hlt i hi
    · cases hl : Nat.blt e.on n <;> simp only [hl] at hlt
      · cases hlt
      have hlt' : e.on < n := Nat.le_of_ble_eq_true hl
      have hthis : Bef ops e.on j := fun D hD hp => hp o e ho (hes e (by simp)) hb
      rcases List.mem_cons.1 hi with rfl | hi
      · exact hthis
      · rcases mem_appN.1 hi with hi | hi
        · split at hi
          · rename_i k hk
            have := hanc e.on hlt' k hk i hi
            intro D hD hp
            exact this D hD fun o' e' ho' he' hb' => hD e.on o' e' ho' he' hb' (hthis D hD hp)
          · simp at hi
        · exact mem_ancE ho hn hanc es (fun e he => hes e (List.mem_cons_of_mem _ he)) hlt i hi

theorem okPast_spec {y : OpI} {anc : List Nat} : ∀ (past : List OpI), okPast y anc past = true → ∀ i x, past[i]? = some x → clash x y = true → past.length - (i + 1) ∈ anc
  | [], _, i, x, hx, _ => by simp at hx
  | x' :: past, h, i, x, hx, hc => by
    simp only [okPast] at h
    have hrec : okPast y anc past = true := by
      split at h
      · split at h
        · exact h
        · cases h
      · exact h
    cases i with
    | zero =>
      simp at hx; subst hx
      rw [hc] at h
      simp only at h
      split at h
      · rename_i hm
        have := memN_iff.1 hm
        rw [lenL_eq] at this
        simpa using this
      · cases h
    | succ i =>
      have := okPast_spec past hrec i x (by simpa using hx) hc
      simp only [List.length_cons]
      rwa [show past.length + 1 - (i + 1 + 1) = past.length - (i + 1) by omega]

def infoOf (ops : List Oper) (o : Oper) (t : List Nat × List Nat) : OpI := ⟨lookL ops o, dstL o, t.1, t.2⟩

theorem okDrawGo_spec {ops : List Oper} {full : Trace} : ∀ (rest pre : List Oper) (tr tp : Trace) (past : List OpI) (ancs : List (List Nat)), ops = pre ++ rest → full = tp ++ tr → pre.length = tp.length →
    past.length = pre.length → (∀ k o t, k < pre.length → ops[k]? = some o → full[k]? = some t → past[pre.length - (k + 1)]? = some (infoOf ops o t)) →
    (∀ k, k < pre.length → ∀ l, nthO ancs (pre.length - (k + 1)) = some l → ∀ i ∈ l, Bef ops i k) →
    okDrawGo ops rest tr past ancs = true →
    (∀ j o, pre.length ≤ j → ops[j]? = some o → ∃ t, full[j]? = some t ∧ (∀ e ∈ o.after.toList, bindsE e = true → e.on < j) ∧
      ∀ i o' t', i < j → ops[i]? = some o' → full[i]? = some t' → clash (infoOf ops o' t') (infoOf ops o t) = true → Bef ops i j)
  | [], pre, tr, tp, past, ancs, he, hf, hl, hp, hpast, hanc, h, j, o, hj, ho => by
    have : j < pre.length := by rw [he] at ho; simpa using (List.getElem?_eq_some_iff.1 ho).1
    omega
  | o0 :: rest, pre, [], tp, past, ancs, he, hf, hl, hp, hpast, hanc, h, j, o, hj, ho => by simp [okDrawGo] at h
  | o0 :: rest, pre, t0 :: tr, tp, past, ancs, he, hf, hl, hp, hpast, hanc, h, j, o, hj, ho => by
    obtain ⟨T0, U0⟩ := t0
    simp only [okDrawGo] at h
    rw [lenL_eq, hp] at h
    split at h
    case h_2 => cases h
    rename_i hE hP
    have ho0 : ops[pre.length]? = some o0 := by rw [he]; simp
    have ht0 : full[pre.length]? = some (T0, U0) := by rw [hf, hl]; simp
    have hancs := mem_ancE ho0 (Nat.le_refl _) hanc o0.after.toList (fun _ h => h) hE
    by_cases hj0 : j = pre.length
    · subst hj0
      rw [ho0] at ho; cases ho
      refine ⟨_, ht0, fun e he hb => ?_, fun i o' t' hi ho' ht' hc => ?_⟩
      · have : ∀ (es : List Edge), edgesLt pre.length es = true → ∀ e ∈ es, bindsE e = true → e.on < pre.length := by
          intro es
          induction es with
          | nil => intro _ e he; simp at he
          | cons e1 es ih =>
            intro h1 e he hb
            simp only [edgesLt] at h1
            rcases List.mem_cons.1 he with rfl | he
            · rw [hb] at h1
              simp only at h1
              cases hl : Nat.blt e.on pre.length <;> simp only [hl] at h1
              · cases h1
              · exact Nat.le_of_ble_eq_true hl
            · refine ih ?_ e he hb
              cases hb1 : bindsE e1 <;> simp only [hb1] at h1
              · exact h1
              · split at h1
                · exact h1
                · cases h1
        exact this _ hE e he hb
      · have := okPast_spec past hP _ _ (hpast i o' t' hi ho' ht') hc
        rw [hp, show pre.length - (pre.length - (i + 1) + 1) = i by omega] at this
        exact hancs i this
    · refine okDrawGo_spec rest (pre ++ [o0]) tr (tp ++ [(T0, U0)]) _ _ (by rw [he]; simp) (by rw [hf]; simp) (by simp [hl]) (by simp [hp]) ?_ ?_ h j o (by simp; omega) ho
      · intro k o' t' hk ho' ht'
        simp only [List.length_append, List.length_singleton] at hk ⊢
        by_cases hk0 : k = pre.length
        · subst hk0
          rw [ho0] at ho'; cases ho'
          rw [ht0] at ht'; cases ht'
          simp [infoOf]
        · have := hpast k o' t' (by omega) ho' ht'
          rw [show pre.length + 1 - (k + 1) = (pre.length - (k + 1)) + 1 by omega]
          simpa using this
      · intro k hk l hl' i hi
        simp only [List.length_append, List.length_singleton] at hk hl'
        by_cases hk0 : k = pre.length
        · subst hk0
          simp [nthO] at hl'
          subst hl'
          exact hancs i hi
        · rw [show pre.length + 1 - (k + 1) = (pre.length - (k + 1)) + 1 by omega] at hl'
          simp only [nthO] at hl'
          exact hanc k (by omega) l hl' i hi

/-- What the check says. -/
theorem okDraw_spec {ops : List Oper} {tr : Trace} (h : okDraw ops tr.reverse = true) (j : Nat) (o : Oper) (ho : ops[j]? = some o) :
    ∃ t, tr[j]? = some t ∧ (∀ e ∈ o.after.toList, bindsE e = true → e.on < j) ∧
      ∀ i o' t', i < j → ops[i]? = some o' → tr[i]? = some t' → clash (infoOf ops o' t') (infoOf ops o t) = true → Bef ops i j := by
  unfold okDraw at h
  rw [revL_eq, List.reverse_reverse, List.append_nil] at h
  exact okDrawGo_spec ops [] tr [] [] [] rfl rfl rfl rfl (fun k o t hk => by simp at hk) (fun k hk => by simp at hk) h j o (Nat.zero_le _) ho

theorem clash_dst_look {x y : OpI} {d : Nat} (h1 : d ∈ x.dst) (h2 : d ∈ y.look) : clash x y = true := by
  simp only [clash, Bool.or_eq_true]; exact .inl (.inl (.inl (.inl (.inl (meetN_iff.2 ⟨d, h1, h2⟩)))))
theorem clash_dst_dst {x y : OpI} {d : Nat} (h1 : d ∈ x.dst) (h2 : d ∈ y.dst) : clash x y = true := by
  simp only [clash, Bool.or_eq_true]; exact .inl (.inl (.inl (.inl (.inr (meetN_iff.2 ⟨d, h1, h2⟩)))))
theorem clash_look_dst {x y : OpI} {d : Nat} (h1 : d ∈ x.look) (h2 : d ∈ y.dst) : clash x y = true := by
  simp only [clash, Bool.or_eq_true]; exact .inl (.inl (.inl (.inr (meetN_iff.2 ⟨d, h2, h1⟩))))
theorem clash_U_T {x y : OpI} {d : Nat} (h1 : d ∈ x.U) (h2 : d ∈ y.T) : clash x y = true := by
  simp only [clash, Bool.or_eq_true]; exact .inl (.inl (.inr (meetN_iff.2 ⟨d, h1, h2⟩)))
theorem clash_U_U {x y : OpI} {d : Nat} (h1 : d ∈ x.U) (h2 : d ∈ y.U) : clash x y = true := by
  simp only [clash, Bool.or_eq_true]; exact .inl (.inr (meetN_iff.2 ⟨d, h1, h2⟩))
theorem clash_T_U {x y : OpI} {d : Nat} (h1 : d ∈ x.T) (h2 : d ∈ y.U) : clash x y = true := by
  simp only [clash, Bool.or_eq_true]; exact .inr (meetN_iff.2 ⟨d, h2, h1⟩)

/-! ### Counting -/
def cntF : List Bool → Nat
  | [] => 0
  | b :: l => (if b then 0 else 1) + cntF l
theorem cntF_set : ∀ (l : List Bool) (i : Nat), l[i]? = some false → cntF (l.set i true) + 1 = cntF l
  | [], i, h => by simp at h
  | b :: l, 0, h => by simp at h; subst h; simp [cntF]; omega
  | b :: l, i + 1, h => by simp only [List.set_cons_succ, cntF]; have := cntF_set l i (by simpa using h); omega
theorem cntF_zero : ∀ (l : List Bool), cntF l = 0 → ∀ (i : Nat) (b : Bool), l[i]? = some b → b = true
  | [], _, i, b, h => by simp at h
  | c :: l, h0, 0, b, h => by simp at h; subst h; cases c <;> simp [cntF] at h0 ⊢
  | c :: l, h0, i + 1, b, h => cntF_zero l (by simp only [cntF] at h0; omega) i b (by simpa using h)
theorem cntF_replicate : ∀ n, cntF (List.replicate n false) = n
  | 0 => rfl
  | n + 1 => by simp only [List.replicate_succ, cntF, cntF_replicate n]; simp; omega
end Go.AM

namespace Go.AM
section
variable {P : Program} {X : Nat → Prop} {w0 : World} {ι0 : Io} {G0 : Own} {n : Nat}

theorem wsF_get : ∀ {os : List Oper} {l : List Stp} {j : Nat} {w : List (Nat × Option AV)}, (wsF os l)[j]? = some w → ∃ o s, os[j]? = some o ∧ l[j]? = some s ∧ w = wrF o.dst s.x
  | [], l, j, w, h => by simp [wsF] at h
  | o :: os, [], j, w, h => by simp [wsF] at h
  | o :: os, s :: l, 0, w, h => by simp [wsF] at h; exact ⟨o, s, rfl, rfl, h.symm⟩
  | o :: os, s :: l, j + 1, w, h => by
    simp only [wsF, List.getElem?_cons_succ] at h ⊢
    exact wsF_get h
theorem wsF_of : ∀ {os : List Oper} {l : List Stp} {j : Nat} {o : Oper} {s : Stp}, os[j]? = some o → l[j]? = some s → (wsF os l)[j]? = some (wrF o.dst s.x)
  | [], l, j, o, s, h, k => by simp at h
  | o :: os, [], j, _, _, h, k => by simp at k
  | o :: os, s :: l, 0, _, _, h, k => by simp at h k; subst h; subst k; rfl
  | o :: os, s :: l, j + 1, _, _, h, k => by
    simp only [wsF, List.getElem?_cons_succ] at h k ⊢
    exact wsF_of h k

theorem fresh_foldW {f : Nat → Bool} : ∀ (ws : List (List (Nat × AB))) (k : Nat) (G : Own), (∃ N, ∀ j, N ≤ j → G j = .none) → ∃ N, ∀ j, N ≤ j → foldW G f k ws j = .none := by
  have upd : ∀ (u : List (Nat × AB)) (G : Own), (∃ N, ∀ j, N ≤ j → G j = .none) → ∃ N, ∀ j, N ≤ j → updW G u j = .none := by
    intro u
    induction u with
    | nil => exact fun G h => h
    | cons p u ih =>
      rintro G ⟨N, h⟩
      exact ih _ ⟨N + p.1 + 1, fun j hj => by show (if j = p.1 then p.2 else G j) = .none; rw [if_neg (by omega)]; exact h j (by omega)⟩
  intro ws
  induction ws with
  | nil => exact fun k G h => h
  | cons w ws ih =>
    intro k G h
    simp only [foldW]
    refine ih _ _ ?_
    split
    · exact upd _ _ h
    · exact h
theorem fresh_heap : ∀ (H : Heap), ∃ N, ∀ j, N ≤ j → hget H j = .none
  | [] => ⟨0, fun j _ => hget_nil j⟩
  | b :: H => by
    obtain ⟨N, h⟩ := fresh_heap H
    refine ⟨N + 1, fun j hj => ?_⟩
    cases j with
    | zero => omega
    | succ j => exact h j (by omega)

theorem Gr.drawn {w : World} {ι : Io} {G : Own} (d : Nat) : Gr w ι G { w with drawn := d } ι G :=
  ⟨Nat.le_refl _, rfl, rfl, rfl, fun _ _ _ => rfl, fun _ _ h => h, fun _ _ => rfl, fun _ h => h, fun _ _ h => h, fun _ _ h => ⟨h, rfl⟩⟩
theorem St.drawn {F : Fn} {G : Own} {a : Act} {w : World} {ι : Io} (h : St X w0 ι0 G0 n F G a w ι) (d : Nat) : St X w0 ι0 G0 n F G a { w with drawn := d } ι where
  conc := ⟨h.conc.inj, h.conc.dis, h.conc.xlt, fun id => by
    cases hid : (G id).isNone with
    | true => cases hg : G id <;> simp_all [AB.isNone, BR]
    | false => exact (h.conc.br id).next ((Gr.drawn d).next X) hid (fun _ => rfl), h.conc.laid, h.conc.free⟩
  slots := fun e v hv => VR.next ((Gr.drawn d).next X) _ _ (h.slots e v hv)
  size := h.size
  nodef := h.nodef
  gr := h.gr.trans (Gr.drawn d)

theorem look_tmps {ops : List Oper} {o : Oper} {t : Nat} (h : t ∈ tmpsL (opersOf o.op)) : t ∈ lookL ops o := by
  unfold lookL
  cases o.guard with
  | none => exact h
  | some gw =>
    obtain ⟨g, want⟩ := gw
    simp only
    cases nthO ops g with
    | none => exact h
    | some og => cases hd : og.dst with
      | none => simp only [hd]; exact h
      | some d => simp only [hd]; exact List.mem_cons_of_mem _ h
theorem look_guard {ops : List Oper} {o og : Oper} {g d : Nat} {want : Bool} (h : o.guard = some (g, want)) (hg : ops[g]? = some og) (hd : og.dst = some d) : d ∈ lookL ops o := by
  unfold lookL
  simp only [h, nthO_eq, hg, hd]
  simp

theorem draw_sound {ops : Array Oper} {Q : Exit → Act → World → Prop} {F : Fn} {H : Heap} {l : List Stp} {F' : Fn} {H' : Heap} (hn : ∀ o ∈ ops.toList, ∀ d, o.dst = some d → d < n)
    (hT : Tr P ops.toList F H ops.toList l F' H') (hok : okDraw ops.toList (trOf l).reverse = true)
    (hQ : ∀ a' w' ι', St X w0 ι0 G0 n F' (hget H') a' w' ι' → Q .normal a' w') :
    ∀ (fuel : Nat) (listed : Array Bool) (a : Act) (w : World) (ι : Io), listed.size = ops.size → cntF listed.toList ≤ fuel → Closed ops.toList (fun i => listed.getD i false) →
      St X w0 ι0 G0 n (foldW F (fun i => listed.getD i false) 0 (wsF ops.toList l)) (foldW (hget H) (fun i => listed.getD i false) 0 (wsG l)) a w ι → wpAny P .any ops Q fuel listed a w := by
  obtain ⟨tr1, tr2, tr3⟩ := tr_get hT 0
  -- the end
  have fin : ∀ (listed : Array Bool) (a : Act) (w : World) (ι : Io), listed.size = ops.size → Region.ready .any ops listed = [] →
      St X w0 ι0 G0 n (foldW F (fun i => listed.getD i false) 0 (wsF ops.toList l)) (foldW (hget H) (fun i => listed.getD i false) 0 (wsG l)) a w ι → Q .normal a w := by
    intro listed a w ι hs hr hS
    have all : ∀ j, j < ops.size → listed.getD j false = true := by
      intro j
      induction j using Nat.strongRecOn with
      | _ j ih =>
        intro hj
        cases hlj : listed.getD j false with
        | true => rfl
        | false =>
          have ho : ops[j]? = some ops[j] := by simp [hj]
          obtain ⟨t, _, he, _⟩ := okDraw_spec hok j ops[j] (by simpa using ho)
          have : j ∈ Region.ready .any ops listed := by
            rw [mem_ready]
            refine ⟨?_, ops[j], ho, fun e hem hb => ?_⟩
            · simp only [Array.getD_eq_getD_getElem?] at hlj ⊢
              have : listed[j]? = some (listed[j]'(by omega)) := by simp [hs, hj]
              rw [this] at hlj ⊢
              simpa using hlj
            · have := he e (Array.mem_toList_iff.2 hem) (by rw [binds_eq]; exact hb)
              exact ih e.on this (by omega)
          rw [hr] at this
          cases this
    obtain ⟨h1, h2⟩ := tr3 (fun i => listed.getD i false) (fun j hj => by simp only [Nat.zero_add]; exact all j (by simpa using hj))
    rw [← h1, ← h2] at hS
    exact hQ _ _ _ hS
  intro fuel
  induction fuel with
  | zero =>
    intro listed a w ι hs hc hD hS
    have hr : Region.ready .any ops listed = [] := by
      cases hr : Region.ready .any ops listed with
      | nil => rfl
      | cons i rs =>
        have : i ∈ Region.ready .any ops listed := by rw [hr]; simp
        rw [mem_ready] at this
        obtain ⟨h0, o, ho, _⟩ := this
        have hi : i < listed.size := by rw [hs]; exact (Array.getElem?_eq_some_iff.1 ho).1
        have := cntF_zero listed.toList (by omega) i listed[i] (by simp [hi])
        simp [hi] at h0
        rw [this] at h0
        cases h0
    exact ⟨hr, fin listed a w ι hs hr hS⟩
  | succ fuel ih =>
    intro listed a w ι hs hc hD hS
    refine ⟨fun hr => fin listed a w ι hs hr hS, fun i hi => ?_⟩
    obtain ⟨h0, o, ho, hedges⟩ := mem_ready.1 hi
    have hilt : i < listed.size := by rw [hs]; exact (Array.getElem?_eq_some_iff.1 ho).1
    have hli : listed[i]? = some false := by
      have : listed[i]? = some listed[i] := by simp [hilt]
      simp only [Array.getD_eq_getD_getElem?, this] at h0
      rw [this]; simpa using h0
    have hDi : listed.getD i false = false := by simp [Array.getD_eq_getD_getElem?, hli]
    have hoL : ops.toList[i]? = some o := by simpa using ho
    have hpre : ∀ o' e, ops.toList[i]? = some o' → e ∈ o'.after.toList → bindsE e = true → listed.getD e.on false = true := by
      intro o' e ho' he hb
      rw [hoL] at ho'; cases ho'
      exact hedges e (Array.mem_toList_iff.1 he) (by rw [← binds_eq]; exact hb)
    obtain ⟨s, Hi, hsl, hHi, hW, hA, hSk⟩ := tr1 i o hoL
    simp only [Nat.zero_add] at hHi hW hA
    obtain ⟨ti, hti, hei, hci⟩ := okDraw_spec hok i o hoL
    have htr : ∀ {j : Nat} {sj : Stp}, l[j]? = some sj → (trOf l)[j]? = some (sj.T, uids sj.u) := fun {j sj} h => by simp [trOf, h]
    rw [htr hsl] at hti
    cases hti
    -- what clashes and was run before
    have before : ∀ j oj sj, ops.toList[j]? = some oj → l[j]? = some sj →
        (clash (infoOf ops.toList oj (sj.T, uids sj.u)) (infoOf ops.toList o (s.T, uids s.u)) = true) → (clash (infoOf ops.toList o (s.T, uids s.u)) (infoOf ops.toList oj (sj.T, uids sj.u)) = true) →
        listed.getD j false = decide (j < i) := by
      intro j oj sj hoj hsj hc1 hc2
      rcases Nat.lt_trichotomy j i with hlt | rfl | hgt
      · have := hci j oj _ hlt hoj (htr hsj) hc1
        rw [this _ hD hpre]; simp [hlt]
      · rw [hDi]; simp
      · obtain ⟨tj, htj, hej, hcj⟩ := okDraw_spec hok j oj hoj
        rw [htr hsj] at htj; cases htj
        have hb := hcj i o _ hgt hoL (htr hsl) hc2
        cases hDj : listed.getD j false with
        | false => simp; omega
        | true =>
          have := hb _ hD fun o' e ho' he hb' => hD j o' e ho' he hb' hDj
          simp only [hDi] at this
          cases this
    have slotEq : ∀ t, t ∈ lookL ops.toList o → foldW F (fun i => listed.getD i false) 0 (wsF ops.toList l) t = foldW F (fun j => decide (j < i)) 0 (wsF ops.toList l) t := by
      intro t ht
      refine foldW_congr _ _ (fun j w hj hk => ?_) rfl
      obtain ⟨oj, sj, hoj, hsj, rfl⟩ := wsF_get hj
      rw [keys_wrF] at hk
      have hk' : t ∈ dstL oj := by unfold dstL; cases hd : oj.dst <;> simp_all
      simp only [Nat.zero_add]
      exact before j oj sj hoj hsj (clash_dst_look (x := infoOf ops.toList oj (sj.T, uids sj.u)) (y := infoOf ops.toList o (s.T, uids s.u)) hk' ht) (clash_look_dst (x := infoOf ops.toList o (s.T, uids s.u)) (y := infoOf ops.toList oj (sj.T, uids sj.u)) ht hk')
    have wsGget : ∀ {j : Nat} {w : List (Nat × AB)}, (wsG l)[j]? = some w → ∃ sj, l[j]? = some sj ∧ w = sj.u := fun {j w} h => by
      simp only [wsG, List.getElem?_map, Option.map_eq_some_iff] at h
      obtain ⟨sj, h1, h2⟩ := h
      exact ⟨sj, h1, h2.symm⟩
    have opOf : ∀ {j : Nat} {sj : Stp}, l[j]? = some sj → ∃ oj, ops.toList[j]? = some oj := fun {j sj} h => by
      have : j < ops.toList.length := by rw [tr2]; exact (List.getElem?_eq_some_iff.1 h).1
      exact ⟨_, List.getElem?_eq_getElem this⟩
    have idEq : ∀ id, id ∈ s.T → foldW (hget H) (fun i => listed.getD i false) 0 (wsG l) id = hget Hi id := by
      intro id hid
      rw [hHi]
      refine foldW_congr _ _ (fun j w hj hk => ?_) rfl
      obtain ⟨sj, hsj, rfl⟩ := wsGget hj
      obtain ⟨oj, hoj⟩ := opOf hsj
      rw [keys_upd] at hk
      simp only [Nat.zero_add]
      exact before j oj sj hoj hsj (clash_U_T (x := infoOf ops.toList oj (sj.T, uids sj.u)) (y := infoOf ops.toList o (s.T, uids s.u)) hk hid) (clash_T_U (x := infoOf ops.toList o (s.T, uids s.u)) (y := infoOf ops.toList oj (sj.T, uids sj.u)) hid hk)
    -- what comes after it
    have lateF : ∀ j w' t, i < j → (wsF ops.toList l)[j]? = some w' → t ∈ keysW (wrF o.dst s.x) → t ∈ keysW w' → listed.getD j false = false := by
      intro j w' t hlt hj ht ht'
      obtain ⟨oj, sj, hoj, hsj, rfl⟩ := wsF_get hj
      rw [keys_wrF] at ht ht'
      have k1 : t ∈ dstL oj := by unfold dstL; cases hd : oj.dst <;> simp_all
      have k2 : t ∈ dstL o := by unfold dstL; cases hd : o.dst <;> simp_all
      rw [before j oj sj hoj hsj (clash_dst_dst (x := infoOf ops.toList oj (sj.T, uids sj.u)) (y := infoOf ops.toList o (s.T, uids s.u)) k1 k2) (clash_dst_dst (x := infoOf ops.toList o (s.T, uids s.u)) (y := infoOf ops.toList oj (sj.T, uids sj.u)) k2 k1)]
      simp; omega
    have lateG : ∀ j w' t, i < j → (wsG l)[j]? = some w' → t ∈ keysW s.u → t ∈ keysW w' → listed.getD j false = false := by
      intro j w' t hlt hj ht ht'
      obtain ⟨sj, hsj, rfl⟩ := wsGget hj
      obtain ⟨oj, hoj⟩ := opOf hsj
      rw [keys_upd] at ht ht'
      rw [before j oj sj hoj hsj (clash_U_U (x := infoOf ops.toList oj (sj.T, uids sj.u)) (y := infoOf ops.toList o (s.T, uids s.u)) ht' ht) (clash_U_U (x := infoOf ops.toList o (s.T, uids s.u)) (y := infoOf ops.toList oj (sj.T, uids sj.u)) ht ht')]
      simp; omega
    have hD' : (fun j => (listed.setIfInBounds i true).getD j false) = fun j => (listed.getD j false || j == i) := by
      funext j
      by_cases hj : i = j
      · subst hj; simp [hilt]
      · have : ¬ j = i := fun e => hj e.symm
        rw [getD_set_ne false hj]; simp [this]
    have go : ∀ (v : Value) (w' : World) (ι' : Io), VR w' X ι' (gupd (foldW (hget H) (fun i => listed.getD i false) 0 (wsG l)) s.u) s.x v →
        Conc w' X ι' (gupd (foldW (hget H) (fun i => listed.getD i false) 0 (wsG l)) s.u) →
        Gr w ι (foldW (hget H) (fun i => listed.getD i false) 0 (wsG l)) w' ι' (gupd (foldW (hget H) (fun i => listed.getD i false) 0 (wsG l)) s.u) →
        wpAny P .any ops Q fuel (listed.setIfInBounds i true) (a.put o.dst v) w' := by
      intro v w' ι' hv hC hG
      refine ih (listed.setIfInBounds i true) _ w' ι' (by simpa using hs) ?_ ?_ ?_
      · have := cntF_set listed.toList i (by simpa using hli)
        rw [Array.toList_setIfInBounds]; omega
      · intro j o' e ho' he hb hj
        rw [hD'] at hj ⊢
        simp only [Bool.or_eq_true, beq_iff_eq] at hj ⊢
        rcases hj with hj | rfl
        · exact .inl (hD j o' e ho' he hb hj)
        · exact .inl (hpre o' e ho' he hb)
      · rw [hD', foldW_add (wsF_of hoL hsl) lateF, foldW_add (i := i) (w := s.u) (by simp [wsG, hsl]) lateG, ← fnset_updW, ← gupd_updW]
        exact hS.put (fun d hd => hn o (List.mem_of_getElem? hoL) d hd) hv hC hG
    have hslots : ∀ t ∈ lookL ops.toList o, ∀ v, foldW F (fun j => decide (j < i)) 0 (wsF ops.toList l) t = some v →
        VR w X ι (foldW (hget H) (fun i => listed.getD i false) 0 (wsG l)) v (a.tmps.getD t undef) := fun t ht v hv => hS.slots t v (by rw [slotEq t ht]; exact hv)
    unfold wpOp
    simp only [ho]
    rw [wants_run hW (w := w) (ι := ι) (X := X) (G := foldW (hget H) (fun i => listed.getD i false) 0 (wsG l)) (a := a) (fun t ht => by
      obtain ⟨g, want, og, h1, h2, h3⟩ := ht
      exact hslots t (look_guard h1 (by simpa using h2) h3))]
    cases hrun : s.run with
    | true =>
      simp only [if_true]
      refine .inl ((hA hrun).2 X w ι _ a hS.conc ?_ idEq (fun t ht => hslots t (look_tmps ht)) _ _ go)
      obtain ⟨N, hN⟩ := fresh_foldW (f := fun i => listed.getD i false) (wsG l) 0 (hget H) (fresh_heap H)
      exact ⟨N, by rw [hN N (Nat.le_refl _)]; rfl⟩
    | false =>
      simp only [Bool.false_eq_true, if_false]
      obtain ⟨e1, e2, e3⟩ := hSk hrun
      refine go undef w ι ?_ ?_ ?_
      · rw [e1, e2]; exact VR_NV
      · rw [e2]; exact hS.conc
      · rw [e2]; exact Gr.refl _ _ _

/-- A region, drawn or not. -/
theorem region_sound {E : Env} (hm : E.P.follows .mixedOrders = true) {id : Nat} {ops : Array Oper} {draw : Bool} {K : Post} {Q : Exit → Act → World → Prop} {fr : Fr} {H : Heap} (hn : ∀ o ∈ ops.toList, ∀ d, o.dst = some d → d < n)
    (h : vops E ops.toList ops.toList [] (fun tr => match draw with
      | false => K
      | true => drawn ops.toList tr K) fr H) {a : Act} {w : World} {ι : Io} (hS : St X w0 ι0 G0 n (fget fr) (hget H) a w ι)
    (hQ : ∀ fr' H', K fr' H' → ∀ a' w' ι', St X w0 ι0 G0 n (fget fr') (hget H') a' w' ι' → Q .normal a' w') : (Code.region id ops draw).wp E.P Q a w := by
  obtain ⟨l, fr', H', hT, hK⟩ := tr_of_vops _ _ _ _ _ h
  cases draw with
  | false =>
    simp only at hK
    refine wp_region ?_
    rw [List.range_eq_range']
    have := wpOps_text (Q := Q) hn ops.toList [] l _ _ _ _ rfl hT a w ι hS (hQ fr' H' hK)
    simpa using this
  | true =>
    simp only [List.append_nil] at hK
    obtain ⟨hok, hK⟩ := drawn_out hK
    · refine wp_region_any hm (draw_sound hn hT hok (hQ fr' H' hK) ops.size _ a _ ι (by simp) ?_ ?_ ?_)
      · simp [cntF_replicate]
      · intro j o e ho he hb hj
        simp only [Array.getD_eq_getD_getElem?, Array.getElem?_replicate] at hj
        split at hj <;> simp at hj
      · have zF : ∀ {β : Type} (ws : List (List (Nat × β))) (k : Nat) (F : Nat → β), foldW F (fun i => (Array.replicate ops.size false).getD i false) k ws = F := by
          intro β ws
          induction ws with
          | nil => intros; rfl
          | cons w ws ih =>
            intro k F
            simp only [foldW]
            rw [ih]
            have : (Array.replicate ops.size false).getD k false = false := by
              simp only [Array.getD_eq_getD_getElem?, Array.getElem?_replicate]
              split <;> rfl
            simp [this]
        rw [zF, zF]
        exact hS.drawn _
end
end Go.AM

namespace Go.AM
section
variable {X : Nat → Prop} {w0 : World} {ι0 : Io} {G0 : Own} {n : Nat}

/-- What the run's end must meet. -/
def Meets (X : Nat → Prop) (w0 : World) (ι0 : Io) (G0 : Own) (n : Nat) (K : Ex → Post) (Q : Exit → Act → World → Prop) : Prop :=
  ∀ ex fr H, K ex fr H → ∀ a w ι, St X w0 ι0 G0 n (fget fr) (hget H) a w ι → Q (match ex with | .normal => .normal | .exit id => .exit id | .ret => .ret) a w

theorem St.congr {F F' : Fn} {G : Own} {a : Act} {w : World} {ι : Io} (h : St X w0 ι0 G0 n F G a w ι) (he : F' = F) : St X w0 ι0 G0 n F' G a w ι := he ▸ h

theorem vc_sound {E : Env} (hm : E.P.follows .mixedOrders = true) (hG0 : ∀ id, E.m ≤ id → (G0 id).isNone = true) : ∀ (c : Code) (K : Ex → Post) (fr : Fr) (H : Heap), dstsLt n c = true → vc E c K fr H →
    ∀ (Q : Exit → Act → World → Prop), Meets X w0 ι0 G0 n K Q → ∀ a w ι, St X w0 ι0 G0 n (fget fr) (hget H) a w ι → c.wp E.P Q a w
  | .skip, K, fr, H, _, h, Q, hQ, a, w, ι, hS => wp_skip (hQ .normal fr H h a w ι hS)
  | .label l, K, fr, H, _, h, Q, hQ, a, w, ι, hS => wp_label (hQ .normal fr H h a w ι hS)
  | .ret, K, fr, H, _, h, Q, hQ, a, w, ι, hS => wp_ret (hQ .ret fr H h a w ι hS)
  | .exit id, K, fr, H, _, h, Q, hQ, a, w, ι, hS => wp_exit (hQ (.exit id) fr H h a w ι hS)
  | .seq x y, K, fr, H, hn, h, Q, hQ, a, w, ι, hS => by
    simp only [dstsLt, Bool.and_eq_true] at hn
    simp only [vc] at h
    refine wp_seq (vc_sound hm hG0 x _ fr H hn.1 h _ ?_ a w ι hS)
    intro ex fr' H' hk a' w' ι' hS'
    cases ex with
    | normal => exact vc_sound hm hG0 y K fr' H' hn.2 hk Q hQ a' w' ι' hS'
    | exit id => exact hQ (.exit id) fr' H' hk a' w' ι' hS'
    | ret => exact hQ .ret fr' H' hk a' w' ι' hS'
  | .cond c x y, K, fr, H, hn, h, Q, hQ, a, w, ι, hS => by
    simp only [dstsLt, Bool.and_eq_true] at hn
    simp only [vc] at h
    split at h
    · rename_i d
      split at h
      · rename_i b hb
        have hv := hS.slots d _ hb
        simp only [VR, PR] at hv
        have he : a.eval (.tmp d) = .bool b := hv
        rcases br_cases h with ⟨rfl, h⟩ | ⟨rfl, h⟩
        · exact wp_cond_true he (vc_sound hm hG0 x K _ H hn.1 h Q hQ a w ι (hS.congr (fget_same hb)))
        · exact wp_cond_false he (vc_sound hm hG0 y K _ H hn.2 h Q hQ a w ι (hS.congr (fget_same hb)))
      · exact h.elim
    · rename_i b
      rcases br_cases h with ⟨rfl, h⟩ | ⟨rfl, h⟩
      · exact wp_cond_true rfl (vc_sound hm hG0 x K _ H hn.1 h Q hQ a w ι hS)
      · exact wp_cond_false rfl (vc_sound hm hG0 y K _ H hn.2 h Q hQ a w ι hS)
    · exact h.elim
  | .block id c, K, fr, H, hn, h, Q, hQ, a, w, ι, hS => by
    simp only [dstsLt] at hn
    simp only [vc] at h
    refine wp_block (vc_sound hm hG0 c _ fr H hn h _ ?_ a w ι hS)
    intro ex fr' H' hk a' w' ι' hS'
    cases ex with
    | normal => exact hQ .normal fr' H' hk a' w' ι' hS'
    | exit id' =>
      simp only [Exit.inBlock]
      simp only at hk
      cases hb : Nat.beq id' id <;> simp only [hb] at hk
      · have : ¬ id' = id := fun e => by subst e; simp at hb
        rw [if_neg this]
        exact hQ (.exit id') fr' H' hk a' w' ι' hS'
      · rw [if_pos (Nat.eq_of_beq_eq_true hb)]
        exact hQ .normal fr' H' hk a' w' ι' hS'
    | ret => exact hQ .ret fr' H' hk a' w' ι' hS'
  | .loop c, K, fr, H, hn, h, Q, hQ, a, w, ι, hS => by
    simp only [dstsLt] at hn
    simp only [vc] at h
    obtain ⟨σ, I, S, μ, x0, hI0, hW, hround⟩ := h
    obtain ⟨ι1, hS1⟩ := hW.run X w0 ι0 G0 n a w ι hG0 hS
    refine wp_loop_ghost (fun k a w => ∃ x ι, I x ∧ μ x = k ∧ St X w0 ι0 G0 n (fget (S x).1) (hget (S x).2) a w ι) (μ x0) ⟨x0, ι1, hI0, rfl, hS1⟩ ?_
    rintro k a w ⟨x, ι, hIx, rfl, hSx⟩
    refine vc_sound hm hG0 c _ _ _ hn (hround x hIx) _ ?_ a w ι hSx
    intro ex fr' H' hk a' w' ι' hS'
    cases ex with
    | normal =>
      obtain ⟨x', hI', hW', hlt⟩ := hk
      obtain ⟨ι2, hS2⟩ := hW'.run X w0 ι0 G0 n a' w' ι' hG0 hS'
      exact ⟨μ x', hlt, x', ι2, hI', rfl, hS2⟩
    | exit id => exact hQ (.exit id) fr' H' hk a' w' ι' hS'
    | ret => exact hQ .ret fr' H' hk a' w' ι' hS'
  | .region id ops draw, K, fr, H, hn, h, Q, hQ, a, w, ι, hS => by
    simp only [vc] at h
    refine region_sound hm (K := K .normal) ?_ ?_ hS fun fr' H' hk a' w' ι' hS' => hQ .normal fr' H' hk a' w' ι' hS'
    · intro o ho d hd
      simp only [dstsLt, List.all_eq_true] at hn
      have := hn o ho
      rw [hd] at this
      exact Nat.le_of_ble_eq_true this
    · cases draw
      · exact h
      · have e : (fun tr => drawn ops.toList tr (K .normal)) = (fun tr => match true with | false => K .normal | true => drawn ops.toList tr (K .normal)) := rfl
        exact h
  | .rangeFunc .., K, fr, H, _, h, Q, hQ, a, w, ι, hS => h.elim
  | .scope c, K, fr, H, hn, h, Q, hQ, a, w, ι, hS => by
    simp only [dstsLt] at hn
    simp only [vc] at h
    refine wp_scope_straight (vc_sound hm hG0 c K fr H hn h _ ?_ a w ι hS)
    intro ex fr' H' hk a' w' ι' hS'
    have := hQ ex fr' H' hk a' w' ι' hS'
    cases ex <;> exact this
  | .goto _, K, fr, H, _, h, Q, hQ, a, w, ι, hS => h.elim
  | .refuse _, K, fr, H, _, h, Q, hQ, a, w, ι, hS => h.elim

end
end Go.AM

namespace Go.AM

/-! ### A nil slice is an empty one -/
mutual
inductive PLe : PV → PV → Prop
  | refl (p : PV) : PLe p p
  | nils (sz : Nat) : PLe .nils (.lst sz [])
  | agg {cs ds} : PLeL cs ds → PLe (.agg cs) (.agg ds)
  | tuple {cs ds} : PLeL cs ds → PLe (.tuple cs) (.tuple ds)
  | fn {f cs ds} : PLeL cs ds → PLe (.fn f cs) (.fn f ds)
  | lst {sz cs ds} : PLeL cs ds → PLe (.lst sz cs) (.lst sz ds)
  | cp {cs ds} : PLeL cs ds → PLe (.cp cs) (.cp ds)
inductive PLeL : List PV → List PV → Prop
  | nil : PLeL [] []
  | cons {p q ps qs} : PLe p q → PLeL ps qs → PLeL (p :: ps) (q :: qs)
end
theorem PLeL.len : ∀ {cs ds : List PV}, PLeL cs ds → cs.length = ds.length
  | _, _, .nil => rfl
  | _, _, .cons _ h => by simp [h.len]
theorem PLeL.refl : ∀ (l : List PV), PLeL l l
  | [] => .nil
  | p :: l => .cons (.refl p) (PLeL.refl l)
section
variable {w : World} {X : Nat → Prop}
mutual
theorem PLe.sound : ∀ {p q : PV}, PLe p q → ∀ (v : Value), PR w X p v → PR w X q v
  | _, _, .refl p, v, h => h
  | _, _, .nils sz, v, h => by simp only [PR] at h ⊢; subst h; exact ⟨Option.none, 0, rfl, Nat.le_refl _, Nat.zero_le _, by simp [ER]⟩
  | _, _, .agg hl, v, h => by simp only [PR] at h ⊢; obtain ⟨vs, rfl, h⟩ := h; exact ⟨vs, rfl, PLeL.soundC hl vs h⟩
  | _, _, .tuple hl, v, h => by simp only [PR] at h ⊢; obtain ⟨vs, rfl, h⟩ := h; exact ⟨vs, rfl, PLeL.soundT hl vs h⟩
  | _, _, .fn hl, v, h => by simp only [PR] at h ⊢; obtain ⟨vs, rfl, h⟩ := h; exact ⟨vs, rfl, PLeL.soundT hl vs h⟩
  | _, _, .lst hl, v, h => by
    simp only [PR] at h ⊢
    obtain ⟨A, cap, rfl, h1, h2, h3⟩ := h
    exact ⟨A, cap, by rw [PLeL.len hl], by rw [← PLeL.len hl]; exact h1, h2, PLeL.soundE hl _ A 0 h3⟩
  | _, _, .cp hl, v, h => by simp only [PR] at h ⊢; obtain ⟨ad, vs, rfl, h1, h2, h3, h⟩ := h; exact ⟨ad, vs, rfl, h1, h2, h3, PLeL.soundC hl vs h⟩
theorem PLeL.soundC : ∀ {cs ds : List PV}, PLeL cs ds → ∀ (vs : List Value), CR w X cs vs → CR w X ds vs
  | _, _, .nil, vs, h => h
  | _, _, .cons h0 hl, vs, h => by simp only [CR] at h ⊢; obtain ⟨u, us, rfl, h1, h2, h3⟩ := h; exact ⟨u, us, rfl, h1, PLe.sound h0 u h2, PLeL.soundC hl us h3⟩
theorem PLeL.soundT : ∀ {cs ds : List PV}, PLeL cs ds → ∀ (vs : List Value), TR w X cs vs → TR w X ds vs
  | _, _, .nil, vs, h => h
  | _, _, .cons h0 hl, vs, h => by simp only [TR] at h ⊢; obtain ⟨u, us, rfl, h2, h3⟩ := h; exact ⟨u, us, rfl, PLe.sound h0 u h2, PLeL.soundT hl us h3⟩
theorem PLeL.soundE : ∀ {cs ds : List PV}, PLeL cs ds → ∀ (sz : Nat) (A : Option Addr) (i : Nat), ER w X cs sz A i → ER w X ds sz A i
  | _, _, .nil, sz, A, i, h => h
  | _, _, .cons h0 hl, sz, A, i, h => by
    simp only [ER] at h ⊢
    obtain ⟨⟨ad, v, h1, h2, h3, h4, h5⟩, h6⟩ := h
    exact ⟨⟨ad, v, h1, h2, h3, PLe.sound h0 v h4, h5⟩, PLeL.soundE hl sz A (i + 1) h6⟩
end
end
end Go.AM

namespace Go.AM

/-! ### Reading what was built -/
mutual
/-- x, all told: a tree; S: the blocks that are read. -/
inductive Rd (S : Nat → Prop) (H : Heap) : AV → PV → Prop
  | pv (p : PV) : Rd S H (.pv p) p
  | le {p q : PV} : PLe p q → Rd S H (.pv p) q
  | mix {cs ps} : RdL S H cs ps → Rd S H (.mix cs) (.agg ps)
  | tup {cs ps} : RdL S H cs ps → Rd S H (.tup cs) (.tuple ps)
  | fn {f cs ps} : RdL S H cs ps → Rd S H (.fn f cs) (.fn f ps)
  | row {id n t sz xs ps} : S id → hget H id = .row t sz xs → n ≤ xs.length → RdL S H xs ps → Rd S H (.row id n) (.lst sz (ps.take n))
  | frow {id n sz ps} : S id → hget H id = .frozen sz ps → n ≤ ps.length → Rd S H (.row id n) (.lst sz (ps.take n))
  | bp {id o t cs ps} : S id → hget H id = .box t cs → RdL S H cs ps → Rd S H (.bp id o) (.cp (ps.drop o))
  | fbp {id o ps} : S id → hget H id = .fbox ps → Rd S H (.bp id o) (.cp (ps.drop o))
inductive RdL (S : Nat → Prop) (H : Heap) : List AV → List PV → Prop
  | nil : RdL S H [] []
  | cons {x p xs ps} : Rd S H x p → RdL S H xs ps → RdL S H (x :: xs) (p :: ps)
end

theorem RdL.len {S : Nat → Prop} {H : Heap} : ∀ {xs : List AV} {ps : List PV}, RdL S H xs ps → xs.length = ps.length
  | _, _, .nil => rfl
  | _, _, .cons _ h => by simp [RdL.len h]

section
variable {w : World} {X : Nat → Prop} {ι : Io} {G : Own} {H : Heap} {S : Nat → Prop}

/-- What a value that was read doesn't lean on. -/
def offS (X : Nat → Prop) (ι : Io) (G : Own) (S : Nat → Prop) (b : Nat) : Prop := X b ∨ ∃ id, ¬ S id ∧ (G id).live = true ∧ (ι id).1 = b

theorem offS_off {b : Nat} (h : offS X ι G S b) : off X ι G b := h.elim .inr fun ⟨id, _, h1, h2⟩ => .inl ⟨id, h1, h2⟩
theorem PR.less {Y Y' : Nat → Prop} (h : ∀ b, Y' b → Y b) {p : PV} {v : Value} (hp : PR w Y p v) : PR w Y' p v :=
  PR.later ⟨Nat.le_refl _, fun _ _ _ => rfl, fun b _ hb => h b hb⟩ p v hp
theorem CR_drop {Y : Nat → Prop} : ∀ (n : Nat) {ps : List PV} {vs : List Value}, CR w Y ps vs → CR w Y (ps.drop n) (vs.drop n)
  | 0, ps, vs, h => h
  | n + 1, [], vs, h => by simp only [CR] at h; subst h; simp [CR]
  | n + 1, p :: ps, vs, h => by
    simp only [CR] at h
    obtain ⟨u, us, rfl, _, _, h⟩ := h
    exact CR_drop n h
theorem PR_cp_drop {Y : Nat → Prop} {ps : List PV} {b o : Nat} (h : PR w Y (.cp ps) (.pointer (some ⟨b, 0, none⟩))) : PR w Y (.cp (ps.drop o)) (.pointer (some ⟨b, o, none⟩)) := by
  simp only [PR] at h ⊢
  obtain ⟨ad, vs, he, h1, h2, h3, h4⟩ := h
  cases he
  refine ⟨_, vs.drop o, rfl, h1, h2, fun j u hj => ?_, CR_drop o h4⟩
  have := h3 (o + j) u (by simpa using hj)
  rw [add_mk] at this ⊢
  simpa using this
theorem not_offS {id : Nat} (hC : Conc w X ι G) (hs : S id) (hl : (G id).live = true) : ¬ offS X ι G S (ι id).1 := by
  rintro (h | ⟨id', h1, h2, h3⟩)
  · exact hC.dis id hl h
  · exact h1 (hC.inj id' id h2 hl h3 ▸ hs)

theorem CR_of {Y : Nat → Prop} : ∀ {cs : List AV} {ps : List PV} {vs : List Value}, cs.length = ps.length → (∀ (i : Nat) x p, cs[i]? = some x → ps[i]? = some p → ∀ a, VR w X ι G x a → PR w Y p a) → CV w X ι G cs vs → CR w Y ps vs
  | [], [], vs, _, _, h => by simp only [CV] at h; subst h; simp [CR]
  | [], _ :: _, vs, h, _, _ => by simp at h
  | _ :: _, [], vs, h, _, _ => by simp at h
  | c :: cs, p :: ps, vs, hl, hr, h => by
    simp only [CV] at h
    obtain ⟨u, us, rfl, h1, h2, h3⟩ := h
    simp only [CR]
    exact ⟨u, us, rfl, h1, hr 0 c p rfl rfl u h2, CR_of (by simpa using hl) (fun i x p hx hp => hr (i + 1) x p (by simpa using hx) (by simpa using hp)) h3⟩
theorem TR_of {Y : Nat → Prop} : ∀ {cs : List AV} {ps : List PV} {vs : List Value}, cs.length = ps.length → (∀ (i : Nat) x p, cs[i]? = some x → ps[i]? = some p → ∀ a, VR w X ι G x a → PR w Y p a) → TV w X ι G cs vs → TR w Y ps vs
  | [], [], vs, _, _, h => by simp only [TV] at h; subst h; simp [TR]
  | [], _ :: _, vs, h, _, _ => by simp at h
  | _ :: _, [], vs, h, _, _ => by simp at h
  | c :: cs, p :: ps, vs, hl, hr, h => by
    simp only [TV] at h
    obtain ⟨u, us, rfl, h2, h3⟩ := h
    simp only [TR]
    exact ⟨u, us, rfl, hr 0 c p rfl rfl u h2, TR_of (by simpa using hl) (fun i x p hx hp => hr (i + 1) x p (by simpa using hx) (by simpa using hp)) h3⟩
theorem ER_of {Y : Nat → Prop} {sz : Nat} {b : Nat} (hb : b < w.heap.size) (hY : ¬ Y b) {cells : Array Value} {t : TypeId} {fr : Nat × Nat} (hh : w.heap[b]? = some (.cells cells t fr)) :
    ∀ {ps : List PV} {k : Nat}, (∀ (i : Nat) p, ps[i]? = some p → ∃ v : Value, PR w Y p v ∧ v.cells.size = sz ∧ ∀ j u, v.cells[j]? = some u → cells[(k + i) * sz + j]? = some u ∧ u.oneCell' = true) → ER w Y ps sz (some ⟨b, 0, none⟩) k
  | [], k, _ => by simp [ER]
  | p :: ps, k, h => by
    simp only [ER]
    refine ⟨?_, ER_of hb hY hh fun i p hp => ?_⟩
    · obtain ⟨v, h1, h2, h3⟩ := h 0 p rfl
      refine ⟨⟨b, 0, none⟩, v, rfl, hb, hY, h1, h2, fun j u hj => ⟨?_, (h3 j u hj).2⟩⟩
      rw [add_mk, cell_mk hh]
      simpa using (h3 j u hj).1
    · obtain ⟨v, h1, h2, h3⟩ := h (i + 1) p (by simpa using hp)
      exact ⟨v, h1, h2, fun j u hj => by rw [show k + 1 + i = k + (i + 1) by omega]; exact h3 j u hj⟩

mutual
theorem Rd.sound (hC : Conc w X ι G) (hG : ∀ id, S id → G id = hget H id) : ∀ {x : AV} {p : PV}, Rd S H x p → ∀ a, VR w X ι G x a → PR w (offS X ι G S) p a
  | _, _, .pv p, a, h => by simp only [VR] at h; exact h.less fun b hb => offS_off hb
  | _, _, .le hle, a, h => by simp only [VR] at h; exact PR.less (fun b hb => offS_off hb) (PLe.sound hle a h)
  | _, _, .mix hl, a, h => by
    simp only [VR] at h
    obtain ⟨vs, rfl, h⟩ := h
    simp only [PR]
    exact ⟨vs, rfl, CR_of (RdL.len hl) (RdL.sound hC hG hl) h⟩
  | _, _, .tup hl, a, h => by
    simp only [VR] at h
    obtain ⟨vs, rfl, h⟩ := h
    simp only [PR]
    exact ⟨vs, rfl, TR_of (RdL.len hl) (RdL.sound hC hG hl) h⟩
  | _, _, .fn hl, a, h => by
    simp only [VR] at h
    obtain ⟨vs, rfl, h⟩ := h
    simp only [PR]
    exact ⟨vs, rfl, TR_of (RdL.len hl) (RdL.sound hC hG hl) h⟩
  | _, _, @Rd.row _ _ id n t sz xs ps hs hid hn hl, a, h => by
    have hGid := hG id hs
    rw [hid] at hGid
    simp only [VR] at h
    obtain ⟨rfl, hcap⟩ := h.2.1 (by rw [hGid]; rfl)
    have hbr := hC.br id
    rw [hGid] at hbr
    obtain ⟨cells, hh, hsz, hlen, hmax, hEV⟩ := hbr
    have hlen2 := RdL.len hl
    simp only [PR]
    refine ⟨_, (ι id).2, by rw [List.length_take, Nat.min_eq_left (by omega)], by rw [List.length_take]; omega, hmax, ?_⟩
    refine ER_of (Array.getElem?_eq_some_iff.1 hh).1 (not_offS hC hs (by rw [hGid]; rfl)) hh fun i p hp => ?_
    have hp' : ps[i]? = some p := by
      rw [List.getElem?_take] at hp
      split at hp
      · exact hp
      · cases hp
    have hi : i < xs.length := by rw [hlen2]; exact (List.getElem?_eq_some_iff.1 hp').1
    obtain ⟨v, hv, h2, h3⟩ := hEV i xs[i] (by simp [hi])
    exact ⟨v, RdL.sound hC hG hl i xs[i] p (by simp [hi]) hp' v hv, h2, fun j u hj => by rw [Nat.zero_add]; exact h3 j u hj⟩
  | _, _, @Rd.frow _ _ id n sz ps hs hid hn, a, h => by
    have hGid := hG id hs
    rw [hid] at hGid
    simp only [VR] at h
    obtain ⟨rfl, hcap⟩ := h.2.1 (by rw [hGid]; rfl)
    have hbr := hC.br id
    rw [hGid] at hbr
    simp only [BR] at hbr
    have hbr := hbr.less (Y' := offS X ι G S) fun b hb => offS_off hb
    simp only [PR] at hbr ⊢
    obtain ⟨A, cap, he, h1, h2, h3⟩ := hbr
    simp only [Value.slice.injEq, true_and] at he
    obtain ⟨rfl, rfl⟩ := he
    refine ⟨_, (ι id).2, by rw [List.length_take, Nat.min_eq_left hn], by rw [List.length_take]; omega, h2, ER_take h3⟩
  | _, _, @Rd.bp _ _ id o t cs ps hs hid hl, a, h => by
    have hGid := hG id hs
    rw [hid] at hGid
    simp only [VR] at h
    have hbr := hC.br id
    rw [hGid] at hbr
    obtain ⟨⟨vs, hh, hcv⟩, h0⟩ := hbr
    rw [bval_box h0] at h
    obtain rfl := h.2.1 (by rw [hGid]; rfl)
    refine PR_cp_drop ?_
    simp only [PR]
    exact ⟨_, vs, rfl, (Array.getElem?_eq_some_iff.1 hh).1, not_offS hC hs (by rw [hGid]; rfl), fun j u hj => by rw [add_mk, cell_mk hh]; simpa using hj, CR_of (RdL.len hl) (RdL.sound hC hG hl) hcv⟩
  | _, _, @Rd.fbp _ _ id o ps hs hid, a, h => by
    have hGid := hG id hs
    rw [hid] at hGid
    simp only [VR] at h
    have hbr := hC.br id
    rw [hGid] at hbr
    simp only [BR] at hbr
    rw [bval_box hbr.2] at h
    obtain rfl := h.2.1 (by rw [hGid]; rfl)
    exact PR_cp_drop (hbr.1.less fun b hb => offS_off hb)
theorem RdL.sound (hC : Conc w X ι G) (hG : ∀ id, S id → G id = hget H id) : ∀ {xs : List AV} {ps : List PV}, RdL S H xs ps → ∀ (i : Nat) x p, xs[i]? = some x → ps[i]? = some p → ∀ a, VR w X ι G x a → PR w (offS X ι G S) p a
  | _, _, .nil, i, x, p, h, _ => by simp at h
  | _, _, .cons h0 h, 0, x, p, hx, hp => by simp at hx hp; subst hx; subst hp; exact Rd.sound hC hG h0
  | _, _, .cons h0 h, i + 1, x, p, hx, hp => RdL.sound hC hG h i x p (by simpa using hx) (by simpa using hp)
end

theorem RdL_pvs : ∀ (ps : List PV), RdL S H (pvs ps) ps
  | [] => .nil
  | p :: ps => .cons (.pv p) (RdL_pvs ps)
end
end Go.AM

namespace Go.AM
open Go.Proofs

/-- What stood before stands. -/
structure Pres (w w' : World) : Prop where
  size : w.heap.size ≤ w'.heap.size
  os : w'.os = w.os
  tape : w'.tape = w.tape
  output : w'.output = w.output
  heap : ∀ b, b < w.heap.size → w'.heap[b]? = w.heap[b]?

/-- A FUNCTION OF TREES: called with ps it returns r, and touches nothing that was there. -/
structure Det (P : Program) (f : FuncId) (ps : List PV) (r : PV) : Prop where
  enters : Enters P f
  calls : ∀ (w : World) (X : Nat → Prop) (us : List Value), (∀ b, X b → b < w.heap.size) → Laid w → TR w X ps us →
    Calls P f us.toArray w fun e w' => ∃ v, e = .returned v ∧ PR w' X r v ∧ Pres w w'

def resT (fn : Func) : Option (List Nat) := match fn.results.toList with
  | [] => some []
  | [.tmp a] => some [a]
  | [.tmp a, .tmp b] => some [a, b]
  | [.tmp a, .tmp b, .tmp c] => some [a, b, c]
  | [.tmp a, .tmp b, .tmp c, .tmp d] => some [a, b, c, d]
  | _ => Option.none
def slotsA (fr : Fr) : List Nat → Option (List AV)
  | [] => some []
  | t :: l => match fget fr t, slotsA fr l with | some v, some vs => some (v :: vs) | _, _ => Option.none
def resA (fr : Fr) : List Nat → Option AV
  | [t] => fget fr t
  | l => match slotsA fr l with | some vs => some (mkTup vs) | Option.none => Option.none
def resV (tmps : Array Value) : List Nat → Value
  | [t] => tmps.getD t undef
  | l => .tuple (l.map fun t => tmps.getD t undef).toArray

theorem results_run {fn : Func} {slots : List Nat} (h : resT fn = some slots) (P : Program) (tmps : Array Value) (w : World) : (results fn tmps).run P w = .ok (resV tmps slots) w := by
  unfold resT at h
  have arr : ∀ {l : List ResultVar}, fn.results.toList = l → fn.results = l.toArray := fun {l} h => by rw [← h]
  split at h
  · rename_i hr; cases h; simp [results, arr hr, resV]
  · rename_i a hr; cases h; simp [results, arr hr, resV]
  · rename_i a b hr; cases h; simp [results, arr hr, resV]
  · rename_i a b c hr; cases h; simp [results, arr hr, resV]
  · rename_i a b c d hr; cases h; simp [results, arr hr, resV]
  · cases h

def retK (slots : List Nat) (r : PV) (ex : Ex) (fr : Fr) (H : Heap) : Prop := match ex with
  | .exit _ => False
  | _ => match resA fr slots with
    | some v => Rd (fun _ => True) H v r
    | Option.none => False
def initF (k : Nat) : List AV → Fr
  | [] => []
  | v :: l => (k, v) :: initF (Nat.succ k) l

section
variable {w : World} {X : Nat → Prop} {ι : Io} {G : Own}

theorem allP_eq : ∀ {vs : List AV} {ps : List PV}, allP vs = some ps → vs = pvs ps
  | [], ps, h => by simp [allP] at h; subst h; rfl
  | .pv p :: l, ps, h => by
    simp only [allP] at h
    cases hl : allP l <;> simp only [hl, reduceCtorEq, Option.some.injEq] at h
    subst h
    simp only [pvs, allP_eq hl]
  | .bp .. :: _, _, h => by simp [allP] at h
  | .row .. :: _, _, h => by simp [allP] at h
  | .rp .. :: _, _, h => by simp [allP] at h
  | .mix .. :: _, _, h => by simp [allP] at h
  | .tup .. :: _, _, h => by simp [allP] at h
  | .fn .. :: _, _, h => by simp [allP] at h
theorem VR_mkTup {vs : List AV} {us : List Value} (h : TV w X ι G vs us) : VR w X ι G (mkTup vs) (.tuple us.toArray) := by
  unfold mkTup
  cases ha : allP vs with
  | none => simp only [VR]; exact ⟨us, rfl, h⟩
  | some ps =>
    rw [allP_eq ha] at h
    simp only [VR, PR]
    exact ⟨us, rfl, TV_pvs.1 h⟩
theorem slotsA_TV {fr : Fr} {tmps : Array Value} (hs : ∀ d v, fget fr d = some v → VR w X ι G v (tmps.getD d undef)) : ∀ {l : List Nat} {vs : List AV}, slotsA fr l = some vs → TV w X ι G vs (l.map fun t => tmps.getD t undef)
  | [], vs, h => by simp [slotsA] at h; subst h; simp [TV]
  | t :: l, vs, h => by
    simp only [slotsA] at h
    cases h1 : fget fr t <;> cases h2 : slotsA fr l <;> simp only [h1, h2, reduceCtorEq, Option.some.injEq] at h
    subst h
    simp only [List.map_cons, TV]
    exact ⟨_, _, rfl, hs _ _ h1, slotsA_TV hs h2⟩
theorem resA_VR {fr : Fr} {tmps : Array Value} (hs : ∀ d v, fget fr d = some v → VR w X ι G v (tmps.getD d undef)) {l : List Nat} {v : AV} (h : resA fr l = some v) : VR w X ι G v (resV tmps l) := by
  have gen : ∀ l, (match slotsA fr l with | some vs => some (mkTup vs) | Option.none => Option.none) = some v → VR w X ι G v (.tuple (l.map fun t => tmps.getD t undef).toArray) := by
    intro l h
    cases hl : slotsA fr l <;> simp only [hl, reduceCtorEq, Option.some.injEq] at h
    subst h
    exact VR_mkTup (slotsA_TV hs hl)
  match l, h with
  | [], h => exact gen [] h
  | [t], h => exact hs t v h
  | t :: t' :: l, h => exact gen (t :: t' :: l) h
theorem initF_get : ∀ {vs : List AV} {k : Nat} {us : List Value} {d : Nat} {v : AV}, TV w X ι G vs us → fget (initF k vs) d = some v → ∃ i u, d = k + i ∧ us[i]? = some u ∧ VR w X ι G v u
  | [], k, us, d, v, _, h => by simp [initF, fget] at h
  | x :: vs, k, us, d, v, hT, h => by
    simp only [TV] at hT
    obtain ⟨u, us, rfl, h1, h2⟩ := hT
    simp only [initF, fget_cons] at h
    split at h
    · rename_i e; subst e
      cases h
      exact ⟨0, u, rfl, rfl, h1⟩
    · obtain ⟨i, u', h3, h4, h5⟩ := initF_get h2 h
      exact ⟨i + 1, u', by rw [h3]; omega, by simpa using h4, h5⟩
theorem TV_len : ∀ {vs : List AV} {us : List Value}, TV w X ι G vs us → us.length = vs.length
  | [], us, h => by simp only [TV] at h; subst h; rfl
  | x :: vs, us, h => by
    simp only [TV] at h
    obtain ⟨u, us, rfl, _, h⟩ := h
    simp [TV_len h]
end

/-- A call, from the reading of the body. -/
theorem calls_vc {E : Env} (hm : E.P.follows .mixedOrders = true) {f : FuncId} {fn : Func} {c : Code} (hf : E.P.funcs[f]? = some fn) (hb : fn.body = some c) {slots : List Nat} (hr : resT fn = some slots)
    (hd : dstsLt fn.ntmps c = true) {vs : List AV} (hp : Nat.ble vs.length fn.ntmps = true) {H : Heap} {K : AV → Heap → Prop}
    (h : vc E c (fun ex fr H' => match ex with | .exit _ => False | _ => match resA fr slots with | some v => K v H' | Option.none => False) (initF 0 vs) H)
    {w : World} {X : Nat → Prop} {ι : Io} (hC : Conc w X ι (hget H)) (hG0 : ∀ id, E.m ≤ id → (hget H id).isNone = true) {us : List Value} (hT : TV w X ι (hget H) vs us) :
    Calls E.P f us.toArray w fun e w' => ∃ x v H' ι', K x H' ∧ e = .returned v ∧ VR w' X ι' (hget H') x v ∧ Conc w' X ι' (hget H') ∧ Gr w ι (hget H) w' ι' (hget H') := by
  have hlen := TV_len hT
  have hp' : us.length ≤ fn.ntmps := by rw [hlen]; exact Nat.le_of_ble_eq_true hp
  refine calls_of_wp hf hb ?_
  refine vc_sound (X := X) (w0 := w) (ι0 := ι) (G0 := hget H) (n := fn.ntmps) hm hG0 c _ _ _ hd h _ ?_ _ w ι ?_
  · intro ex fr H' hk a w' ι' hS
    have fin : (match resA fr slots with | some v => K v H' | Option.none => False) → a.defers = [] ∧ ∃ v, (results fn a.tmps).run E.P w' = .ok v w' ∧
        ∃ x v' H' ι', K x H' ∧ Ending.returned v = .returned v' ∧ VR w' X ι' (hget H') x v' ∧ Conc w' X ι' (hget H') ∧ Gr w ι (hget H) w' ι' (hget H') := by
      intro hk
      refine ⟨hS.nodef, _, results_run hr _ _ _, ?_⟩
      cases hv : resA fr slots with
      | none => rw [hv] at hk; exact hk.elim
      | some x =>
        rw [hv] at hk
        exact ⟨x, _, H', ι', hk, rfl, resA_VR hS.slots hv, hS.conc, hS.gr⟩
    cases ex with
    | normal => exact fin hk
    | ret => exact fin hk
    | exit id => exact hk.elim
  · refine ⟨hC, fun d v hv => ?_, by simp; omega, rfl, Gr.refl _ _ _⟩
    obtain ⟨i, u, rfl, h4, h5⟩ := initF_get hT hv
    have hi : i < us.length := (List.getElem?_eq_some_iff.1 h4).1
    have : (us.toArray ++ Array.replicate (fn.ntmps - us.toArray.size) undef).getD (0 + i) undef = u := by
      rw [Array.getD_eq_getD_getElem?, Array.getElem?_append_left (by simpa using hi)]
      simp [h4]
    rw [this]
    exact h5

/-- THE LAW OF A FUNCTION OF TREES. -/
theorem det_of_vc {E : Env} (hE : E.m = 0) (hm : E.P.follows .mixedOrders = true) {f : FuncId} {fn : Func} {c : Code} (hf : E.P.funcs[f]? = some fn) (hname : (fn.name == "runtime.NumGoroutine") = false) (hb : fn.body = some c)
    {slots : List Nat} (hr : resT fn = some slots) {ps : List PV} (hd : (dstsLt fn.ntmps c && Nat.ble (lenL (pvs ps)) fn.ntmps) = true) {r : PV} (h : vc E c (retK slots r) (initF 0 (pvs ps)) []) : Det E.P f ps r := by
  refine ⟨enters_of hf hname hb, fun w X us hX hL hT => ?_⟩
  simp only [Bool.and_eq_true, lenL_eq] at hd
  have hno : ∀ b, ¬ own (fun _ => (0, 0)) (hget []) b := by rintro b ⟨id, h, _⟩; simp [hget_nil, AB.live] at h
  have hoff : off X (fun _ => (0, 0)) (hget []) = X := by
    funext b; exact propext ⟨fun h => h.elim (fun h => absurd h (hno b)) id, .inr⟩
  have hC : Conc w X (fun _ => (0, 0)) (hget []) := ⟨fun i j h => by simp [hget_nil, AB.live] at h, fun i h => by simp [hget_nil, AB.live] at h, hX, fun id => by rw [hget_nil]; trivial, hL, fun p _ i h => by simp [hget_nil, AB.live] at h⟩
  refine Calls.mono (calls_vc hm hf hb hr hd.1 hd.2 (K := fun v H' => Rd (fun _ => True) H' v r) ?_ hC (fun id _ => by rw [hget_nil]; rfl) (TV_pvs.2 (by rw [hoff]; exact hT))) ?_
  · exact h
  · rintro e w' ⟨x, v, H', ι', hK, rfl, hv, hC', hG⟩
    refine ⟨v, rfl, (Rd.sound hC' (fun _ _ => rfl) hK v hv).less fun b hb => .inl hb, hG.size, hG.os, hG.tape, hG.output, fun b hb => hG.frame b hb (hno b)⟩

/-! ### Calls of such -/
section
variable {w : World} {X : Nat → Prop} {ι : Io} {G : Own}
theorem Pres.gr {w' : World} (h : Pres w w') : Gr w ι G w' ι G :=
  ⟨h.size, h.os, h.tape, h.output, fun b hb _ => h.heap b hb, fun _ _ h => h, fun _ _ => rfl, fun _ h => h, fun _ _ h => h, fun _ _ h => ⟨h, rfl⟩⟩
theorem Pres.conc {w' : World} (h : Pres w w') (hC : Conc w X ι G) : Conc w' X ι G :=
  ⟨hC.inj, hC.dis, fun b hb => Nat.lt_of_lt_of_le (hC.xlt b hb) h.size, fun id => by
    cases hid : (G id).isNone with
    | true => cases hg : G id <;> simp_all [AB.isNone, BR]
    | false => exact (hC.br id).next (h.gr.next X) hid (fun hl => h.heap _ (BR.lt (hC.br id) hl)), hC.laid.hold fun p _ hlt => h.heap p.1 hlt, hC.free⟩
theorem off_lt (hC : Conc w X ι G) {b : Nat} (h : off X ι G b) : b < w.heap.size := h.elim (fun ⟨id, h1, h2⟩ => h2 ▸ BR.lt (hC.br id) h1) (hC.xlt b)
end

theorem adet_pure {P : Program} {f : FuncId} {ps : List PV} {r : PV} {H : Heap} (h : Det P f ps r) : ADet P f (pvs ps) H (.pv r) [] [] where
  enters := h.enters
  ids := fun p hp => by simp at hp
  calls := fun w X ι G us hC _ hT => Calls.mono (h.calls w (off X ι G) us (fun b hb => off_lt hC hb) hC.laid (TV_pvs.1 hT)) (by
    rintro e w' ⟨v, rfl, hv, hP⟩
    exact ⟨v, ι, rfl, hv, hP.conc hC, hP.gr⟩)

mutual
def scal : PV → Bool
  | .int .. | .bool _ | .str _ | .nils | .raw _ => true
  | .agg cs => scalL cs
  | .tuple cs => scalL cs
  | .fn _ cs => scalL cs
  | .lst .. | .cp _ => false
def scalL : List PV → Bool
  | [] => true
  | p :: l => scal p && scalL l
end
mutual
theorem scal_PR {w : World} {X X' : Nat → Prop} : ∀ (p : PV) (v : Value), scal p = true → PR w X p v → PR w X' p v
  | .int .., v, _, h => by simpa [PR] using h
  | .bool .., v, _, h => by simpa [PR] using h
  | .str .., v, _, h => by simpa [PR] using h
  | .nils, v, _, h => by simpa [PR] using h
  | .raw .., v, _, h => by simpa [PR] using h
  | .agg cs, v, hs, h => by
    simp only [PR] at h ⊢; obtain ⟨vs, rfl, h⟩ := h; exact ⟨vs, rfl, scal_CR cs vs (by simpa [scal] using hs) h⟩
  | .tuple cs, v, hs, h => by
    simp only [PR] at h ⊢; obtain ⟨vs, rfl, h⟩ := h; exact ⟨vs, rfl, scal_TR cs vs (by simpa [scal] using hs) h⟩
  | .fn f cs, v, hs, h => by
    simp only [PR] at h ⊢; obtain ⟨vs, rfl, h⟩ := h; exact ⟨vs, rfl, scal_TR cs vs (by simpa [scal] using hs) h⟩
  | .lst .., v, hs, h => by simp [scal] at hs
  | .cp _, v, hs, h => by simp [scal] at hs
theorem scal_CR {w : World} {X X' : Nat → Prop} : ∀ (ps : List PV) (vs : List Value), scalL ps = true → CR w X ps vs → CR w X' ps vs
  | [], vs, _, h => by simpa [CR] using h
  | p :: ps, vs, hs, h => by
    simp only [scalL, Bool.and_eq_true] at hs
    simp only [CR] at h ⊢
    obtain ⟨u, us, rfl, h1, h2, h3⟩ := h
    exact ⟨u, us, rfl, h1, scal_PR p u hs.1 h2, scal_CR ps us hs.2 h3⟩
theorem scal_TR {w : World} {X X' : Nat → Prop} : ∀ (ps : List PV) (vs : List Value), scalL ps = true → TR w X ps vs → TR w X' ps vs
  | [], vs, _, h => by simpa [TR] using h
  | p :: ps, vs, hs, h => by
    simp only [scalL, Bool.and_eq_true] at hs
    simp only [TR] at h ⊢
    obtain ⟨u, us, rfl, h2, h3⟩ := h
    exact ⟨u, us, rfl, scal_PR p u hs.1 h2, scal_TR ps us hs.2 h3⟩
end

/-- What was built is read by the callee; a plain result. -/
theorem adet_read {P : Program} {f : FuncId} {ps : List PV} {r : PV} {H : Heap} {vs : List AV} {S : List Nat} (h : Det P f ps r) (hr : RdL (· ∈ S) H vs ps) (hs : scal r = true) : ADet P f vs H (.pv r) [] S where
  enters := h.enters
  ids := fun p hp => by simp at hp
  calls := fun w X ι G us hC hS hT => Calls.mono (h.calls w (offS X ι G (· ∈ S)) us (fun b hb => off_lt hC (offS_off hb)) hC.laid (TR_of hr.len (hr.sound hC hS) hT)) (by
    rintro e w' ⟨v, rfl, hv, hP⟩
    exact ⟨v, ι, rfl, scal_PR r v hs hv, hP.conc hC, hP.gr⟩)
end Go.AM

namespace Go.AM
open Go.Proofs

/-- Types by their numbers. -/
inductive TTree where
  | leaf
  | node (k : Nat) (d : TD) (l r : TTree)
def td0 : TD := ⟨false, .other, 0, 0, false, []⟩
def tlook : TTree → Nat → TD
  | .leaf, _ => td0
  | .node k d l r, t => match Nat.beq t k with | true => d | false => match Nat.blt t k with | true => tlook l t | false => tlook r t
def TAll (P : Program) : TTree → Prop
  | .leaf => True
  | .node k d l r => TDok P k d ∧ TAll P l ∧ TAll P r
theorem td0_ok (P : Program) (t : TypeId) : TDok P t td0 := ⟨fun h => by simp [td0] at h, fun h => by simp [td0] at h, trivial⟩
theorem tlook_ok {P : Program} : ∀ {T : TTree}, TAll P T → ∀ t, TDok P t (tlook T t)
  | .leaf, _, t => td0_ok P t
  | .node k d l r, h, t => by
    simp only [tlook]
    cases hb : Nat.beq t k with
    | true => rw [Nat.eq_of_beq_eq_true hb]; exact h.1
    | false =>
      cases hl : Nat.blt t k with
      | true => exact tlook_ok h.2.1 t
      | false => exact tlook_ok h.2.2 t

theorem info_of {P : Program} {t : TypeId} {i : TypeInfo} (h : P.types[t]? = some i) : P.info? t = some i := by
  unfold Tables.info?
  rw [if_pos (Array.getElem?_eq_some_iff.1 h).1]; exact h
section
variable {P : Program} {t : TypeId} {i : TypeInfo}
theorem td_one {u : TU} {z : Value} {p : PV} {n : Nat} (h : P.info? t = some i) (hs : i.size = 1) (hb : i.bytes = n) (hz : i.zero = some z) (h1 : z.cells = #[z]) (ho : z.oneCell' = true) (hp : ∀ w X, PR w X p z) (ha : ∀ w, (isAgg t).run P w = .ok false w) (hu : UOk P t u) :
    TDok P t ⟨true, u, 1, n, false, [p]⟩ where
  info := fun _ => ⟨i, z, h, hs, hb, hz, ⟨fun h => by simp at h, fun _ => ho, fun w X => by rw [h1]; simp only [CR]; exact ⟨z, [], rfl, ho, hp w X, rfl⟩, by rw [h1]; rfl⟩⟩
  agg := fun _ => ha
  u := hu
theorem td_int {k : IntKind} {n : Nat} (h : P.info? t = some i) (hs : i.size = 1) (hb : i.bytes = n) (hz : i.zero = some (.int k 0)) (ha : ∀ w, (isAgg t).run P w = .ok false w) (hu : P.underlying t = some (.int k)) : TDok P t ⟨true, .int k, 1, n, false, [.int k 0]⟩ :=
  td_one h hs hb hz rfl rfl (fun _ _ => by simp [PR]) ha hu
theorem td_bool {n : Nat} (h : P.info? t = some i) (hs : i.size = 1) (hb : i.bytes = n) (hz : i.zero = some (.bool false)) (ha : ∀ w, (isAgg t).run P w = .ok false w) (hu : P.underlying t = some .bool) : TDok P t ⟨true, .bool, 1, n, false, [.bool false]⟩ :=
  td_one h hs hb hz rfl rfl (fun _ _ => by simp [PR]) ha hu
theorem td_str {n : Nat} {s : ByteArray} (h : P.info? t = some i) (hs : i.size = 1) (hb : i.bytes = n) (hz : i.zero = some (.string s)) (ha : ∀ w, (isAgg t).run P w = .ok false w) (hu : P.underlying t = some .string) : TDok P t ⟨true, .string, 1, n, false, [.str s]⟩ :=
  td_one h hs hb hz rfl rfl (fun _ _ => by simp [PR]) ha hu
theorem td_slice {n : Nat} {e : TypeId} (h : P.info? t = some i) (hs : i.size = 1) (hb : i.bytes = n) (hz : i.zero = some (.slice none 0 0)) (ha : ∀ w, (isAgg t).run P w = .ok false w) (hu : P.underlying t = some (.slice e)) : TDok P t ⟨true, .slice e, 1, n, false, [.nils]⟩ :=
  td_one h hs hb hz rfl rfl (fun _ _ => by simp [PR]) ha hu
theorem td_smap {n : Nat} {k e : TypeId} {ie : TypeInfo} (h : P.info? t = some i) (hs : i.size = 1) (hb : i.bytes = n) (hz : i.zero = some (.map Option.none)) (ha : ∀ w, (isAgg t).run P w = .ok false w) (hu : P.underlying t = some (.map k e)) (hk : P.underlying k = some .string) (he : P.underlying e = some .bool) (hie : P.info? e = some ie) (hze : ie.zero = some (.bool false)) : TDok P t ⟨true, .smap, 1, n, false, [.raw (.map Option.none)]⟩ :=
  td_one h hs hb hz rfl rfl (fun _ _ => by simp [PR]; rfl) ha ⟨k, e, hu, hk, he, fun w => by simp [zeroValue, typeInfo, hie, hze]⟩
theorem td_raw {n : Nat} {z : Value} (h : P.info? t = some i) (hs : i.size = 1) (hb : i.bytes = n) (hz : i.zero = some z) (h1 : z.cells = #[z]) (ho : z.oneCell' = true) (ha : ∀ w, (isAgg t).run P w = .ok false w) : TDok P t ⟨true, .other, 1, n, false, [.raw z]⟩ :=
  td_one h hs hb hz h1 ho (fun _ _ => by simp [PR, ho]) ha trivial

/-- A struct's zero cells. -/
def zcell : Value → PV
  | .int k n => .int k n
  | .bool b => .bool b
  | .string s => .str s
  | .slice Option.none 0 0 => .nils
  | v => .raw v
theorem zcell_PR (w : World) (X : Nat → Prop) {v : Value} (h : v.oneCell' = true) : PR w X (zcell v) v := by
  unfold zcell
  split <;> simp [PR, h]
theorem zcells_CR (w : World) (X : Nat → Prop) : ∀ (l : List Value), l.all Value.oneCell' = true → CR w X (l.map zcell) l
  | [], _ => by simp [CR]
  | v :: l, h => by
    simp only [List.all_cons, Bool.and_eq_true] at h
    simp only [List.map_cons, CR]
    exact ⟨v, l, rfl, h.1, zcell_PR w X h.1, zcells_CR w X l h.2⟩
theorem td_struct {n m : Nat} {zs : List Value} {ps : List PV} {fs : List (Nat × Nat × Bool)} {fields : Array Field} (h : P.info? t = some i) (hs : i.size = m) (hb : i.bytes = n) (hz : i.zero = some (.agg zs.toArray)) (hl : zs.length = m) (ho : zs.all Value.oneCell' = true) (hp : zs.map zcell = ps)
    (ha : ∀ w, (isAgg t).run P w = .ok true w) (hu : P.underlying t = some (.struct fields)) (hF : FOk P fields.toList fs) : TDok P t ⟨true, .struct fs, m, n, true, ps⟩ where
  info := fun _ => ⟨i, .agg zs.toArray, h, hs, hb, hz, ⟨fun _ => ⟨_, rfl⟩, fun h => by simp at h, fun w X => by rw [← hp]; exact zcells_CR w X zs ho, by simpa [Value.cells] using hl⟩⟩
  agg := fun _ => ha
  u := ⟨fields, hu, hF⟩
end

/-! ### One state told by another -/
def SubF : Fr → Fr → Prop
  | [], _ => True
  | (d, v) :: l, fr => fget fr d = some v ∧ SubF l fr
theorem SubF.get : ∀ {fr' fr : Fr}, SubF fr' fr → ∀ d v, fget fr' d = some v → fget fr d = some v
  | [], fr, _, d, v, h => by simp [fget] at h
  | (e, x) :: l, fr, hs, d, v, h => by
    rw [fget_cons] at h
    split at h
    · rename_i he; subst he; cases h; exact hs.1
    · exact hs.2.get d v h
/-- Slots let go. -/
theorem weak_sub {m : Nat} {fr fr' : Fr} {H : Heap} (h : SubF fr' fr) : Weak m fr H fr' H :=
  ⟨fun X w0 ι0 G0 n a w ι _ hS => ⟨ι, ⟨hS.conc, fun d v hv => hS.slots d v (h.get d v hv), hS.size, hS.nodef, hS.gr⟩⟩⟩
theorem Weak.trans {m : Nat} {fr fr' fr'' : Fr} {H H' H'' : Heap} (h : Weak m fr H fr' H') (k : Weak m fr' H' fr'' H'') : Weak m fr H fr'' H'' :=
  ⟨fun X w0 ι0 G0 n a w ι hG hS => let ⟨ι1, h1⟩ := h.run X w0 ι0 G0 n a w ι hG hS; k.run X w0 ι0 G0 n a w ι1 hG h1⟩

theorem br_intro {b : Bool} {X Y : Prop} (h : b = true → W X) (k : b = false → W Y) : @Bool.rec (fun _ => Prop) (W Y) (W X) b := by cases b; exact k rfl; exact h rfl
/-- A loop. -/
theorem vloop_intro {m : Nat} {body : (Ex → Post) → Post} {K : Ex → Post} {fr : Fr} {H : Heap} {σ : Type} (I : σ → Prop) (S : σ → Fr) (G : σ → Heap) (μ : σ → Nat) (x0 : σ) (i0 : I x0) (h0 : Weak m fr H (S x0) (G x0))
    (h : ∀ x, I x → body (fun ex fr' H' => match ex with
      | .normal => ∃ x', I x' ∧ Weak m fr' H' (S x') (G x') ∧ μ x' < μ x
      | .exit id => K (.exit id) fr' H'
      | .ret => K .ret fr' H') (S x) (G x)) : vloop m body K fr H := ⟨σ, I, fun x => (S x, G x), μ, x0, i0, h0, h⟩
theorem acall_intro {P : Program} {g : FuncId} {vs : List AV} {H : Heap} {K : AV → Upd → List Nat → Prop} {x : AV} {u : Upd} {T : List Nat} (h : ADet P g vs H x u T) (k : K x u T) : ACall P g vs H K := ⟨x, u, T, h, k⟩
theorem acall_det {P : Program} {g : FuncId} {ps : List PV} {H : Heap} {K : AV → Upd → List Nat → Prop} {r : PV} (h : Det P g ps r) (k : K (.pv r) [] []) : ACall P g (pvs ps) H K := acall_intro (adet_pure h) k
end Go.AM
