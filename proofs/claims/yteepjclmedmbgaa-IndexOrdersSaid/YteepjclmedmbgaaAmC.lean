import Derived.Test.YteepjclmedmbgaaAmB
import Derived.Deep.LoopGhost
set_option linter.all false
namespace Go.AM

/-- An operation's outcome is one. -/
def Pk (D : DK → Prop) : Prop := ∀ K, D K → ∃ x u, K x u ∧ D (fun x' u' => x' = x ∧ u' = u)

theorem pk_leaf (x : AV) (u : Upd) : Pk (fun K => K x u) := fun K h => ⟨x, u, h, rfl, rfl⟩
theorem pk_false : Pk (fun _ => False) := fun K h => h.elim
theorem pk_and {p : Prop} {D : DK → Prop} (h : Pk D) : Pk (fun K => p ∧ D K) := fun K ⟨hp, hd⟩ => let ⟨x, u, hk, hd'⟩ := h K hd; ⟨x, u, hk, hp, hd'⟩
theorem pk_ex {α : Sort _} {D : α → DK → Prop} (h : ∀ y, Pk (D y)) : Pk (fun K => ∃ y, D y K) := fun K ⟨y, hd⟩ => let ⟨x, u, hk, hd'⟩ := h y K hd; ⟨x, u, hk, y, hd'⟩
theorem pk_of {D D' : DK → Prop} (h : D = D') (k : Pk D') : Pk D := h ▸ k
theorem pk_br {b : Bool} {D D' : DK → Prop} (h : Pk D) (h' : Pk D') : Pk (fun K => br b (D K) (D' K)) := by cases b; exact h'; exact h
theorem pk_kSame {k k' : IntKind} {D : DK → Prop} (h : Pk D) : Pk (fun K => kSame k k' (D K)) := fun K hk => by
  obtain ⟨rfl, hd⟩ := kSame_iff.1 hk
  obtain ⟨x, u, h1, h2⟩ := h K hd
  exact ⟨x, u, h1, kSame_iff.2 ⟨rfl, h2⟩⟩
theorem pk_part (T : TD) (cs : List AV) (off : Nat) : Pk (fun K => part T cs off fun v => K v []) := by
  unfold part
  cases T.ok
  · exact pk_false
  · cases T.agg
    · cases nthO cs off
      · exact pk_false
      · exact pk_leaf _ _
    · cases Nat.ble (off + T.sz) (lenL cs)
      · exact pk_false
      · exact pk_leaf _ _
theorem pk_withCells {x : AV} {D : List AV → DK → Prop} (h : ∀ c, Pk (D c)) : Pk (fun K => withCells x fun c => D c K) := by
  unfold withCells
  split
  · exact pk_false
  · exact pk_false
  · exact h _
theorem pk_load (te : TE) (H : Heap) (t : TypeId) (a : AV) : Pk (dLoad te H t a) := by
  unfold dLoad
  (try dsimp only)
  cases a <;> try exact pk_false
  case pv p => (try dsimp only); cases p <;> first | exact pk_part _ _ _ | exact pk_false
  case bp id off =>
    (try dsimp only)
    cases hget H id <;> first | exact pk_part _ _ _ | exact pk_false
  case rp id i off =>
    (try dsimp only)
    cases hget H id <;> try exact pk_false
    · (try dsimp only)
      exact pk_ex fun x => pk_and (pk_withCells fun c => pk_part _ _ _)
    · (try dsimp only)
      exact pk_ex fun x => pk_and (pk_withCells fun c => pk_part _ _ _)
theorem pk_store (te : TE) (H : Heap) (t : TypeId) (a x : AV) : Pk (dStore te H t a x) := by
  unfold dStore
  (try dsimp only)
  refine pk_withCells fun cx => ?_
  (try dsimp only)
  cases a <;> try exact pk_false
  case bp id off =>
    (try dsimp only)
    cases hget H id <;> try exact pk_false
    rename_i t' cs
    (try dsimp only)
    cases Nat.beq (lenL cx) (te t).sz <;> cases Nat.ble (off + (te t).sz) (lenL cs) <;> cases (te t).ok <;> first | exact pk_false | exact pk_leaf _ _
  case rp id i off =>
    (try dsimp only)
    cases hget H id <;> try exact pk_false
    rename_i t' sz xs
    (try dsimp only)
    refine pk_ex fun y => pk_and (pk_and ?_)
    (try dsimp only)
    cases Nat.beq (lenL cx) (te t).sz <;> cases Nat.beq (te t).sz sz <;> cases Nat.beq off 0 <;> (try exact pk_false) <;> (try exact pk_leaf _ _) <;>
    · (try dsimp only)
      refine pk_withCells fun cy => ?_
      (try dsimp only)
      cases Nat.ble (off + (te t).sz) (lenL cy) <;> first | exact pk_false | exact pk_leaf _ _
theorem pk_fieldAddr (te : TE) (H : Heap) (s : TypeId) (a : AV) (f : Nat) : Pk (dFieldAddr te H s a f) := by
  unfold dFieldAddr
  (try dsimp only)
  cases (te s).u <;> try exact pk_false
  rename_i fs
  (try dsimp only)
  cases nthO fs f <;> try exact pk_false
  rename_i q
  obtain ⟨o, q1, q2⟩ := q
  (try dsimp only)
  cases a <;> try exact pk_false
  case pv p => (try dsimp only); cases p <;> first | exact pk_leaf _ _ | exact pk_false
  case bp id off => (try dsimp only); cases (hget H id).isBox <;> first | exact pk_false | exact pk_leaf _ _
  case rp id i off => (try dsimp only); cases (hget H id).isRow <;> first | exact pk_false | exact pk_leaf _ _
theorem pk_indexAddr (te : TE) (H : Heap) (t : TypeId) (x ix : AV) : Pk (dIndexAddr te H t x ix) := by
  unfold dIndexAddr
  (try dsimp only)
  cases (te t).u <;> try exact pk_false
  rename_i e
  (try dsimp only)
  cases ix <;> try exact pk_false
  rename_i p
  (try dsimp only)
  cases p <;> try exact pk_false
  rename_i k i
  (try dsimp only)
  cases x <;> try exact pk_false
  case pv p =>
    (try dsimp only)
    cases p <;> try exact pk_false
    rename_i sz xs
    (try dsimp only)
    refine pk_ex fun y => pk_and (pk_withCells fun c => ?_)
    (try dsimp only)
    cases Nat.beq sz (te e).sz <;> cases (te e).ok <;> first | exact pk_false | exact pk_leaf _ _
  case row id n =>
    (try dsimp only)
    cases (hget H id).isRow <;> cases Nat.beq (hget H id).sz (te e).sz <;> cases (te e).ok <;> first | exact pk_false | exact pk_and (pk_leaf _ _)
theorem pk_index (te : TE) (t : TypeId) (x ix : AV) : Pk (dIndex te t x ix) := by
  unfold dIndex
  (try dsimp only)
  cases (te t).u <;> try exact pk_false
  (try dsimp only)
  cases x <;> try exact pk_false
  rename_i p
  (try dsimp only)
  cases p <;> try exact pk_false
  (try dsimp only)
  cases ix <;> try exact pk_false
  rename_i p
  (try dsimp only)
  cases p <;> first | exact pk_false | exact pk_and (pk_leaf _ _)
theorem pk_len (te : TE) (H : Heap) (t : TypeId) (x : AV) : Pk (dLen te H t x) := by
  unfold dLen
  (try dsimp only)
  cases (te t).u <;> try exact pk_false
  · (try dsimp only)
    cases x <;> try exact pk_false
    rename_i p
    (try dsimp only)
    cases p <;> first | exact pk_false | exact pk_leaf _ _
  · (try dsimp only)
    cases x <;> try exact pk_false
    · rename_i p
      (try dsimp only)
      cases p <;> first | exact pk_false | exact pk_leaf _ _
    · rename_i id n
      (try dsimp only)
      cases (hget H id).isRow <;> first | exact pk_false | exact pk_leaf _ _
theorem pk_bin (te : TE) (t : TypeId) (op : BinOp) (x y : AV) : Pk (dBin te t op x y) := by
  unfold dBin
  (try dsimp only)
  cases x <;> try exact pk_false
  rename_i p
  (try dsimp only)
  cases y <;> try (cases p <;> exact pk_false)
  rename_i q
  (try dsimp only)
  cases p <;> try (cases q <;> exact pk_false)
  · (try dsimp only)
    cases q <;> try exact pk_false
    (try dsimp only)
    refine pk_kSame ?_
    (try dsimp only)
    cases op <;> first | exact pk_false | exact pk_leaf _ _
  · (try dsimp only)
    cases q <;> try exact pk_false
    (try dsimp only)
    cases op <;> cases (te t).u <;> first | exact pk_false | exact pk_leaf _ _
  · (try dsimp only)
    cases q <;> try exact pk_false
    (try dsimp only)
    cases op <;> first | exact pk_false | exact pk_leaf _ _ | exact pk_and (pk_leaf _ _)
theorem pk_append (te : TE) (H : Heap) (nid : Nat) (t : TypeId) (s x : AV) : Pk (dAppend te H nid t s x) := by
  unfold dAppend
  (try dsimp only)
  cases (te t).u <;> try exact pk_false
  rename_i e
  have main : ∀ (k : Nat) (ys : List AV), Pk (fun K => match s with
    | .row id m => match hget H id with
      | .row t0 sz xs => (match Nat.beq t0 e, Nat.beq sz (te e).sz, Nat.beq (te e).sz 0, (te e).ok with
        | true, true, false, true => ((m ≤ xs.length ∧ m + k ≤ 9223372036854775807) ∧ (m + k) * (te e).bytes ≤ 140737488355328) ∧ K (.row nid (m + k)) [(id, .dead), (nid, .row e (te e).sz (appL m xs k ys))]
        | _, _, _, _ => False)
      | _ => False
    | .pv .nils => (match Nat.beq (te e).sz 0, (te e).ok with
        | false, true => ((k ≤ 9223372036854775807 ∧ k * (te e).bytes ≤ 140737488355328) ∧ 0 < k) ∧ K (.row nid k) [(nid, .row e (te e).sz (appL 0 [] k ys))]
        | _, _ => False)
    | _ => False) := by
    intro k ys
    (try dsimp only)
    cases s <;> try exact pk_false
    · rename_i p
      (try dsimp only)
      cases p <;> try exact pk_false
      (try dsimp only)
      cases Nat.beq (te e).sz 0 <;> cases (te e).ok <;> first | exact pk_false | exact pk_and (pk_leaf _ _)
    · rename_i id m
      (try dsimp only)
      cases hget H id <;> try exact pk_false
      rename_i t0 sz xs
      (try dsimp only)
      cases Nat.beq t0 e <;> cases Nat.beq sz (te e).sz <;> cases Nat.beq (te e).sz 0 <;> cases (te e).ok <;> first | exact pk_false | exact pk_and (pk_leaf _ _)
  unfold appX
  (try dsimp only)
  cases x <;> try exact pk_false
  · rename_i p
    (try dsimp only)
    cases p <;> try exact pk_false
    · rename_i sz' ys
      (try dsimp only)
      cases Nat.beq sz' (te e).sz <;> first | exact pk_false | exact main _ _
    · (try dsimp only)
      exact main _ _
  · rename_i id k
    (try dsimp only)
    cases hget H id <;> try exact pk_false
    · rename_i t0 sz' ys
      (try dsimp only)
      cases Nat.beq sz' (te e).sz <;> first | exact pk_false | exact pk_and (main _ _)
    · rename_i sz' ys
      (try dsimp only)
      cases Nat.beq sz' (te e).sz <;> first | exact pk_false | exact pk_and (main _ _)
theorem pk_make (te : TE) (nid : Nat) (t : TypeId) (l c : AV) : Pk (dMake te nid t l c) := by
  unfold dMake
  (try dsimp only)
  cases (te t).u <;> try exact pk_false
  rename_i e
  (try dsimp only)
  cases l <;> try exact pk_false
  rename_i p
  (try dsimp only)
  cases p <;> try exact pk_false
  (try dsimp only)
  cases c <;> try exact pk_false
  rename_i p
  (try dsimp only)
  cases p <;> try exact pk_false
  (try dsimp only)
  cases (te e).ok <;> first | exact pk_false | exact pk_and (pk_leaf _ _)
theorem pk_slice (te : TE) (H : Heap) (t : TypeId) (x : AV) (lo hi : Option AV) : Pk (dSlice te H t x lo hi) := by
  intro K h
  unfold dSlice at h ⊢
  split at h
  · split at h <;> first | exact h.elim | exact ⟨_, _, h.2, h.1, rfl, rfl⟩
  · split at h
    · split at h <;> first | exact h.elim | exact ⟨_, _, h.2, h.1, rfl, rfl⟩
    · exact h.elim
  · split at h <;> first | exact h.elim | exact ⟨_, _, h.2, h.1, rfl, rfl⟩
  · exact h.elim
theorem pk_oev {ev : Operand → Option AV} {x : Option Operand} {D : Option AV → DK → Prop} (h : ∀ c, Pk (D c)) : Pk (fun K => oev ev x fun c => D c K) := by
  unfold oev
  (try dsimp only)
  cases x
  · exact h _
  · rename_i x
    (try dsimp only)
    cases ev x
    · exact pk_false
    · exact h _
theorem pk_builtin (te : TE) (ev : Operand → Option AV) (H : Heap) (nid : Nat) (b : Builtin) (args : List Operand) (ts : List TypeId) : Pk (dBuiltin te ev H nid b args ts) := by
  intro K h
  unfold dBuiltin at h ⊢
  split at h
  · rename_i x t
    (try dsimp only)
    cases hx : ev x <;> simp only [hx] at h ⊢
    exact pk_len _ _ _ _ K h
  · split at h
    · rename_i h1 h2; simp only [h1, h2]; exact ⟨_, _, (kSame_iff.1 h).2, kSame_iff.2 ⟨(kSame_iff.1 h).1, rfl, rfl⟩⟩
    · exact h.elim
  · split at h
    · rename_i h1 h2; simp only [h1, h2]; exact ⟨_, _, (kSame_iff.1 h).2, kSame_iff.2 ⟨(kSame_iff.1 h).1, rfl, rfl⟩⟩
    · exact h.elim
  · rename_i s x t t'
    (try dsimp only)
    cases hb : Nat.beq t t' <;> simp only [hb] at h ⊢
    (try dsimp only)
    cases hs : ev s <;> cases hx : ev x <;> simp only [hs, hx] at h ⊢
    exact pk_append _ _ _ _ _ _ K h
  · exact h.elim

theorem pk_dop (te : TE) (ev : Operand → Option AV) (H : Heap) (nid : Nat) (o : Op) : Pk (dop te ev H nid o) := by
  unfold dop
  (try dsimp only)
  cases o <;> try exact pk_false
  case move x => simp only; cases ev x <;> first | exact pk_false | exact pk_leaf _ _
  case assign x => simp only; cases ev x <;> first | exact pk_false | exact pk_leaf _ _
  case pick c a b =>
    simp only
    (try dsimp only)
    cases ev c <;> try exact pk_false
    rename_i v
    (try dsimp only)
    cases v <;> try exact pk_false
    rename_i p
    (try dsimp only)
    cases p <;> try exact pk_false
    (try dsimp only)
    refine pk_br ?_ ?_
    · (try dsimp only)
      cases ev a <;> first | exact pk_false | exact pk_leaf _ _
    · (try dsimp only)
      cases ev b <;> first | exact pk_false | exact pk_leaf _ _
  case alloc t => simp only; cases (te t).ok <;> first | exact pk_false | exact pk_leaf _ _
  case box t x =>
    simp only
    (try dsimp only)
    cases ev x <;> try exact pk_false
    (try dsimp only)
    exact pk_withCells fun c => pk_leaf _ _
  case build t ps =>
    intro K h
    (try simp only at h ⊢)
    split at h
    · rename_i h1 h2 h3
      (try simp only [h1, h2, h3])
      (try simp only at h ⊢)
      split at h
      · rename_i h4 h5; (try simp only [h4, h5]); exact ⟨_, _, h, rfl, rfl⟩
      · exact h.elim
    · exact h.elim
  case buildSlice t n ps =>
    intro K h
    (try simp only at h ⊢)
    split at h
    · rename_i h1 h2
      (try simp only [h1, h2])
      (try simp only at h ⊢)
      split at h
      · rename_i h4 h5 h6 h7; (try simp only [h4, h5, h6, h7]); exact ⟨_, _, h, rfl, rfl⟩
      · exact h.elim
    · exact h.elim
  case load t a => simp only; cases ev a <;> first | exact pk_false | exact pk_load _ _ _ _
  case store t a x => simp only; cases ev a <;> cases ev x <;> first | exact pk_false | exact pk_store _ _ _ _ _
  case fieldAddr s a f => simp only; cases ev a <;> first | exact pk_false | exact pk_fieldAddr _ _ _ _ _
  case field t x f =>
    intro K h
    (try simp only at h ⊢)
    split at h
    · rename_i h1 h2
      (try simp only [h1, h2])
      (try simp only at h ⊢)
      split at h
      · rename_i h3
        (try simp only [h3])
        (try simp only at h ⊢)
        split at h
        · rename_i h4; (try simp only [h4]); exact ⟨_, _, h, rfl, rfl⟩
        · exact h.elim
      · rename_i h3; (try simp only [h3]); exact ⟨_, _, h, rfl, rfl⟩
      · exact h.elim
    · exact h.elim
  case indexAddr t x ix => simp only; cases ev x <;> cases ev ix <;> first | exact pk_false | exact pk_indexAddr _ _ _ _ _
  case index t x ix => simp only; cases ev x <;> cases ev ix <;> first | exact pk_false | exact pk_index _ _ _ _
  case slice t x lo hi mx =>
    (try dsimp only)
    cases mx <;> try exact pk_false
    simp only
    (try dsimp only)
    cases ev x <;> try exact pk_false
    (try dsimp only)
    exact pk_oev fun lo => pk_oev fun hi => pk_slice _ _ _ _ _ _
  case binOp op t x y t' => simp only; cases ev x <;> cases ev y <;> first | exact pk_false | exact pk_bin _ _ _ _ _
  case unOp op t x =>
    intro K h
    (try simp only at h ⊢)
    split at h <;> first | exact h.elim | (rename_i h1; (try simp only [h1]); exact ⟨_, _, h, rfl, rfl⟩)
  case convert s d x =>
    intro K h
    (try simp only at h ⊢)
    split at h
    · rename_i h1 h2 h3; (try simp only [h1, h2, h3]); exact ⟨_, _, h, rfl, rfl⟩
    · exact h.elim
  case nilCheck x =>
    intro K h
    (try simp only at h ⊢)
    split at h
    · rename_i id o h1; (try simp only [h1]); (try simp only at h ⊢); cases hb : (hget H id).isBox <;> simp only [hb] at h ⊢; exact ⟨_, _, h, rfl, rfl⟩
    · rename_i id i o h1; (try simp only [h1]); (try simp only at h ⊢); cases hb : (hget H id).isRow <;> simp only [hb] at h ⊢; exact ⟨_, _, h, rfl, rfl⟩
    · rename_i h1; (try simp only [h1]); exact ⟨_, _, h, rfl, rfl⟩
    · rename_i h1; (try simp only [h1]); exact ⟨_, _, h, rfl, rfl⟩
    · rename_i h1; (try simp only [h1]); exact ⟨_, _, h, rfl, rfl⟩
    · exact h.elim
  case makeSlice t l c => simp only; cases ev l <;> cases ev c <;> first | exact pk_false | exact pk_make _ _ _ _ _
  case makeFunc fn first caps =>
    (try dsimp only)
    cases fn <;> try exact pk_false
    intro K h
    (try simp only at h ⊢)
    split at h
    · rename_i h1 h2; (try simp only [h1, h2]); exact ⟨_, _, h, rfl, rfl⟩
    · exact h.elim
  case extract x i =>
    intro K h
    (try simp only at h ⊢)
    split at h
    · rename_i h1; (try simp only [h1]); (try simp only at h ⊢)
      split at h
      · rename_i h2; (try simp only [h2]); exact ⟨_, _, h, rfl, rfl⟩
      · exact h.elim
    · rename_i h1; (try simp only [h1]); (try simp only at h ⊢)
      split at h
      · rename_i h2; (try simp only [h2]); exact ⟨_, _, h, rfl, rfl⟩
      · exact h.elim
    · exact h.elim
  case call c =>
    obtain ⟨callee, args, ts⟩ := c
    (try dsimp only)
    cases callee <;> try exact pk_false
    exact pk_builtin _ _ _ _ _ _ _

/-- Only the operands count. -/
theorem evs_congr {ev ev' : Operand → Option AV} : ∀ (l : List Operand), (∀ x ∈ l, ev x = ev' x) → evs ev l = evs ev' l
  | [], _ => rfl
  | x :: l, h => by
    simp only [evs]
    rw [h x (by simp), evs_congr l fun y hy => h y (by simp [hy])]
theorem evParts_congr {ev ev' : Operand → Option AV} : ∀ (l : List (Nat × Operand)), (∀ x ∈ l.map (·.2), ev x = ev' x) → evParts ev l = evParts ev' l
  | [], _ => rfl
  | (i, x) :: l, h => by
    simp only [evParts]
    rw [h x (by simp), evParts_congr l fun y hy => h y (by simp only [List.map_cons, List.mem_cons]; exact .inr hy)]
theorem dop_congr {te : TE} {ev ev' : Operand → Option AV} {H : Heap} {nid : Nat} {o : Op} (h : ∀ x ∈ opersOf o, ev x = ev' x) : dop te ev H nid o = dop te ev' H nid o := by
  funext K
  cases o
  case slice t x lo hi mx =>
    cases mx <;> cases lo <;> cases hi <;> simp_all [opersOf, dop, oev]
  case build t ps => simp only [dop]; rw [evParts_congr ps.toList h]
  case buildSlice t n ps => simp only [dop]; rw [evParts_congr ps.toList h]
  case makeFunc fn first caps =>
    cases fn <;> try rfl
    simp only [dop]
    rw [evs_congr caps.toList fun x hx => h x (by simp only [opersOf]; exact List.mem_append_right _ hx)]
  case call c =>
    obtain ⟨callee, args, ts⟩ := c
    cases callee <;> try rfl
    simp only [dop, opersOf] at h ⊢
    unfold dBuiltin
    generalize hl : args.toList = l at *
    generalize ts.toList = k
    split
    · rename_i x t; rw [h x (by simp)]
    · rename_i x y _ _; rw [h x (by simp), h y (by simp)]
    · rename_i x y _ _; rw [h x (by simp), h y (by simp)]
    · rename_i x y _ _; rw [h x (by simp), h y (by simp)]
    · rfl
  all_goals (first | rfl | (simp only [opersOf, List.mem_cons, List.not_mem_nil, or_false, forall_eq, forall_eq_or_imp] at h; simp_all [dop]; done))
end Go.AM

namespace Go.AM

/-- One operation, its outcome told. -/
def AStep (P : Program) (F : Fn) (H : Heap) (o : Oper) (x : AV) (u : Upd) (T : List Nat) : Prop :=
  (∀ p ∈ u, p.1 ∈ T) ∧ ∀ X w ι G a, Conc w X ι G → (∃ k, (G k).isNone = true) → (∀ id ∈ T, G id = hget H id) →
    (∀ t ∈ tmpsL (opersOf o.op), ∀ v, F t = some v → VR w X ι G v (a.tmps.getD t undef)) →
    ∀ (Kw : Act → World → Prop) (Q : Exit → Act → World → Prop),
      (∀ v w' ι', VR w' X ι' (gupd G u) x v → Conc w' X ι' (gupd G u) → Gr w ι G w' ι' (gupd G u) → Kw (a.put o.dst v) w') → o.wp P a w Kw Q

theorem mem_appN : ∀ {k l : List Nat} {a : Nat}, a ∈ appN k l ↔ a ∈ k ∨ a ∈ l
  | [], l, a => by simp [appN]
  | b :: k, l, a => by simp [appN, mem_appN, or_assoc]
theorem mem_uids : ∀ {u : Upd} {i : Nat}, i ∈ uids u ↔ ∃ b, (i, b) ∈ u
  | [], i => by simp [uids]
  | (j, b) :: u, i => by
    simp only [uids, List.mem_cons, mem_uids, Prod.mk.injEq]
    constructor
    · rintro (rfl | ⟨c, h⟩)
      · exact ⟨b, .inl ⟨rfl, rfl⟩⟩
      · exact ⟨c, .inr h⟩
    · rintro ⟨c, ⟨rfl, rfl⟩ | h⟩
      · exact .inl rfl
      · exact .inr ⟨c, h⟩
theorem mem_touchL {ev : Operand → Option AV} : ∀ {l : List Operand} {x : Operand} {v : AV} {i : Nat}, x ∈ l → ev x = some v → i ∈ idsA v → i ∈ touchL ev l
  | [], _, _, _, h, _, _ => by simp at h
  | y :: l, x, v, i, h, hv, hi => by
    simp only [touchL]
    rcases List.mem_cons.1 h with rfl | h
    · rw [hv]; exact mem_appN.2 (.inl hi)
    · have := mem_touchL h hv hi
      cases ev y
      · exact this
      · exact mem_appN.2 (.inr this)
theorem mem_tmpsL : ∀ {l : List Operand} {t : Nat}, .tmp t ∈ l → t ∈ tmpsL l
  | [], _, h => by simp at h
  | y :: l, t, h => by
    rcases List.mem_cons.1 h with h | h
    · subst h; simp [tmpsL]
    · have := mem_tmpsL h
      cases y <;> simp [tmpsL, this]

theorem dop_nid {te : TE} {ev : Operand → Option AV} {H : Heap} {nid nid' : Nat} {o : Op} (h : usesNid o = false) : dop te ev H nid o = dop te ev H nid' o := by
  funext K
  cases o <;> first | rfl | (simp [usesNid] at h; done) | skip
  case makeFunc fn _ _ => cases fn <;> rfl
  case slice _ _ _ _ mx => cases mx <;> rfl
  case call c =>
    obtain ⟨callee, args, ts⟩ := c
    cases callee <;> first | rfl | (simp [usesNid] at h)

open Classical in
/-- The operands' values alone. -/
noncomputable def evOn (o : Op) (F : Fn) : Operand → Option AV := fun x => if x ∈ opersOf o then opdF F x else Option.none

theorem astep_dop {E : Env} {F : Fn} {H : Heap} {o : Oper} {K : AV → Upd → List Nat → Prop}
    (h : dop E.te (opdF F) H (hlen H) o.op fun x u => K x u (match usesNid o.op with | true => hlen H :: appN (uids u) (touchL (opdF F) (opersOf o.op)) | false => appN (uids u) (touchL (opdF F) (opersOf o.op)))) :
    ∃ x u T, K x u T ∧ AStep E.P F H o x u T := by
  obtain ⟨x, u, hK, hd⟩ := pk_dop _ _ _ _ _ _ h
  refine ⟨x, u, _, hK, fun p hp => ?_, fun X w ι G a hC hk hT hF Kw Q hKw => ?_⟩
  · have := mem_uids.2 ⟨p.2, hp⟩
    split
    · exact List.mem_cons_of_mem _ (mem_appN.2 (.inl this))
    · exact mem_appN.2 (.inl this)
  · have hT' : ∀ id, id ∈ touchL (opdF F) (opersOf o.op) → G id = hget H id := fun id hid => hT id (by
      split
      · exact List.mem_cons_of_mem _ (mem_appN.2 (.inr hid))
      · exact mem_appN.2 (.inr hid))
    have hnid : ∃ k, (G k).isNone = true ∧ dop E.te (opdF F) H k o.op (fun x' u' => x' = x ∧ u' = u) := by
      cases hu : usesNid o.op with
      | true => exact ⟨hlen H, by rw [hT (hlen H) (by simp [hu]), hget_hlen]; rfl, hd⟩
      | false => obtain ⟨k, hk⟩ := hk; exact ⟨k, hk, by rw [← dop_nid hu]; exact hd⟩
    obtain ⟨k, hk, hd⟩ := hnid
    rw [dop_congr (ev' := evOn o.op F) fun y hy => by simp [evOn, hy]] at hd
    obtain ⟨x', u', ⟨rfl, rfl⟩, r, v, w', ι', hr, hrv, hv, hC', hG⟩ := sound_dop E.hte hC hk (a := a) (fun y v hy => by
        unfold evOn at hy
        split at hy
        · rename_i hm
          cases y with
          | tmp t => exact hF t (mem_tmpsL hm) v hy
          | const c =>
            simp only [opdF] at hy
            cases hc : constOK c <;> simp only [hc, reduceCtorEq, Option.some.injEq] at hy
            subst hy
            exact const_VR hc
          | func f =>
            simp only [opdF, Option.some.injEq] at hy
            subst hy
            simp only [VR, PR]
            exact ⟨[], rfl, by simp [TR]⟩
          | global g => simp [opdF] at hy
        · simp at hy) (fun y hy v hv => by
        unfold evOn at hv
        split at hv
        · rename_i hm
          exact fun id hid => hT' id (mem_touchL hm hv hid)
        · simp at hv) hd
    unfold Oper.wp
    rw [hr]
    rcases hrv with rfl | ⟨rfl, rfl⟩
    · exact hKw v w' ι' hv hC' hG
    · exact hKw undef w' ι' hv hC' hG

theorem TV_append {w : World} {X : Nat → Prop} {ι : Io} {G : Own} : ∀ {xs : List AV} {us : List Value} {ys : List AV} {vs : List Value}, TV w X ι G xs us → TV w X ι G ys vs → TV w X ι G (xs ++ ys) (us ++ vs)
  | [], us, ys, vs, h, k => by simp only [TV] at h; subst h; exact k
  | x :: xs, us, ys, vs, h, k => by
    simp only [TV] at h
    obtain ⟨u, us, rfl, h1, h2⟩ := h
    simp only [List.cons_append, TV]
    exact ⟨u, _, rfl, h1, TV_append h2 k⟩
theorem TV_pvs {w : World} {X : Nat → Prop} {ι : Io} {G : Own} : ∀ {ps : List PV} {us : List Value}, TV w X ι G (pvs ps) us ↔ TR w (off X ι G) ps us
  | [], us => by simp [pvs, TV, TR]
  | p :: ps, us => by simp only [pvs, TV, TR, VR, TV_pvs]

theorem astep_call {E : Env} {F : Fn} {H : Heap} {o : Oper} {f : Operand} {args : Array Operand} {ts : Array TypeId} (ho : o.op = .call ⟨.value f, args, ts⟩) {K : AV → Upd → List Nat → Prop}
    {g : FuncId} {fv : AV} {caps vs : List AV} (hf : opdF F f = some fv) (hfv : ∀ w X ι G v, VR w X ι G fv v → ∃ cs : List Value, v = .func (.func g) #[] cs.toArray ∧ TV w X ι G caps cs)
    (hvs : evs (opdF F) args.toList = some vs) (h : ACall E.P g (vs ++ caps) H K) : ∃ x u T, K x u T ∧ AStep E.P F H o x u T := by
  obtain ⟨x, u, T, hA, hK⟩ := h
  refine ⟨x, u, T, hK, hA.ids, fun X w ι G a hC _ hT hF Kw Q hKw => ?_⟩
  have hev : ∀ y v, evOn o.op F y = some v → VR w X ι G v (a.eval y) := fun y v hy => by
    unfold evOn at hy
    split at hy
    · rename_i hm
      cases y with
      | tmp t => exact hF t (mem_tmpsL hm) v hy
      | const c =>
        simp only [opdF] at hy
        cases hc : constOK c <;> simp only [hc, reduceCtorEq, Option.some.injEq] at hy
        subst hy
        exact const_VR hc
      | func f =>
        simp only [opdF, Option.some.injEq] at hy
        subst hy
        simp only [VR, PR]
        exact ⟨[], rfl, by simp [TR]⟩
      | global g => simp [opdF] at hy
    · simp at hy
  have hm : ∀ y, y = f ∨ y ∈ args.toList → y ∈ opersOf o.op := fun y hy => by rw [ho]; simpa [opersOf] using hy
  have h1 := hev f fv (by simp only [evOn, hm f (.inl rfl), if_true]; exact hf)
  obtain ⟨cs, hcs, hTc⟩ := hfv _ _ _ _ _ h1
  have h2 := evs_TV hev args.toList vs (by rw [← hvs]; exact evs_congr _ fun y hy => by simp [evOn, hm y (.inr hy)])
  unfold Oper.wp
  have hrun : (execOp a.eval o).run E.P w = .ok (.enter g (args.map a.eval ++ cs.toArray)) w := by
    simp only [execOp, ho, resolve, hcs, Deferred.ofValue]
    simpa [invoke] using hA.enters (args.map a.eval ++ cs.toArray) w
  rw [hrun]
  simp only [Oper.upon]
  have e1 : args.map a.eval ++ cs.toArray = (args.toList.map a.eval ++ cs).toArray := by
    apply Array.toList_inj.1; simp
  rw [e1]
  refine Calls.mono (hA.calls w X ι G _ hC hT (TV_append h2 hTc)) ?_
  rintro e w' ⟨v, ι', rfl, hv, hC', hG⟩
  exact hKw v w' ι' hv hC' hG

theorem astep_of {E : Env} {F : Fn} {H : Heap} {o : Oper} {K : AV → Upd → List Nat → Prop} (h : aop E (opdF F) H o.op K) : ∃ x u T, K x u T ∧ AStep E.P F H o x u T := by
  obtain ⟨dst, op, type, pos, after, guard⟩ := o
  cases op <;> try exact astep_dop h
  case call c =>
    obtain ⟨callee, args, ts⟩ := c
    cases callee <;> try exact astep_dop h
    rename_i f
    simp only [aop] at h
    split at h
    · rename_i g caps vs hf hvs
      exact astep_call rfl hf (caps := pvs caps) (fun w X ι G v hv => by
        simp only [VR, PR] at hv
        obtain ⟨us, he, hT⟩ := hv
        exact ⟨us, he, TV_pvs.2 hT⟩) hvs h
    · rename_i g caps vs hf hvs
      exact astep_call rfl hf (fun w X ι G v hv => by simpa only [VR] using hv) hvs h
    · exact h.elim
end Go.AM

namespace Go.AM
section
variable {P : Program} {X : Nat → Prop} {w0 : World} {ι0 : Io} {G0 : Own} {n : Nat}

/-- The guard's word. -/
def Wants (ops : List Oper) (F : Fn) (o : Oper) (b : Bool) : Prop :=
  match o.guard with
  | Option.none => b = true
  | some (g, want) => ∃ og d, ops[g]? = some og ∧ og.dst = some d ∧ ((∃ bb, F d = some (.pv (.bool bb)) ∧ b = (bb == want)) ∨ (F d = some (.pv (.tuple [])) ∧ b = false))

structure Stp where
  run : Bool
  x : AV
  u : Upd
  T : List Nat

inductive Tr (P : Program) (ops : List Oper) : Fn → Heap → List Oper → List Stp → Fn → Heap → Prop
  | nil (F : Fn) (H : Heap) : Tr P ops F H [] [] F H
  | run {F H o rest x u T l F' H'} : Wants ops F o true → AStep P F H o x u T → Tr P ops (fnset F o.dst x) (hupd H u) rest l F' H' → Tr P ops F H (o :: rest) (⟨true, x, u, T⟩ :: l) F' H'
  | skip {F H o rest l F' H'} : Wants ops F o false → Tr P ops (fnset F o.dst NV) H rest l F' H' → Tr P ops F H (o :: rest) (⟨false, NV, [], []⟩ :: l) F' H'

def trOf (l : List Stp) : Trace := l.map fun s => (s.T, uids s.u)

theorem br_cases {b : Bool} {X Y : Prop} (h : br b X Y) : (b = true ∧ X) ∨ (b = false ∧ Y) := by cases b; exact .inr ⟨rfl, h⟩; exact .inl ⟨rfl, h⟩

/-- What the reading in the text's order says. -/
theorem tr_of_vops {E : Env} {ops : List Oper} : ∀ (rest : List Oper) (tr : Trace) (K : Trace → Post) (fr : Fr) (H : Heap), vops E ops rest tr K fr H →
    ∃ l fr' H', Tr E.P ops (fget fr) H rest l (fget fr') H' ∧ K ((trOf l).reverse ++ tr) fr' H'
  | [], tr, K, fr, H, h => ⟨[], fr, H, .nil _ _, h⟩
  | o :: rest, tr, K, fr, H, h => by
    simp only [vops] at h
    have yes : ∀ fr1, fget fr1 = fget fr → Wants ops (fget fr) o true → aop E (opd fr1) H o.op (fun x u T => vops E ops rest ((T, uids u) :: tr) K (fput fr1 o.dst x) (hupd H u)) →
        ∃ l fr' H', Tr E.P ops (fget fr) H (o :: rest) l (fget fr') H' ∧ K ((trOf l).reverse ++ tr) fr' H' := by
      intro fr1 hfr hW h
      rw [opd_eq, hfr] at h
      obtain ⟨x, u, T, hK, hS⟩ := astep_of h
      obtain ⟨l, fr', H', hT, hk⟩ := tr_of_vops rest _ K _ _ hK
      rw [fget_fput, hfr] at hT
      exact ⟨_, fr', H', .run hW hS hT, by simpa [trOf] using hk⟩
    have no : ∀ fr1, fget fr1 = fget fr → Wants ops (fget fr) o false → vops E ops rest (([], []) :: tr) K (fput fr1 o.dst NV) H →
        ∃ l fr' H', Tr E.P ops (fget fr) H (o :: rest) l (fget fr') H' ∧ K ((trOf l).reverse ++ tr) fr' H' := by
      intro fr1 hfr hW h
      obtain ⟨l, fr', H', hT, hk⟩ := tr_of_vops rest _ K _ _ h
      rw [fget_fput, hfr] at hT
      exact ⟨_, fr', H', .skip hW hT, by simpa [trOf, uids] using hk⟩
    unfold vguard at h
    cases hg : o.guard with
    | none => simp only [hg] at h; exact yes fr rfl (by simp [Wants, hg]) h
    | some gw =>
      obtain ⟨g, want⟩ := gw
      simp only [hg] at h
      rw [nthO_eq] at h
      cases hog : ops[g]? with
      | none => simp [hog] at h
      | some og =>
        simp only [hog] at h
        cases hd : og.dst with
        | none => simp [hd] at h
        | some d =>
          simp only [hd] at h
          have mk : ∀ b bb, fget fr d = some (.pv (.bool bb)) → b = (bb == want) → Wants ops (fget fr) o b := fun b bb h1 h2 => by
            simp only [Wants, hg]; exact ⟨og, d, hog, hd, .inl ⟨bb, h1, h2⟩⟩
          have mk' : fget fr d = some (.pv (.tuple [])) → Wants ops (fget fr) o false := fun h1 => by
            simp only [Wants, hg]; exact ⟨og, d, hog, hd, .inr ⟨h1, trivial⟩⟩
          split at h
          · rename_i b hfd
            cases want with
            | true =>
              simp only at h
              rcases br_cases h with ⟨rfl, h⟩ | ⟨rfl, h⟩
              · exact yes _ (fget_same hfd) (mk _ _ hfd rfl) h
              · exact no _ (fget_same hfd) (mk _ _ hfd rfl) h
            | false =>
              simp only at h
              rcases br_cases h with ⟨rfl, h⟩ | ⟨rfl, h⟩
              · exact no _ (fget_same hfd) (mk _ _ hfd rfl) h
              · exact yes _ (fget_same hfd) (mk _ _ hfd rfl) h
          · rename_i hfd; exact no fr rfl (mk' hfd) h
          · exact h.elim

theorem getD_bool {a : Act} {d : Nat} {b : Bool} (h : a.tmps.getD d undef = .bool b) : a.tmps[d]? = some (.bool b) := by
  rw [Array.getD_eq_getD_getElem?] at h
  cases ha : a.tmps[d]? with
  | none => rw [ha] at h; simp [undef] at h
  | some v => rw [ha] at h; simpa using h

/-- In the run. -/
theorem wants_run {ops : Array Oper} {F : Fn} {o : Oper} {b : Bool} (h : Wants ops.toList F o b) {w : World} {ι : Io} {G : Own} {a : Act}
    (hF : ∀ t, (∃ g want og, o.guard = some (g, want) ∧ ops[g]? = some og ∧ og.dst = some t) → ∀ v, F t = some v → VR w X ι G v (a.tmps.getD t undef)) : Region.wanted o (yielded ops a.tmps) = b := by
  unfold Wants at h
  unfold Region.wanted
  cases hg : o.guard with
  | none => simp only [hg] at h ⊢; exact h.symm
  | some gw =>
    obtain ⟨g, want⟩ := gw
    simp only [hg] at h ⊢
    obtain ⟨og, d, hog, hd, h⟩ := h
    have hog' : ops[g]? = some og := by simpa using hog
    have hv := hF d ⟨g, want, og, hg, hog', hd⟩
    unfold yielded
    simp only [hog', Option.bind_some, hd]
    rcases h with ⟨bb, h1, rfl⟩ | ⟨h1, rfl⟩
    · have := hv _ h1
      simp only [VR, PR] at this
      rw [getD_bool this]
      cases bb <;> cases want <;> rfl
    · have := hv _ h1
      simp only [VR, PR, TR] at this
      obtain ⟨vs, this, rfl⟩ := this
      rw [Array.getD_eq_getD_getElem?] at this
      cases ht : a.tmps[d]? with
      | none => rfl
      | some v =>
        rw [ht] at this
        simp at this
        subst this
        rfl

theorem St.put {F : Fn} {G : Own} {a : Act} {w : World} {ι : Io} (h : St X w0 ι0 G0 n F G a w ι) {dst : Option Nat} (hd : ∀ d, dst = some d → d < n) {w' : World} {ι' : Io} {G' : Own} {v : Value} {x : AV}
    (hv : VR w' X ι' G' x v) (hC : Conc w' X ι' G') (hG : Gr w ι G w' ι' G') : St X w0 ι0 G0 n (fnset F dst x) G' (a.put dst v) w' ι' where
  conc := hC
  slots := by
    intro d y hy
    have old : ∀ y, F d = some y → VR w' X ι' G' y (a.tmps.getD d undef) := fun y hy => VR.next (hG.next X) _ _ (h.slots d y hy)
    cases dst with
    | none => exact old y hy
    | some e =>
      simp only [fnset] at hy
      simp only [Act.put]
      by_cases he : d = e
      · subst he
        simp only [if_true, Option.some.injEq] at hy
        subst hy
        have : d < a.tmps.size := by rw [h.size]; exact hd d rfl
        simpa [Array.getD_eq_getD_getElem?, Array.getElem?_setIfInBounds, this] using hv
      · rw [if_neg he] at hy
        have he' : ¬ e = d := fun e' => he e'.symm
        have := old y hy
        simpa [Array.getD_eq_getD_getElem?, Array.getElem?_setIfInBounds, he'] using this
  size := by cases dst <;> simp [Act.put, h.size]
  nodef := by cases dst <;> simpa [Act.put] using h.nodef
  gr := h.gr.trans hG

theorem VR_NV {w : World} {ι : Io} {G : Own} : VR w X ι G NV undef := by simp only [NV, VR, PR]; exact ⟨[], rfl, by simp [TR]⟩

/-- In the text's order. -/
theorem wpOps_text {ops : Array Oper} {Q : Exit → Act → World → Prop} (hn : ∀ o ∈ ops.toList, ∀ d, o.dst = some d → d < n) :
    ∀ (rest pre : List Oper) (l : List Stp) (F : Fn) (H : Heap) (F' : Fn) (H' : Heap), ops.toList = pre ++ rest → Tr P ops.toList F H rest l F' H' →
      ∀ a w ι, St X w0 ι0 G0 n F (hget H) a w ι → (∀ a' w' ι', St X w0 ι0 G0 n F' (hget H') a' w' ι' → Q .normal a' w') → wpOps P ops Q (List.range' pre.length rest.length) a w
  | [], pre, l, F, H, F', H', he, hT, a, w, ι, hS, hQ => by
    cases hT
    simpa [wpOps] using hQ a w ι hS
  | o :: rest, pre, l, F, H, F', H', he, hT, a, w, ι, hS, hQ => by
    have ho : ops[pre.length]? = some o := by
      have : ops.toList[pre.length]? = some o := by rw [he]; simp
      simpa using this
    have hmem : o ∈ ops.toList := by rw [he]; simp
    have hgo := fun F1 H1 l1 (hT1 : Tr P ops.toList F1 H1 rest l1 F' H') a1 w1 ι1 hS1 => wpOps_text (Q := Q) hn rest (pre ++ [o]) l1 F1 H1 F' H' (by simpa using he) hT1 a1 w1 ι1 hS1 hQ
    simp only [List.length_append, List.length_singleton] at hgo
    simp only [List.length_cons, List.range'_succ, wpOps_cons]
    unfold wpOp
    simp only [ho]
    have hslots : ∀ t, (∃ g want og, o.guard = some (g, want) ∧ ops[g]? = some og ∧ og.dst = some t) → ∀ v, F t = some v → VR w X ι (hget H) v (a.tmps.getD t undef) := fun t _ v hv => hS.slots t v hv
    cases hT with
    | run hW hA hT =>
      rw [wants_run hW hslots]
      simp only [if_true]
      refine .inl (hA.2 X w ι _ a hS.conc ⟨hlen H, by rw [hget_hlen]; rfl⟩ (fun _ _ => rfl) (fun t _ v hv => hS.slots t v hv) _ _ ?_)
      intro v w' ι' hv hC hG
      exact hgo _ _ _ hT _ _ ι' (by rw [hget_hupd]; exact hS.put (fun d hd => hn o hmem d hd) hv hC hG)
    | skip hW hT =>
      rw [wants_run hW hslots]
      simp only [Bool.false_eq_true, if_false]
      exact hgo _ _ _ hT _ _ ι (hS.put (fun d hd => hn o hmem d hd) VR_NV hS.conc (Gr.refl _ _ _))
end
end Go.AM

namespace Go.AM

/-! ### Writes laid over one another, some of them -/
section
variable {β : Type}
def updW : (Nat → β) → List (Nat × β) → (Nat → β)
  | F, [] => F
  | F, (i, b) :: u => updW (fun j => if j = i then b else F j) u
def keysW (w : List (Nat × β)) : List Nat := w.map (·.1)
def foldW : (Nat → β) → (Nat → Bool) → Nat → List (List (Nat × β)) → (Nat → β)
  | F, _, _, [] => F
  | F, f, k, w :: ws => foldW (if f k then updW F w else F) f (k + 1) ws

theorem updW_congr : ∀ (w : List (Nat × β)) {F F' : Nat → β} {i : Nat}, (i ∉ keysW w → F i = F' i) → updW F w i = updW F' w i
  | [], F, F', i, h => h (by simp [keysW])
  | (j, b) :: w, F, F', i, h => by
    simp only [updW]
    refine updW_congr w fun hi => ?_
    by_cases e : i = j
    · simp [e]
    · simp only [e, if_false]
      exact h (by simpa [keysW, e] using hi)
theorem updW_notin : ∀ (w : List (Nat × β)) {F : Nat → β} {i : Nat}, i ∉ keysW w → updW F w i = F i
  | [], F, i, _ => rfl
  | (j, b) :: w, F, i, h => by
    simp only [keysW, List.map_cons, List.mem_cons, not_or] at h
    simp only [updW]
    rw [updW_notin w h.2]
    simp [h.1]
theorem foldW_congr : ∀ (ws : List (List (Nat × β))) (k : Nat) {F F' : Nat → β} {f f' : Nat → Bool} {i : Nat},
    (∀ j w, ws[j]? = some w → i ∈ keysW w → f (k + j) = f' (k + j)) → F i = F' i → foldW F f k ws i = foldW F' f' k ws i
  | [], k, F, F', f, f', i, h, h0 => h0
  | w :: ws, k, F, F', f, f', i, h, h0 => by
    simp only [foldW]
    refine foldW_congr ws (k + 1) (fun j w' hj hi => by have := h (j + 1) w' (by simpa using hj) hi; simpa [Nat.add_comm, Nat.add_left_comm] using this) ?_
    by_cases hi : i ∈ keysW w
    · have := h 0 w rfl hi
      simp only [Nat.add_zero] at this
      rw [this]
      split
      · exact updW_congr w fun hn => absurd hi hn
      · exact h0
    · split <;> split <;> simp only [updW_notin w hi, h0]
theorem foldW_last : ∀ (ws : List (List (Nat × β))) (k : Nat) {F F' : Nat → β} {f : Nat → Bool} {i j : Nat} {w : List (Nat × β)}, ws[j]? = some w → f (k + j) = true → i ∈ keysW w →
    (∀ j' w', j < j' → ws[j']? = some w' → i ∈ keysW w' → f (k + j') = false) → foldW F f k ws i = updW F' w i
  | [], k, F, F', f, i, j, w, hj, hf, hi, h => by simp at hj
  | v :: ws, k, F, F', f, i, 0, w, hj, hf, hi, h => by
    simp at hj; subst hj
    simp only [Nat.add_zero] at hf
    simp only [foldW, hf, if_true]
    have : ∀ (ws : List (List (Nat × β))) (k : Nat) (F1 : Nat → β), (∀ j' w', ws[j']? = some w' → i ∈ keysW w' → f (k + j') = false) → foldW F1 f k ws i = F1 i := by
      intro ws
      induction ws with
      | nil => intro k F1 _; rfl
      | cons w1 ws ih =>
        intro k F1 h1
        simp only [foldW]
        rw [ih (k + 1) _ fun j' w' hj' hi' => by have := h1 (j' + 1) w' (by simpa using hj') hi'; simpa [Nat.add_comm, Nat.add_left_comm] using this]
        split
        · rename_i hk
          by_cases hi1 : i ∈ keysW w1
          · have := h1 0 w1 rfl hi1; simp [hk] at this
          · exact updW_notin w1 hi1
        · rfl
    rw [this ws (k + 1) _ fun j' w' hj' hi' => by have := h (j' + 1) w' (by omega) (by simpa using hj') hi'; simpa [Nat.add_comm, Nat.add_left_comm] using this]
    exact updW_congr v fun hn => absurd hi hn
  | v :: ws, k, F, F', f, i, j + 1, w, hj, hf, hi, h => by
    simp only [foldW]
    exact foldW_last ws (k + 1) (j := j) (by simpa using hj) (by simpa [Nat.add_comm, Nat.add_left_comm] using hf) hi fun j' w' hlt hj' hi' => by
      have := h (j' + 1) w' (by omega) (by simpa using hj') hi'; simpa [Nat.add_comm, Nat.add_left_comm] using this
/-- One more. -/
theorem foldW_add {ws : List (List (Nat × β))} {F : Nat → β} {f : Nat → Bool} {i : Nat} {w : List (Nat × β)} (hi : ws[i]? = some w)
    (h : ∀ j w' t, i < j → ws[j]? = some w' → t ∈ keysW w → t ∈ keysW w' → f j = false) : foldW F (fun j => f j || j == i) 0 ws = updW (foldW F f 0 ws) w := by
  funext t
  by_cases ht : t ∈ keysW w
  · exact foldW_last ws 0 hi (by simp) ht fun j w' hlt hj ht' => by
      simp only [Nat.zero_add, Bool.or_eq_false_iff]
      exact ⟨h j w' t hlt hj ht ht', by simp; omega⟩
  · rw [updW_notin w ht]
    refine foldW_congr ws 0 (fun j w' hj ht' => ?_) rfl
    have : j ≠ i := by rintro rfl; rw [hi] at hj; cases hj; exact ht ht'
    simp [this]
end

theorem gupd_updW : ∀ (u : Upd) (G : Own), gupd G u = updW G u
  | [], G => rfl
  | (i, b) :: u, G => by simp only [gupd, updW, gupd_updW u]; rfl
def wrF (d : Option Nat) (x : AV) : List (Nat × Option AV) := match d with | some d => [(d, some x)] | Option.none => []
theorem fnset_updW (F : Fn) (d : Option Nat) (x : AV) : fnset F d x = updW F (wrF d x) := by cases d <;> rfl
theorem keys_wrF (d : Option Nat) (x : AV) : keysW (wrF d x) = d.toList := by cases d <;> rfl
theorem keys_upd : ∀ (u : Upd), keysW u = uids u
  | [] => rfl
  | (i, b) :: u => by have := keys_upd u; simp only [keysW] at this; simp [keysW, uids, this]

def wsF : List Oper → List Stp → List (List (Nat × Option AV))
  | o :: os, s :: ss => wrF o.dst s.x :: wsF os ss
  | _, _ => []
def wsG (l : List Stp) : List (List (Nat × AB)) := l.map (·.u)

section
variable {P : Program} {ops : List Oper}

/-- What is known of number i. -/
theorem tr_get {F : Fn} {H : Heap} {os : List Oper} {l : List Stp} {F' : Fn} {H' : Heap} (h : Tr P ops F H os l F' H') : ∀ (k : Nat),
    (∀ i o, os[i]? = some o → ∃ s Hi, l[i]? = some s ∧ hget Hi = foldW (hget H) (fun j => decide (j < k + i)) k (wsG l) ∧ Wants ops (foldW F (fun j => decide (j < k + i)) k (wsF os l)) o s.run ∧
      (s.run = true → AStep P (foldW F (fun j => decide (j < k + i)) k (wsF os l)) Hi o s.x s.u s.T) ∧ (s.run = false → s.x = NV ∧ s.u = [] ∧ s.T = [])) ∧
    os.length = l.length ∧ (∀ f : Nat → Bool, (∀ j, j < os.length → f (k + j) = true) → F' = foldW F f k (wsF os l) ∧ hget H' = foldW (hget H) f k (wsG l)) := by
  have cF : ∀ (ws : List (List (Nat × Option AV))) (k : Nat) (F : Fn) (f f' : Nat → Bool), (∀ j, f (k + j) = f' (k + j)) → foldW F f k ws = foldW F f' k ws := fun ws k F f f' hf => by
    funext t; exact foldW_congr ws k (fun j _ _ _ => hf j) rfl
  have cG : ∀ (ws : List (List (Nat × AB))) (k : Nat) (F : Own) (f f' : Nat → Bool), (∀ j, f (k + j) = f' (k + j)) → foldW F f k ws = foldW F f' k ws := fun ws k F f f' hf => by
    funext t; exact foldW_congr ws k (fun j _ _ _ => hf j) rfl
  have zF : ∀ (ws : List (List (Nat × Option AV))) (k : Nat) (F : Fn), foldW F (fun j => decide (j < k + 0)) k ws = F := fun ws => by
    intro k F
    have : ∀ (ws : List (List (Nat × Option AV))) (k' : Nat) (F : Fn), k ≤ k' → foldW F (fun j => decide (j < k + 0)) k' ws = F := by
      intro ws
      induction ws with
      | nil => intros; rfl
      | cons w ws ih => intro k' F hk; simp only [foldW]; rw [ih _ _ (by omega)]; simp; omega
    exact this ws k F (Nat.le_refl _)
  have zG : ∀ (ws : List (List (Nat × AB))) (k : Nat) (F : Own), foldW F (fun j => decide (j < k + 0)) k ws = F := fun ws => by
    intro k F
    have : ∀ (ws : List (List (Nat × AB))) (k' : Nat) (F : Own), k ≤ k' → foldW F (fun j => decide (j < k + 0)) k' ws = F := by
      intro ws
      induction ws with
      | nil => intros; rfl
      | cons w ws ih => intro k' F hk; simp only [foldW]; rw [ih _ _ (by omega)]; simp; omega
    exact this ws k F (Nat.le_refl _)
  induction h with
  | nil F H => exact fun k => ⟨fun i o ho => by simp at ho, rfl, fun f _ => ⟨rfl, rfl⟩⟩
  | @run F H o rest x u T l F' H' hW hA hT ih =>
    intro k
    obtain ⟨i1, i2, i3⟩ := ih (k + 1)
    refine ⟨fun i o' ho' => ?_, by simp [i2], fun f hf => ?_⟩
    · cases i with
      | zero =>
        simp at ho'; subst ho'
        refine ⟨_, H, rfl, (zG _ _ _).symm, ?_, fun _ => ?_, fun hr => by simp at hr⟩
        · rw [zF]; exact hW
        · rw [zF]; exact hA
      | succ i =>
        obtain ⟨s, Hi, h1, h2, h3, h4, h5⟩ := i1 i o' (by simpa using ho')
        refine ⟨s, Hi, by simpa using h1, ?_, ?_, ?_, h5⟩
        · rw [h2, hget_hupd, gupd_updW]
          simp only [wsG, List.map_cons, foldW, show decide (k < k + (i + 1)) = true by simp, if_true, Nat.add_right_comm, Nat.add_assoc, Nat.add_comm 1]
        · have : foldW F (fun j => decide (j < k + (i + 1))) k (wsF (o :: rest) (⟨true, x, u, T⟩ :: l)) = foldW (fnset F o.dst x) (fun j => decide (j < k + 1 + i)) (k + 1) (wsF rest l) := by
            simp only [wsF, foldW, show decide (k < k + (i + 1)) = true by simp, if_true, fnset_updW]
            refine cF _ _ _ _ _ fun j => ?_
            simp only [decide_eq_decide]; omega
          rw [this]; exact h3
        · have : foldW F (fun j => decide (j < k + (i + 1))) k (wsF (o :: rest) (⟨true, x, u, T⟩ :: l)) = foldW (fnset F o.dst x) (fun j => decide (j < k + 1 + i)) (k + 1) (wsF rest l) := by
            simp only [wsF, foldW, show decide (k < k + (i + 1)) = true by simp, if_true, fnset_updW]
            refine cF _ _ _ _ _ fun j => ?_
            simp only [decide_eq_decide]; omega
          rw [this]; exact h4
    · have hk := hf 0 (by simp)
      simp only [Nat.add_zero] at hk
      obtain ⟨j1, j2⟩ := i3 f fun j hj => by have := hf (j + 1) (by simpa using hj); simpa [Nat.add_comm, Nat.add_left_comm] using this
      simp only [wsF, wsG, List.map_cons, foldW, hk, if_true]
      rw [j1, j2, fnset_updW, hget_hupd, gupd_updW]
      exact ⟨rfl, rfl⟩
  | @skip F H o rest l F' H' hW hT ih =>
    intro k
    obtain ⟨i1, i2, i3⟩ := ih (k + 1)
    refine ⟨fun i o' ho' => ?_, by simp [i2], fun f hf => ?_⟩
    · cases i with
      | zero =>
        simp at ho'; subst ho'
        refine ⟨_, H, rfl, (zG _ _ _).symm, ?_, fun hr => by simp at hr, fun _ => ⟨rfl, rfl, rfl⟩⟩
        rw [zF]; exact hW
      | succ i =>
        obtain ⟨s, Hi, h1, h2, h3, h4, h5⟩ := i1 i o' (by simpa using ho')
        have : foldW F (fun j => decide (j < k + (i + 1))) k (wsF (o :: rest) (⟨false, NV, [], []⟩ :: l)) = foldW (fnset F o.dst NV) (fun j => decide (j < k + 1 + i)) (k + 1) (wsF rest l) := by
          simp only [wsF, foldW, show decide (k < k + (i + 1)) = true by simp, if_true, fnset_updW]
          refine cF _ _ _ _ _ fun j => ?_
          simp only [decide_eq_decide]; omega
        refine ⟨s, Hi, by simpa using h1, ?_, ?_, ?_, h5⟩
        · rw [h2]
          simp only [wsG, List.map_cons, foldW, show decide (k < k + (i + 1)) = true by simp, if_true, Nat.add_right_comm, Nat.add_assoc, Nat.add_comm 1, updW]
        · rw [this]; exact h3
        · rw [this]; exact h4
    · have hk := hf 0 (by simp)
      simp only [Nat.add_zero] at hk
      obtain ⟨j1, j2⟩ := i3 f fun j hj => by have := hf (j + 1) (by simpa using hj); simpa [Nat.add_comm, Nat.add_left_comm] using this
      simp only [wsF, wsG, List.map_cons, foldW, hk, if_true]
      rw [j1, j2, fnset_updW]
      exact ⟨rfl, rfl⟩
end
end Go.AM

namespace Go.AM

theorem memN_iff {a : Nat} : ∀ {l : List Nat}, memN a l = true ↔ a ∈ l
  | [] => by simp [memN]
  | b :: l => by
    simp only [memN]
    cases h : Nat.beq a b with
    | true => simp [Nat.eq_of_beq_eq_true h]
    | false =>
      have : a ≠ b := fun e => by subst e; simp at h
      simp [this, memN_iff]
theorem meetN_iff : ∀ {l k : List Nat}, meetN l k = true ↔ ∃ a, a ∈ l ∧ a ∈ k
  | [], k => by simp [meetN]
  | b :: l, k => by
    simp only [meetN]
    cases h : memN b k with
    | true => simp only [true_iff]; exact ⟨b, by simp, memN_iff.1 h⟩
    | false =>
      have : b ∉ k := fun e => by rw [memN_iff.2 e] at h; simp at h
      simp only [meetN_iff, List.mem_cons]
      constructor
      · rintro ⟨a, h1, h2⟩; exact ⟨a, .inr h1, h2⟩
      · rintro ⟨a, rfl | h1, h2⟩
        · exact absurd h2 this
        · exact ⟨a, h1, h2⟩
theorem revL_eq {α : Type} : ∀ (l k : List α), revL l k = l.reverse ++ k
  | [], k => rfl
  | a :: l, k => by simp [revL, revL_eq l]
theorem binds_eq (e : Edge) : bindsE e = Region.binds .any e := by
  unfold bindsE Region.binds
  cases e.ground <;> rfl

/-- A set of operations with all that must come before. -/
def Closed (ops : List Oper) (D : Nat → Bool) : Prop := ∀ j o e, ops[j]? = some o → e ∈ o.after.toList → bindsE e = true → D j = true → D e.on = true
/-- Number i is surely before number j. -/
def Bef (ops : List Oper) (i j : Nat) : Prop := ∀ D, Closed ops D → (∀ o e, ops[j]? = some o → e ∈ o.after.toList → bindsE e = true → D e.on = true) → D i = true

theorem mem_ancE {ops : List Oper} {anc : List (List Nat)} {n j : Nat} {o : Oper} (ho : ops[j]? = some o) (hn : n ≤ j)
    (hanc : ∀ k, k < n → ∀ l, nthO anc (n - (k + 1)) = some l → ∀ i ∈ l, Bef ops i k) : ∀ (es : List Edge), (∀ e ∈ es, e ∈ o.after.toList) → edgesLt n es = true → ∀ i ∈ ancE anc n es, Bef ops i j
  | [], _, _, i, hi => by simp [ancE] at hi
  | e :: es, hes, hlt, i, hi => by
    simp only [ancE] at hi
    simp only [edgesLt] at hlt
    cases hb : bindsE e <;> simp only [hb] at hi hlt
    · exact mem_ancE ho hn hanc es (fun e he => hes e (List.mem_cons_of_mem _ he)) hlt i hi
    · cases hl : Nat.blt e.on n <;> simp only [hl] at hlt
      · cases hlt
      have hlt' : e.on < n := Nat.le_of_ble_eq_true hl
      have hthis : Bef ops e.on j := fun D hD hp => hp o e ho (hes e (by simp)) hb
      rcases List.mem_cons.1 hi with rfl | hi
      · exact hthis
      · rcases mem_appN.1 hi with hi | hi
        · split at hi
          · rename_i k hk
            have := hanc e.on hlt' k hk i hi
            intro D hD hp
            exact this D hD fun o' e' ho' he' hb' => hD e.on o' e' ho' he' hb' (hthis D hD hp)
          · simp at hi
        · exact mem_ancE ho hn hanc es (fun e he => hes e (List.mem_cons_of_mem _ he)) hlt i hi

theorem okPast_spec {y : OpI} {anc : List Nat} : ∀ (past : List OpI), okPast y anc past = true → ∀ i x, past[i]? = some x → clash x y = true → past.length - (i + 1) ∈ anc
  | [], _, i, x, hx, _ => by simp at hx
  | x' :: past, h, i, x, hx, hc => by
    simp only [okPast] at h
    have hrec : okPast y anc past = true := by
      split at h
      · split at h
        · exact h
        · cases h
      · exact h
    cases i with
    | zero =>
      simp at hx; subst hx
      rw [hc] at h
      simp only at h
      split at h
      · rename_i hm
        have := memN_iff.1 hm
        rw [lenL_eq] at this
        simpa using this
      · cases h
    | succ i =>
      have := okPast_spec past hrec i x (by simpa using hx) hc
      simp only [List.length_cons]
      rwa [show past.length + 1 - (i + 1 + 1) = past.length - (i + 1) by omega]

def infoOf (ops : List Oper) (o : Oper) (t : List Nat × List Nat) : OpI := ⟨lookL ops o, dstL o, t.1, t.2⟩

theorem okDrawGo_spec {ops : List Oper} {full : Trace} : ∀ (rest pre : List Oper) (tr tp : Trace) (past : List OpI) (ancs : List (List Nat)), ops = pre ++ rest → full = tp ++ tr → pre.length = tp.length →
    past.length = pre.length → (∀ k o t, k < pre.length → ops[k]? = some o → full[k]? = some t → past[pre.length - (k + 1)]? = some (infoOf ops o t)) →
    (∀ k, k < pre.length → ∀ l, nthO ancs (pre.length - (k + 1)) = some l → ∀ i ∈ l, Bef ops i k) →
    okDrawGo ops rest tr past ancs = true →
    (∀ j o, pre.length ≤ j → ops[j]? = some o → ∃ t, full[j]? = some t ∧ (∀ e ∈ o.after.toList, bindsE e = true → e.on < j) ∧
      ∀ i o' t', i < j → ops[i]? = some o' → full[i]? = some t' → clash (infoOf ops o' t') (infoOf ops o t) = true → Bef ops i j)
  | [], pre, tr, tp, past, ancs, he, hf, hl, hp, hpast, hanc, h, j, o, hj, ho => by
    have : j < pre.length := by rw [he] at ho; simpa using (List.getElem?_eq_some_iff.1 ho).1
    omega
  | o0 :: rest, pre, [], tp, past, ancs, he, hf, hl, hp, hpast, hanc, h, j, o, hj, ho => by simp [okDrawGo] at h
  | o0 :: rest, pre, t0 :: tr, tp, past, ancs, he, hf, hl, hp, hpast, hanc, h, j, o, hj, ho => by
    obtain ⟨T0, U0⟩ := t0
    simp only [okDrawGo] at h
    rw [lenL_eq, hp] at h
    split at h
    case h_2 => cases h
    rename_i hE hP
    have ho0 : ops[pre.length]? = some o0 := by rw [he]; simp
    have ht0 : full[pre.length]? = some (T0, U0) := by rw [hf, hl]; simp
    have hancs := mem_ancE ho0 (Nat.le_refl _) hanc o0.after.toList (fun _ h => h) hE
    by_cases hj0 : j = pre.length
    · subst hj0
      rw [ho0] at ho; cases ho
      refine ⟨_, ht0, fun e he hb => ?_, fun i o' t' hi ho' ht' hc => ?_⟩
      · have : ∀ (es : List Edge), edgesLt pre.length es = true → ∀ e ∈ es, bindsE e = true → e.on < pre.length := by
          intro es
          induction es with
          | nil => intro _ e he; simp at he
          | cons e1 es ih =>
            intro h1 e he hb
            simp only [edgesLt] at h1
            rcases List.mem_cons.1 he with rfl | he
            · rw [hb] at h1
              simp only at h1
              cases hl : Nat.blt e.on pre.length <;> simp only [hl] at h1
              · cases h1
              · exact Nat.le_of_ble_eq_true hl
            · refine ih ?_ e he hb
              cases hb1 : bindsE e1 <;> simp only [hb1] at h1
              · exact h1
              · split at h1
                · exact h1
                · cases h1
        exact this _ hE e he hb
      · have := okPast_spec past hP _ _ (hpast i o' t' hi ho' ht') hc
        rw [hp, show pre.length - (pre.length - (i + 1) + 1) = i by omega] at this
        exact hancs i this
    · refine okDrawGo_spec rest (pre ++ [o0]) tr (tp ++ [(T0, U0)]) _ _ (by rw [he]; simp) (by rw [hf]; simp) (by simp [hl]) (by simp [hp]) ?_ ?_ h j o (by simp; omega) ho
      · intro k o' t' hk ho' ht'
        simp only [List.length_append, List.length_singleton] at hk ⊢
        by_cases hk0 : k = pre.length
        · subst hk0
          rw [ho0] at ho'; cases ho'
          rw [ht0] at ht'; cases ht'
          simp [infoOf]
        · have := hpast k o' t' (by omega) ho' ht'
          rw [show pre.length + 1 - (k + 1) = (pre.length - (k + 1)) + 1 by omega]
          simpa using this
      · intro k hk l hl' i hi
        simp only [List.length_append, List.length_singleton] at hk hl'
        by_cases hk0 : k = pre.length
        · subst hk0
          simp [nthO] at hl'
          subst hl'
          exact hancs i hi
        · rw [show pre.length + 1 - (k + 1) = (pre.length - (k + 1)) + 1 by omega] at hl'
          simp only [nthO] at hl'
          exact hanc k (by omega) l hl' i hi

/-- What the check says. -/
theorem okDraw_spec {ops : List Oper} {tr : Trace} (h : okDraw ops tr.reverse = true) (j : Nat) (o : Oper) (ho : ops[j]? = some o) :
    ∃ t, tr[j]? = some t ∧ (∀ e ∈ o.after.toList, bindsE e = true → e.on < j) ∧
      ∀ i o' t', i < j → ops[i]? = some o' → tr[i]? = some t' → clash (infoOf ops o' t') (infoOf ops o t) = true → Bef ops i j := by
  unfold okDraw at h
  rw [revL_eq, List.reverse_reverse, List.append_nil] at h
  exact okDrawGo_spec ops [] tr [] [] [] rfl rfl rfl rfl (fun k o t hk => by simp at hk) (fun k hk => by simp at hk) h j o (Nat.zero_le _) ho

theorem clash_dst_look {x y : OpI} {d : Nat} (h1 : d ∈ x.dst) (h2 : d ∈ y.look) : clash x y = true := by
  simp only [clash, Bool.or_eq_true]; exact .inl (.inl (.inl (.inl (.inl (meetN_iff.2 ⟨d, h1, h2⟩)))))
theorem clash_dst_dst {x y : OpI} {d : Nat} (h1 : d ∈ x.dst) (h2 : d ∈ y.dst) : clash x y = true := by
  simp only [clash, Bool.or_eq_true]; exact .inl (.inl (.inl (.inl (.inr (meetN_iff.2 ⟨d, h1, h2⟩)))))
theorem clash_look_dst {x y : OpI} {d : Nat} (h1 : d ∈ x.look) (h2 : d ∈ y.dst) : clash x y = true := by
  simp only [clash, Bool.or_eq_true]; exact .inl (.inl (.inl (.inr (meetN_iff.2 ⟨d, h2, h1⟩))))
theorem clash_U_T {x y : OpI} {d : Nat} (h1 : d ∈ x.U) (h2 : d ∈ y.T) : clash x y = true := by
  simp only [clash, Bool.or_eq_true]; exact .inl (.inl (.inr (meetN_iff.2 ⟨d, h1, h2⟩)))
theorem clash_U_U {x y : OpI} {d : Nat} (h1 : d ∈ x.U) (h2 : d ∈ y.U) : clash x y = true := by
  simp only [clash, Bool.or_eq_true]; exact .inl (.inr (meetN_iff.2 ⟨d, h1, h2⟩))
theorem clash_T_U {x y : OpI} {d : Nat} (h1 : d ∈ x.T) (h2 : d ∈ y.U) : clash x y = true := by
  simp only [clash, Bool.or_eq_true]; exact .inr (meetN_iff.2 ⟨d, h2, h1⟩)

/-! ### Counting -/
def cntF : List Bool → Nat
  | [] => 0
  | b :: l => (if b then 0 else 1) + cntF l
theorem cntF_set : ∀ (l : List Bool) (i : Nat), l[i]? = some false → cntF (l.set i true) + 1 = cntF l
  | [], i, h => by simp at h
  | b :: l, 0, h => by simp at h; subst h; simp [cntF]; omega
  | b :: l, i + 1, h => by simp only [List.set_cons_succ, cntF]; have := cntF_set l i (by simpa using h); omega
theorem cntF_zero : ∀ (l : List Bool), cntF l = 0 → ∀ (i : Nat) (b : Bool), l[i]? = some b → b = true
  | [], _, i, b, h => by simp at h
  | c :: l, h0, 0, b, h => by simp at h; subst h; cases c <;> simp [cntF] at h0 ⊢
  | c :: l, h0, i + 1, b, h => cntF_zero l (by simp only [cntF] at h0; omega) i b (by simpa using h)
theorem cntF_replicate : ∀ n, cntF (List.replicate n false) = n
  | 0 => rfl
  | n + 1 => by simp only [List.replicate_succ, cntF, cntF_replicate n]; simp; omega
end Go.AM

namespace Go.AM
section
variable {P : Program} {X : Nat → Prop} {w0 : World} {ι0 : Io} {G0 : Own} {n : Nat}

theorem wsF_get : ∀ {os : List Oper} {l : List Stp} {j : Nat} {w : List (Nat × Option AV)}, (wsF os l)[j]? = some w → ∃ o s, os[j]? = some o ∧ l[j]? = some s ∧ w = wrF o.dst s.x
  | [], l, j, w, h => by simp [wsF] at h
  | o :: os, [], j, w, h => by simp [wsF] at h
  | o :: os, s :: l, 0, w, h => by simp [wsF] at h; exact ⟨o, s, rfl, rfl, h.symm⟩
  | o :: os, s :: l, j + 1, w, h => by
    simp only [wsF, List.getElem?_cons_succ] at h ⊢
    exact wsF_get h
theorem wsF_of : ∀ {os : List Oper} {l : List Stp} {j : Nat} {o : Oper} {s : Stp}, os[j]? = some o → l[j]? = some s → (wsF os l)[j]? = some (wrF o.dst s.x)
  | [], l, j, o, s, h, k => by simp at h
  | o :: os, [], j, _, _, h, k => by simp at k
  | o :: os, s :: l, 0, _, _, h, k => by simp at h k; subst h; subst k; rfl
  | o :: os, s :: l, j + 1, _, _, h, k => by
    simp only [wsF, List.getElem?_cons_succ] at h k ⊢
    exact wsF_of h k

theorem fresh_foldW {f : Nat → Bool} : ∀ (ws : List (List (Nat × AB))) (k : Nat) (G : Own), (∃ N, ∀ j, N ≤ j → G j = .none) → ∃ N, ∀ j, N ≤ j → foldW G f k ws j = .none := by
  have upd : ∀ (u : List (Nat × AB)) (G : Own), (∃ N, ∀ j, N ≤ j → G j = .none) → ∃ N, ∀ j, N ≤ j → updW G u j = .none := by
    intro u
    induction u with
    | nil => exact fun G h => h
    | cons p u ih =>
      rintro G ⟨N, h⟩
      exact ih _ ⟨N + p.1 + 1, fun j hj => by show (if j = p.1 then p.2 else G j) = .none; rw [if_neg (by omega)]; exact h j (by omega)⟩
  intro ws
  induction ws with
  | nil => exact fun k G h => h
  | cons w ws ih =>
    intro k G h
    simp only [foldW]
    refine ih _ _ ?_
    split
    · exact upd _ _ h
    · exact h
theorem fresh_heap : ∀ (H : Heap), ∃ N, ∀ j, N ≤ j → hget H j = .none
  | [] => ⟨0, fun j _ => hget_nil j⟩
  | b :: H => by
    obtain ⟨N, h⟩ := fresh_heap H
    refine ⟨N + 1, fun j hj => ?_⟩
    cases j with
    | zero => omega
    | succ j => exact h j (by omega)

theorem Gr.drawn {w : World} {ι : Io} {G : Own} (d : Nat) : Gr w ι G { w with drawn := d } ι G :=
  ⟨Nat.le_refl _, rfl, rfl, rfl, fun _ _ _ => rfl, fun _ _ h => h, fun _ _ => rfl, fun _ h => h, fun _ _ h => h, fun _ _ h => ⟨h, rfl⟩⟩
theorem St.drawn {F : Fn} {G : Own} {a : Act} {w : World} {ι : Io} (h : St X w0 ι0 G0 n F G a w ι) (d : Nat) : St X w0 ι0 G0 n F G a { w with drawn := d } ι where
  conc := ⟨h.conc.inj, h.conc.dis, h.conc.xlt, fun id => by
    cases hid : (G id).isNone with
    | true => cases hg : G id <;> simp_all [AB.isNone, BR]
    | false => exact (h.conc.br id).next ((Gr.drawn d).next X) hid (fun _ => rfl)⟩
  slots := fun e v hv => VR.next ((Gr.drawn d).next X) _ _ (h.slots e v hv)
  size := h.size
  nodef := h.nodef
  gr := h.gr.trans (Gr.drawn d)

theorem look_tmps {ops : List Oper} {o : Oper} {t : Nat} (h : t ∈ tmpsL (opersOf o.op)) : t ∈ lookL ops o := by
  unfold lookL
  cases o.guard with
  | none => exact h
  | some gw =>
    obtain ⟨g, want⟩ := gw
    simp only
    cases nthO ops g with
    | none => exact h
    | some og => cases hd : og.dst with
      | none => simp only [hd]; exact h
      | some d => simp only [hd]; exact List.mem_cons_of_mem _ h
theorem look_guard {ops : List Oper} {o og : Oper} {g d : Nat} {want : Bool} (h : o.guard = some (g, want)) (hg : ops[g]? = some og) (hd : og.dst = some d) : d ∈ lookL ops o := by
  unfold lookL
  simp only [h, nthO_eq, hg, hd]
  simp

theorem draw_sound {ops : Array Oper} {Q : Exit → Act → World → Prop} {F : Fn} {H : Heap} {l : List Stp} {F' : Fn} {H' : Heap} (hn : ∀ o ∈ ops.toList, ∀ d, o.dst = some d → d < n)
    (hT : Tr P ops.toList F H ops.toList l F' H') (hok : okDraw ops.toList (trOf l).reverse = true)
    (hQ : ∀ a' w' ι', St X w0 ι0 G0 n F' (hget H') a' w' ι' → Q .normal a' w') :
    ∀ (fuel : Nat) (listed : Array Bool) (a : Act) (w : World) (ι : Io), listed.size = ops.size → cntF listed.toList ≤ fuel → Closed ops.toList (fun i => listed.getD i false) →
      St X w0 ι0 G0 n (foldW F (fun i => listed.getD i false) 0 (wsF ops.toList l)) (foldW (hget H) (fun i => listed.getD i false) 0 (wsG l)) a w ι → wpAny P .any ops Q fuel listed a w := by
  obtain ⟨tr1, tr2, tr3⟩ := tr_get hT 0
  -- the end
  have fin : ∀ (listed : Array Bool) (a : Act) (w : World) (ι : Io), listed.size = ops.size → Region.ready .any ops listed = [] →
      St X w0 ι0 G0 n (foldW F (fun i => listed.getD i false) 0 (wsF ops.toList l)) (foldW (hget H) (fun i => listed.getD i false) 0 (wsG l)) a w ι → Q .normal a w := by
    intro listed a w ι hs hr hS
    have all : ∀ j, j < ops.size → listed.getD j false = true := by
      intro j
      induction j using Nat.strongRecOn with
      | _ j ih =>
        intro hj
        cases hlj : listed.getD j false with
        | true => rfl
        | false =>
          have ho : ops[j]? = some ops[j] := by simp [hj]
          obtain ⟨t, _, he, _⟩ := okDraw_spec hok j ops[j] (by simpa using ho)
          have : j ∈ Region.ready .any ops listed := by
            rw [mem_ready]
            refine ⟨?_, ops[j], ho, fun e hem hb => ?_⟩
            · simp only [Array.getD_eq_getD_getElem?] at hlj ⊢
              have : listed[j]? = some (listed[j]'(by omega)) := by simp [hs, hj]
              rw [this] at hlj ⊢
              simpa using hlj
            · have := he e (Array.mem_toList_iff.2 hem) (by rw [binds_eq]; exact hb)
              exact ih e.on this (by omega)
          rw [hr] at this
          cases this
    obtain ⟨h1, h2⟩ := tr3 (fun i => listed.getD i false) (fun j hj => by simp only [Nat.zero_add]; exact all j (by simpa using hj))
    rw [← h1, ← h2] at hS
    exact hQ _ _ _ hS
  intro fuel
  induction fuel with
  | zero =>
    intro listed a w ι hs hc hD hS
    have hr : Region.ready .any ops listed = [] := by
      cases hr : Region.ready .any ops listed with
      | nil => rfl
      | cons i rs =>
        have : i ∈ Region.ready .any ops listed := by rw [hr]; simp
        rw [mem_ready] at this
        obtain ⟨h0, o, ho, _⟩ := this
        have hi : i < listed.size := by rw [hs]; exact (Array.getElem?_eq_some_iff.1 ho).1
        have := cntF_zero listed.toList (by omega) i listed[i] (by simp [hi])
        simp [hi] at h0
        rw [this] at h0
        cases h0
    exact ⟨hr, fin listed a w ι hs hr hS⟩
  | succ fuel ih =>
    intro listed a w ι hs hc hD hS
    refine ⟨fun hr => fin listed a w ι hs hr hS, fun i hi => ?_⟩
    obtain ⟨h0, o, ho, hedges⟩ := mem_ready.1 hi
    have hilt : i < listed.size := by rw [hs]; exact (Array.getElem?_eq_some_iff.1 ho).1
    have hli : listed[i]? = some false := by
      have : listed[i]? = some listed[i] := by simp [hilt]
      simp only [Array.getD_eq_getD_getElem?, this] at h0
      rw [this]; simpa using h0
    have hDi : listed.getD i false = false := by simp [Array.getD_eq_getD_getElem?, hli]
    have hoL : ops.toList[i]? = some o := by simpa using ho
    have hpre : ∀ o' e, ops.toList[i]? = some o' → e ∈ o'.after.toList → bindsE e = true → listed.getD e.on false = true := by
      intro o' e ho' he hb
      rw [hoL] at ho'; cases ho'
      exact hedges e (Array.mem_toList_iff.1 he) (by rw [← binds_eq]; exact hb)
    obtain ⟨s, Hi, hsl, hHi, hW, hA, hSk⟩ := tr1 i o hoL
    simp only [Nat.zero_add] at hHi hW hA
    obtain ⟨ti, hti, hei, hci⟩ := okDraw_spec hok i o hoL
    have htr : ∀ {j : Nat} {sj : Stp}, l[j]? = some sj → (trOf l)[j]? = some (sj.T, uids sj.u) := fun {j sj} h => by simp [trOf, h]
    rw [htr hsl] at hti
    cases hti
    -- what clashes and was run before
    have before : ∀ j oj sj, ops.toList[j]? = some oj → l[j]? = some sj →
        (clash (infoOf ops.toList oj (sj.T, uids sj.u)) (infoOf ops.toList o (s.T, uids s.u)) = true) → (clash (infoOf ops.toList o (s.T, uids s.u)) (infoOf ops.toList oj (sj.T, uids sj.u)) = true) →
        listed.getD j false = decide (j < i) := by
      intro j oj sj hoj hsj hc1 hc2
      rcases Nat.lt_trichotomy j i with hlt | rfl | hgt
      · have := hci j oj _ hlt hoj (htr hsj) hc1
        rw [this _ hD hpre]; simp [hlt]
      · rw [hDi]; simp
      · obtain ⟨tj, htj, hej, hcj⟩ := okDraw_spec hok j oj hoj
        rw [htr hsj] at htj; cases htj
        have hb := hcj i o _ hgt hoL (htr hsl) hc2
        cases hDj : listed.getD j false with
        | false => simp; omega
        | true =>
          have := hb _ hD fun o' e ho' he hb' => hD j o' e ho' he hb' hDj
          simp only [hDi] at this
          cases this
    have slotEq : ∀ t, t ∈ lookL ops.toList o → foldW F (fun i => listed.getD i false) 0 (wsF ops.toList l) t = foldW F (fun j => decide (j < i)) 0 (wsF ops.toList l) t := by
      intro t ht
      refine foldW_congr _ _ (fun j w hj hk => ?_) rfl
      obtain ⟨oj, sj, hoj, hsj, rfl⟩ := wsF_get hj
      rw [keys_wrF] at hk
      have hk' : t ∈ dstL oj := by unfold dstL; cases hd : oj.dst <;> simp_all
      simp only [Nat.zero_add]
      exact before j oj sj hoj hsj (clash_dst_look (x := infoOf ops.toList oj (sj.T, uids sj.u)) (y := infoOf ops.toList o (s.T, uids s.u)) hk' ht) (clash_look_dst (x := infoOf ops.toList o (s.T, uids s.u)) (y := infoOf ops.toList oj (sj.T, uids sj.u)) ht hk')
    have wsGget : ∀ {j : Nat} {w : List (Nat × AB)}, (wsG l)[j]? = some w → ∃ sj, l[j]? = some sj ∧ w = sj.u := fun {j w} h => by
      simp only [wsG, List.getElem?_map, Option.map_eq_some_iff] at h
      obtain ⟨sj, h1, h2⟩ := h
      exact ⟨sj, h1, h2.symm⟩
    have opOf : ∀ {j : Nat} {sj : Stp}, l[j]? = some sj → ∃ oj, ops.toList[j]? = some oj := fun {j sj} h => by
      have : j < ops.toList.length := by rw [tr2]; exact (List.getElem?_eq_some_iff.1 h).1
      exact ⟨_, List.getElem?_eq_getElem this⟩
    have idEq : ∀ id, id ∈ s.T → foldW (hget H) (fun i => listed.getD i false) 0 (wsG l) id = hget Hi id := by
      intro id hid
      rw [hHi]
      refine foldW_congr _ _ (fun j w hj hk => ?_) rfl
      obtain ⟨sj, hsj, rfl⟩ := wsGget hj
      obtain ⟨oj, hoj⟩ := opOf hsj
      rw [keys_upd] at hk
      simp only [Nat.zero_add]
      exact before j oj sj hoj hsj (clash_U_T (x := infoOf ops.toList oj (sj.T, uids sj.u)) (y := infoOf ops.toList o (s.T, uids s.u)) hk hid) (clash_T_U (x := infoOf ops.toList o (s.T, uids s.u)) (y := infoOf ops.toList oj (sj.T, uids sj.u)) hid hk)
    -- what comes after it
    have lateF : ∀ j w' t, i < j → (wsF ops.toList l)[j]? = some w' → t ∈ keysW (wrF o.dst s.x) → t ∈ keysW w' → listed.getD j false = false := by
      intro j w' t hlt hj ht ht'
      obtain ⟨oj, sj, hoj, hsj, rfl⟩ := wsF_get hj
      rw [keys_wrF] at ht ht'
      have k1 : t ∈ dstL oj := by unfold dstL; cases hd : oj.dst <;> simp_all
      have k2 : t ∈ dstL o := by unfold dstL; cases hd : o.dst <;> simp_all
      rw [before j oj sj hoj hsj (clash_dst_dst (x := infoOf ops.toList oj (sj.T, uids sj.u)) (y := infoOf ops.toList o (s.T, uids s.u)) k1 k2) (clash_dst_dst (x := infoOf ops.toList o (s.T, uids s.u)) (y := infoOf ops.toList oj (sj.T, uids sj.u)) k2 k1)]
      simp; omega
    have lateG : ∀ j w' t, i < j → (wsG l)[j]? = some w' → t ∈ keysW s.u → t ∈ keysW w' → listed.getD j false = false := by
      intro j w' t hlt hj ht ht'
      obtain ⟨sj, hsj, rfl⟩ := wsGget hj
      obtain ⟨oj, hoj⟩ := opOf hsj
      rw [keys_upd] at ht ht'
      rw [before j oj sj hoj hsj (clash_U_U (x := infoOf ops.toList oj (sj.T, uids sj.u)) (y := infoOf ops.toList o (s.T, uids s.u)) ht' ht) (clash_U_U (x := infoOf ops.toList o (s.T, uids s.u)) (y := infoOf ops.toList oj (sj.T, uids sj.u)) ht ht')]
      simp; omega
    have hD' : (fun j => (listed.setIfInBounds i true).getD j false) = fun j => (listed.getD j false || j == i) := by
      funext j
      by_cases hj : i = j
      · subst hj; simp [hilt]
      · have : ¬ j = i := fun e => hj e.symm
        rw [getD_set_ne false hj]; simp [this]
    have go : ∀ (v : Value) (w' : World) (ι' : Io), VR w' X ι' (gupd (foldW (hget H) (fun i => listed.getD i false) 0 (wsG l)) s.u) s.x v →
        Conc w' X ι' (gupd (foldW (hget H) (fun i => listed.getD i false) 0 (wsG l)) s.u) →
        Gr w ι (foldW (hget H) (fun i => listed.getD i false) 0 (wsG l)) w' ι' (gupd (foldW (hget H) (fun i => listed.getD i false) 0 (wsG l)) s.u) →
        wpAny P .any ops Q fuel (listed.setIfInBounds i true) (a.put o.dst v) w' := by
      intro v w' ι' hv hC hG
      refine ih (listed.setIfInBounds i true) _ w' ι' (by simpa using hs) ?_ ?_ ?_
      · have := cntF_set listed.toList i (by simpa using hli)
        rw [Array.toList_setIfInBounds]; omega
      · intro j o' e ho' he hb hj
        rw [hD'] at hj ⊢
        simp only [Bool.or_eq_true, beq_iff_eq] at hj ⊢
        rcases hj with hj | rfl
        · exact .inl (hD j o' e ho' he hb hj)
        · exact .inl (hpre o' e ho' he hb)
      · rw [hD', foldW_add (wsF_of hoL hsl) lateF, foldW_add (i := i) (w := s.u) (by simp [wsG, hsl]) lateG, ← fnset_updW, ← gupd_updW]
        exact hS.put (fun d hd => hn o (List.mem_of_getElem? hoL) d hd) hv hC hG
    have hslots : ∀ t ∈ lookL ops.toList o, ∀ v, foldW F (fun j => decide (j < i)) 0 (wsF ops.toList l) t = some v →
        VR w X ι (foldW (hget H) (fun i => listed.getD i false) 0 (wsG l)) v (a.tmps.getD t undef) := fun t ht v hv => hS.slots t v (by rw [slotEq t ht]; exact hv)
    unfold wpOp
    simp only [ho]
    rw [wants_run hW (w := w) (ι := ι) (X := X) (G := foldW (hget H) (fun i => listed.getD i false) 0 (wsG l)) (a := a) (fun t ht => by
      obtain ⟨g, want, og, h1, h2, h3⟩ := ht
      exact hslots t (look_guard h1 (by simpa using h2) h3))]
    cases hrun : s.run with
    | true =>
      simp only [if_true]
      refine .inl ((hA hrun).2 X w ι _ a hS.conc ?_ idEq (fun t ht => hslots t (look_tmps ht)) _ _ go)
      obtain ⟨N, hN⟩ := fresh_foldW (f := fun i => listed.getD i false) (wsG l) 0 (hget H) (fresh_heap H)
      exact ⟨N, by rw [hN N (Nat.le_refl _)]; rfl⟩
    | false =>
      simp only [Bool.false_eq_true, if_false]
      obtain ⟨e1, e2, e3⟩ := hSk hrun
      refine go undef w ι ?_ ?_ ?_
      · rw [e1, e2]; exact VR_NV
      · rw [e2]; exact hS.conc
      · rw [e2]; exact Gr.refl _ _ _

/-- A region, drawn or not. -/
theorem region_sound {E : Env} (hm : E.P.follows .mixedOrders = true) {id : Nat} {ops : Array Oper} {draw : Bool} {K : Post} {Q : Exit → Act → World → Prop} {fr : Fr} {H : Heap} (hn : ∀ o ∈ ops.toList, ∀ d, o.dst = some d → d < n)
    (h : vops E ops.toList ops.toList [] (fun tr => match draw with
      | false => K
      | true => match okDraw ops.toList tr with
        | true => K
        | false => fun _ _ => False) fr H) {a : Act} {w : World} {ι : Io} (hS : St X w0 ι0 G0 n (fget fr) (hget H) a w ι)
    (hQ : ∀ fr' H', K fr' H' → ∀ a' w' ι', St X w0 ι0 G0 n (fget fr') (hget H') a' w' ι' → Q .normal a' w') : (Code.region id ops draw).wp E.P Q a w := by
  obtain ⟨l, fr', H', hT, hK⟩ := tr_of_vops _ _ _ _ _ h
  cases draw with
  | false =>
    simp only at hK
    refine wp_region ?_
    rw [List.range_eq_range']
    have := wpOps_text (Q := Q) hn ops.toList [] l _ _ _ _ rfl hT a w ι hS (hQ fr' H' hK)
    simpa using this
  | true =>
    simp only [List.append_nil] at hK
    cases hok : okDraw ops.toList (trOf l).reverse with
    | false => rw [hok] at hK; exact hK.elim
    | true =>
      rw [hok] at hK
      simp only at hK
      refine wp_region_any hm (draw_sound hn hT hok (hQ fr' H' hK) ops.size _ a _ ι (by simp) ?_ ?_ ?_)
      · simp [cntF_replicate]
      · intro j o e ho he hb hj
        simp only [Array.getD_eq_getD_getElem?, Array.getElem?_replicate] at hj
        split at hj <;> simp at hj
      · have zF : ∀ {β : Type} (ws : List (List (Nat × β))) (k : Nat) (F : Nat → β), foldW F (fun i => (Array.replicate ops.size false).getD i false) k ws = F := by
          intro β ws
          induction ws with
          | nil => intros; rfl
          | cons w ws ih =>
            intro k F
            simp only [foldW]
            rw [ih]
            have : (Array.replicate ops.size false).getD k false = false := by
              simp only [Array.getD_eq_getD_getElem?, Array.getElem?_replicate]
              split <;> rfl
            simp [this]
        rw [zF, zF]
        exact hS.drawn _
end
end Go.AM

namespace Go.AM
section
variable {X : Nat → Prop} {w0 : World} {ι0 : Io} {G0 : Own} {n : Nat}

/-- What the run's end must meet. -/
def Meets (X : Nat → Prop) (w0 : World) (ι0 : Io) (G0 : Own) (n : Nat) (K : Ex → Post) (Q : Exit → Act → World → Prop) : Prop :=
  ∀ ex fr H, K ex fr H → ∀ a w ι, St X w0 ι0 G0 n (fget fr) (hget H) a w ι → Q (match ex with | .normal => .normal | .exit id => .exit id | .ret => .ret) a w

theorem St.congr {F F' : Fn} {G : Own} {a : Act} {w : World} {ι : Io} (h : St X w0 ι0 G0 n F G a w ι) (he : F' = F) : St X w0 ι0 G0 n F' G a w ι := he ▸ h

theorem vc_sound {E : Env} (hm : E.P.follows .mixedOrders = true) (hG0 : ∀ id, E.m ≤ id → (G0 id).isNone = true) : ∀ (c : Code) (K : Ex → Post) (fr : Fr) (H : Heap), dstsLt n c = true → vc E c K fr H →
    ∀ (Q : Exit → Act → World → Prop), Meets X w0 ι0 G0 n K Q → ∀ a w ι, St X w0 ι0 G0 n (fget fr) (hget H) a w ι → c.wp E.P Q a w
  | .skip, K, fr, H, _, h, Q, hQ, a, w, ι, hS => wp_skip (hQ .normal fr H h a w ι hS)
  | .label l, K, fr, H, _, h, Q, hQ, a, w, ι, hS => wp_label (hQ .normal fr H h a w ι hS)
  | .ret, K, fr, H, _, h, Q, hQ, a, w, ι, hS => wp_ret (hQ .ret fr H h a w ι hS)
  | .exit id, K, fr, H, _, h, Q, hQ, a, w, ι, hS => wp_exit (hQ (.exit id) fr H h a w ι hS)
  | .seq x y, K, fr, H, hn, h, Q, hQ, a, w, ι, hS => by
    simp only [dstsLt, Bool.and_eq_true] at hn
    simp only [vc] at h
    refine wp_seq (vc_sound hm hG0 x _ fr H hn.1 h _ ?_ a w ι hS)
    intro ex fr' H' hk a' w' ι' hS'
    cases ex with
    | normal => exact vc_sound hm hG0 y K fr' H' hn.2 hk Q hQ a' w' ι' hS'
    | exit id => exact hQ (.exit id) fr' H' hk a' w' ι' hS'
    | ret => exact hQ .ret fr' H' hk a' w' ι' hS'
  | .cond c x y, K, fr, H, hn, h, Q, hQ, a, w, ι, hS => by
    simp only [dstsLt, Bool.and_eq_true] at hn
    simp only [vc] at h
    split at h
    · rename_i d
      split at h
      · rename_i b hb
        have hv := hS.slots d _ hb
        simp only [VR, PR] at hv
        have he : a.eval (.tmp d) = .bool b := hv
        rcases br_cases h with ⟨rfl, h⟩ | ⟨rfl, h⟩
        · exact wp_cond_true he (vc_sound hm hG0 x K _ H hn.1 h Q hQ a w ι (hS.congr (fget_same hb)))
        · exact wp_cond_false he (vc_sound hm hG0 y K _ H hn.2 h Q hQ a w ι (hS.congr (fget_same hb)))
      · exact h.elim
    · rename_i b
      rcases br_cases h with ⟨rfl, h⟩ | ⟨rfl, h⟩
      · exact wp_cond_true rfl (vc_sound hm hG0 x K _ H hn.1 h Q hQ a w ι hS)
      · exact wp_cond_false rfl (vc_sound hm hG0 y K _ H hn.2 h Q hQ a w ι hS)
    · exact h.elim
  | .block id c, K, fr, H, hn, h, Q, hQ, a, w, ι, hS => by
    simp only [dstsLt] at hn
    simp only [vc] at h
    refine wp_block (vc_sound hm hG0 c _ fr H hn h _ ?_ a w ι hS)
    intro ex fr' H' hk a' w' ι' hS'
    cases ex with
    | normal => exact hQ .normal fr' H' hk a' w' ι' hS'
    | exit id' =>
      simp only [Exit.inBlock]
      simp only at hk
      cases hb : Nat.beq id' id <;> simp only [hb] at hk
      · have : ¬ id' = id := fun e => by subst e; simp at hb
        rw [if_neg this]
        exact hQ (.exit id') fr' H' hk a' w' ι' hS'
      · rw [if_pos (Nat.eq_of_beq_eq_true hb)]
        exact hQ .normal fr' H' hk a' w' ι' hS'
    | ret => exact hQ .ret fr' H' hk a' w' ι' hS'
  | .loop c, K, fr, H, hn, h, Q, hQ, a, w, ι, hS => by
    simp only [dstsLt] at hn
    simp only [vc] at h
    obtain ⟨σ, I, S, μ, x0, hI0, hW, hround⟩ := h
    obtain ⟨ι1, hS1⟩ := hW.run X w0 ι0 G0 n a w ι hG0 hS
    refine wp_loop_ghost (fun k a w => ∃ x ι, I x ∧ μ x = k ∧ St X w0 ι0 G0 n (fget (S x).1) (hget (S x).2) a w ι) (μ x0) ⟨x0, ι1, hI0, rfl, hS1⟩ ?_
    rintro k a w ⟨x, ι, hIx, rfl, hSx⟩
    refine vc_sound hm hG0 c _ _ _ hn (hround x hIx) _ ?_ a w ι hSx
    intro ex fr' H' hk a' w' ι' hS'
    cases ex with
    | normal =>
      obtain ⟨x', hI', hW', hlt⟩ := hk
      obtain ⟨ι2, hS2⟩ := hW'.run X w0 ι0 G0 n a' w' ι' hG0 hS'
      exact ⟨μ x', hlt, x', ι2, hI', rfl, hS2⟩
    | exit id => exact hQ (.exit id) fr' H' hk a' w' ι' hS'
    | ret => exact hQ .ret fr' H' hk a' w' ι' hS'
  | .region id ops draw, K, fr, H, hn, h, Q, hQ, a, w, ι, hS => by
    simp only [vc] at h
    refine region_sound hm (K := K .normal) ?_ ?_ hS fun fr' H' hk a' w' ι' hS' => hQ .normal fr' H' hk a' w' ι' hS'
    · intro o ho d hd
      simp only [dstsLt, List.all_eq_true] at hn
      have := hn o ho
      rw [hd] at this
      exact Nat.le_of_ble_eq_true this
    · cases draw
      · exact h
      · have e : (fun tr => match okDraw ops.toList tr with | true => K .normal | false => fun _ _ => False) = (fun tr => match true with | false => K .normal | true => match okDraw ops.toList tr with | true => K .normal | false => fun _ _ => False) := rfl
        exact h
  | .rangeFunc .., K, fr, H, _, h, Q, hQ, a, w, ι, hS => h.elim
  | .scope _, K, fr, H, _, h, Q, hQ, a, w, ι, hS => h.elim
  | .goto _, K, fr, H, _, h, Q, hQ, a, w, ι, hS => h.elim
  | .refuse _, K, fr, H, _, h, Q, hQ, a, w, ι, hS => h.elim

end
end Go.AM

namespace Go.AM

/-! ### Reading what was built -/
mutual
/-- x, all told: a tree; S: the blocks that are read. -/
inductive Rd (S : Nat → Prop) (H : Heap) : AV → PV → Prop
  | pv (p : PV) : Rd S H (.pv p) p
  | mix {cs ps} : RdL S H cs ps → Rd S H (.mix cs) (.agg ps)
  | tup {cs ps} : RdL S H cs ps → Rd S H (.tup cs) (.tuple ps)
  | fn {f cs ps} : RdL S H cs ps → Rd S H (.fn f cs) (.fn f ps)
  | row {id n t sz xs ps} : S id → hget H id = .row t sz xs → n ≤ xs.length → RdL S H xs ps → Rd S H (.row id n) (.lst sz (ps.take n))
  | frow {id n sz ps} : S id → hget H id = .frozen sz ps → n ≤ ps.length → Rd S H (.row id n) (.lst sz (ps.take n))
  | bp {id o t cs ps} : S id → hget H id = .box t cs → RdL S H cs ps → Rd S H (.bp id o) (.cp (ps.drop o))
  | fbp {id o ps} : S id → hget H id = .fbox ps → Rd S H (.bp id o) (.cp (ps.drop o))
inductive RdL (S : Nat → Prop) (H : Heap) : List AV → List PV → Prop
  | nil : RdL S H [] []
  | cons {x p xs ps} : Rd S H x p → RdL S H xs ps → RdL S H (x :: xs) (p :: ps)
end

theorem RdL.len {S : Nat → Prop} {H : Heap} : ∀ {xs : List AV} {ps : List PV}, RdL S H xs ps → xs.length = ps.length
  | _, _, .nil => rfl
  | _, _, .cons _ h => by simp [RdL.len h]

section
variable {w : World} {X : Nat → Prop} {ι : Io} {G : Own} {H : Heap} {S : Nat → Prop}

/-- What a value that was read doesn't lean on. -/
def offS (X : Nat → Prop) (ι : Io) (G : Own) (S : Nat → Prop) (b : Nat) : Prop := X b ∨ ∃ id, ¬ S id ∧ (G id).live = true ∧ (ι id).1 = b

theorem offS_off {b : Nat} (h : offS X ι G S b) : off X ι G b := h.elim .inr fun ⟨id, _, h1, h2⟩ => .inl ⟨id, h1, h2⟩
theorem PR.less {Y Y' : Nat → Prop} (h : ∀ b, Y' b → Y b) {p : PV} {v : Value} (hp : PR w Y p v) : PR w Y' p v :=
  PR.later ⟨Nat.le_refl _, fun _ _ _ => rfl, fun b _ hb => h b hb⟩ p v hp
theorem CR_drop {Y : Nat → Prop} : ∀ (n : Nat) {ps : List PV} {vs : List Value}, CR w Y ps vs → CR w Y (ps.drop n) (vs.drop n)
  | 0, ps, vs, h => h
  | n + 1, [], vs, h => by simp only [CR] at h; subst h; simp [CR]
  | n + 1, p :: ps, vs, h => by
    simp only [CR] at h
    obtain ⟨u, us, rfl, _, _, h⟩ := h
    exact CR_drop n h
theorem PR_cp_drop {Y : Nat → Prop} {ps : List PV} {b o : Nat} (h : PR w Y (.cp ps) (.pointer (some ⟨b, 0, none⟩))) : PR w Y (.cp (ps.drop o)) (.pointer (some ⟨b, o, none⟩)) := by
  simp only [PR] at h ⊢
  obtain ⟨ad, vs, he, h1, h2, h3, h4⟩ := h
  cases he
  refine ⟨_, vs.drop o, rfl, h1, h2, fun j u hj => ?_, CR_drop o h4⟩
  have := h3 (o + j) u (by simpa using hj)
  rw [add_mk] at this ⊢
  simpa using this
theorem not_offS {id : Nat} (hC : Conc w X ι G) (hs : S id) (hl : (G id).live = true) : ¬ offS X ι G S (ι id).1 := by
  rintro (h | ⟨id', h1, h2, h3⟩)
  · exact hC.dis id hl h
  · exact h1 (hC.inj id' id h2 hl h3 ▸ hs)

theorem CR_of {Y : Nat → Prop} : ∀ {cs : List AV} {ps : List PV} {vs : List Value}, cs.length = ps.length → (∀ (i : Nat) x p, cs[i]? = some x → ps[i]? = some p → ∀ a, VR w X ι G x a → PR w Y p a) → CV w X ι G cs vs → CR w Y ps vs
  | [], [], vs, _, _, h => by simp only [CV] at h; subst h; simp [CR]
  | [], _ :: _, vs, h, _, _ => by simp at h
  | _ :: _, [], vs, h, _, _ => by simp at h
  | c :: cs, p :: ps, vs, hl, hr, h => by
    simp only [CV] at h
    obtain ⟨u, us, rfl, h1, h2, h3⟩ := h
    simp only [CR]
    exact ⟨u, us, rfl, h1, hr 0 c p rfl rfl u h2, CR_of (by simpa using hl) (fun i x p hx hp => hr (i + 1) x p (by simpa using hx) (by simpa using hp)) h3⟩
theorem TR_of {Y : Nat → Prop} : ∀ {cs : List AV} {ps : List PV} {vs : List Value}, cs.length = ps.length → (∀ (i : Nat) x p, cs[i]? = some x → ps[i]? = some p → ∀ a, VR w X ι G x a → PR w Y p a) → TV w X ι G cs vs → TR w Y ps vs
  | [], [], vs, _, _, h => by simp only [TV] at h; subst h; simp [TR]
  | [], _ :: _, vs, h, _, _ => by simp at h
  | _ :: _, [], vs, h, _, _ => by simp at h
  | c :: cs, p :: ps, vs, hl, hr, h => by
    simp only [TV] at h
    obtain ⟨u, us, rfl, h2, h3⟩ := h
    simp only [TR]
    exact ⟨u, us, rfl, hr 0 c p rfl rfl u h2, TR_of (by simpa using hl) (fun i x p hx hp => hr (i + 1) x p (by simpa using hx) (by simpa using hp)) h3⟩
theorem ER_of {Y : Nat → Prop} {sz : Nat} {b : Nat} (hb : b < w.heap.size) (hY : ¬ Y b) {cells : Array Value} {t : TypeId} {fr : Nat × Nat} (hh : w.heap[b]? = some (.cells cells t fr)) :
    ∀ {ps : List PV} {k : Nat}, (∀ (i : Nat) p, ps[i]? = some p → ∃ v : Value, PR w Y p v ∧ v.cells.size = sz ∧ ∀ j u, v.cells[j]? = some u → cells[(k + i) * sz + j]? = some u ∧ u.oneCell' = true) → ER w Y ps sz (some ⟨b, 0, none⟩) k
  | [], k, _ => by simp [ER]
  | p :: ps, k, h => by
    simp only [ER]
    refine ⟨?_, ER_of hb hY hh fun i p hp => ?_⟩
    · obtain ⟨v, h1, h2, h3⟩ := h 0 p rfl
      refine ⟨⟨b, 0, none⟩, v, rfl, hb, hY, h1, h2, fun j u hj => ⟨?_, (h3 j u hj).2⟩⟩
      rw [add_mk, cell_mk hh]
      simpa using (h3 j u hj).1
    · obtain ⟨v, h1, h2, h3⟩ := h (i + 1) p (by simpa using hp)
      exact ⟨v, h1, h2, fun j u hj => by rw [show k + 1 + i = k + (i + 1) by omega]; exact h3 j u hj⟩

mutual
theorem Rd.sound (hC : Conc w X ι G) (hG : ∀ id, S id → G id = hget H id) : ∀ {x : AV} {p : PV}, Rd S H x p → ∀ a, VR w X ι G x a → PR w (offS X ι G S) p a
  | _, _, .pv p, a, h => by simp only [VR] at h; exact h.less fun b hb => offS_off hb
  | _, _, .mix hl, a, h => by
    simp only [VR] at h
    obtain ⟨vs, rfl, h⟩ := h
    simp only [PR]
    exact ⟨vs, rfl, CR_of (RdL.len hl) (RdL.sound hC hG hl) h⟩
  | _, _, .tup hl, a, h => by
    simp only [VR] at h
    obtain ⟨vs, rfl, h⟩ := h
    simp only [PR]
    exact ⟨vs, rfl, TR_of (RdL.len hl) (RdL.sound hC hG hl) h⟩
  | _, _, .fn hl, a, h => by
    simp only [VR] at h
    obtain ⟨vs, rfl, h⟩ := h
    simp only [PR]
    exact ⟨vs, rfl, TR_of (RdL.len hl) (RdL.sound hC hG hl) h⟩
  | _, _, @Rd.row _ _ id n t sz xs ps hs hid hn hl, a, h => by
    have hGid := hG id hs
    rw [hid] at hGid
    simp only [VR] at h
    obtain ⟨rfl, hcap⟩ := h.2.1 (by rw [hGid]; rfl)
    have hbr := hC.br id
    rw [hGid] at hbr
    obtain ⟨cells, hh, hsz, hlen, hmax, hEV⟩ := hbr
    have hlen2 := RdL.len hl
    simp only [PR]
    refine ⟨_, (ι id).2, by rw [List.length_take, Nat.min_eq_left (by omega)], by rw [List.length_take]; omega, hmax, ?_⟩
    refine ER_of (Array.getElem?_eq_some_iff.1 hh).1 (not_offS hC hs (by rw [hGid]; rfl)) hh fun i p hp => ?_
    have hp' : ps[i]? = some p := by
      rw [List.getElem?_take] at hp
      split at hp
      · exact hp
      · cases hp
    have hi : i < xs.length := by rw [hlen2]; exact (List.getElem?_eq_some_iff.1 hp').1
    obtain ⟨v, hv, h2, h3⟩ := hEV i xs[i] (by simp [hi])
    exact ⟨v, RdL.sound hC hG hl i xs[i] p (by simp [hi]) hp' v hv, h2, fun j u hj => by rw [Nat.zero_add]; exact h3 j u hj⟩
  | _, _, @Rd.frow _ _ id n sz ps hs hid hn, a, h => by
    have hGid := hG id hs
    rw [hid] at hGid
    simp only [VR] at h
    obtain ⟨rfl, hcap⟩ := h.2.1 (by rw [hGid]; rfl)
    have hbr := hC.br id
    rw [hGid] at hbr
    simp only [BR] at hbr
    have hbr := hbr.less (Y' := offS X ι G S) fun b hb => offS_off hb
    simp only [PR] at hbr ⊢
    obtain ⟨A, cap, he, h1, h2, h3⟩ := hbr
    simp only [Value.slice.injEq, true_and] at he
    obtain ⟨rfl, rfl⟩ := he
    refine ⟨_, (ι id).2, by rw [List.length_take, Nat.min_eq_left hn], by rw [List.length_take]; omega, h2, ER_take h3⟩
  | _, _, @Rd.bp _ _ id o t cs ps hs hid hl, a, h => by
    have hGid := hG id hs
    rw [hid] at hGid
    simp only [VR] at h
    obtain rfl := h.2.1 (by rw [hGid]; rfl)
    have hbr := hC.br id
    rw [hGid] at hbr
    obtain ⟨vs, hh, hcv⟩ := hbr
    refine PR_cp_drop ?_
    simp only [PR]
    exact ⟨_, vs, rfl, (Array.getElem?_eq_some_iff.1 hh).1, not_offS hC hs (by rw [hGid]; rfl), fun j u hj => by rw [add_mk, cell_mk hh]; simpa using hj, CR_of (RdL.len hl) (RdL.sound hC hG hl) hcv⟩
  | _, _, @Rd.fbp _ _ id o ps hs hid, a, h => by
    have hGid := hG id hs
    rw [hid] at hGid
    simp only [VR] at h
    obtain rfl := h.2.1 (by rw [hGid]; rfl)
    have hbr := hC.br id
    rw [hGid] at hbr
    simp only [BR] at hbr
    exact PR_cp_drop (hbr.less fun b hb => offS_off hb)
theorem RdL.sound (hC : Conc w X ι G) (hG : ∀ id, S id → G id = hget H id) : ∀ {xs : List AV} {ps : List PV}, RdL S H xs ps → ∀ (i : Nat) x p, xs[i]? = some x → ps[i]? = some p → ∀ a, VR w X ι G x a → PR w (offS X ι G S) p a
  | _, _, .nil, i, x, p, h, _ => by simp at h
  | _, _, .cons h0 h, 0, x, p, hx, hp => by simp at hx hp; subst hx; subst hp; exact Rd.sound hC hG h0
  | _, _, .cons h0 h, i + 1, x, p, hx, hp => RdL.sound hC hG h i x p (by simpa using hx) (by simpa using hp)
end

theorem RdL_pvs : ∀ (ps : List PV), RdL S H (pvs ps) ps
  | [] => .nil
  | p :: ps => .cons (.pv p) (RdL_pvs ps)
end
end Go.AM
