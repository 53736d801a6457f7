import Derived.Test.YtececigbpmaacaaGreatPkD
import Derived.IntWalk
import Derived.WalkKit
import Derived.ProofKit
import Derived.OpenShut
import Derived.JoinedCond
set_option linter.all false
namespace Go.AM
open Go.Proofs

/-! ### Blocks under other numbers -/
mutual
def renA (ρ : Nat → Nat) : AV → AV
  | .pv p => .pv p
  | .bp id o => .bp (ρ id) o
  | .row id n => .row (ρ id) n
  | .rp id i o => .rp (ρ id) i o
  | .mix cs => .mix (renL ρ cs)
  | .tup cs => .tup (renL ρ cs)
  | .fn f cs => .fn f (renL ρ cs)
def renL (ρ : Nat → Nat) : List AV → List AV
  | [] => []
  | a :: l => renA ρ a :: renL ρ l
end
def renB (ρ : Nat → Nat) : AB → AB
  | .box t cs => .box t (renL ρ cs)
  | .row t sz xs => .row t sz (renL ρ xs)
  | b => b
mutual
def idsIn (S : Nat → Prop) : AV → Prop
  | .pv _ => True
  | .bp id _ => S id
  | .row id _ => S id
  | .rp id _ _ => S id
  | .mix cs => idsInL S cs
  | .tup cs => idsInL S cs
  | .fn _ cs => idsInL S cs
def idsInL (S : Nat → Prop) : List AV → Prop
  | [] => True
  | a :: l => idsIn S a ∧ idsInL S l
end
def idsInB (S : Nat → Prop) : AB → Prop
  | .box _ cs => idsInL S cs
  | .row _ _ xs => idsInL S xs
  | _ => True

theorem renL_pvs (ρ : Nat → Nat) : ∀ (ps : List PV), renL ρ (pvs ps) = pvs ps
  | [] => rfl
  | p :: ps => by simp only [pvs, renL, renA, renL_pvs ρ ps]
theorem renL_get (ρ : Nat → Nat) : ∀ (l : List AV) (i : Nat), (renL ρ l)[i]? = (l[i]?).map (renA ρ)
  | [], i => by simp [renL]
  | a :: l, 0 => by simp [renL]
  | a :: l, i + 1 => by simp only [renL, List.getElem?_cons_succ]; exact renL_get ρ l i
theorem renL_len (ρ : Nat → Nat) : ∀ (l : List AV), (renL ρ l).length = l.length
  | [] => rfl
  | a :: l => by simp [renL, renL_len ρ l]
theorem idsInL_pvs (S : Nat → Prop) : ∀ (ps : List PV), idsInL S (pvs ps)
  | [] => trivial
  | p :: ps => ⟨trivial, idsInL_pvs S ps⟩
theorem idsInL_get {S : Nat → Prop} : ∀ {l : List AV} {i : Nat} {a : AV}, idsInL S l → l[i]? = some a → idsIn S a
  | [], i, a, _, h => by simp at h
  | b :: l, 0, a, hs, h => by simp at h; subst h; exact hs.1
  | b :: l, i + 1, a, hs, h => idsInL_get hs.2 (by simpa using h)
mutual
theorem renA_ren {ρ ρ' : Nat → Nat} {S : Nat → Prop} (h : ∀ i, S i → ρ' (ρ i) = i) : ∀ (v : AV), idsIn S v → renA ρ' (renA ρ v) = v
  | .pv p, _ => rfl
  | .bp id o, hs => by simp only [renA, h id hs]
  | .row id n, hs => by simp only [renA, h id hs]
  | .rp id i o, hs => by simp only [renA, h id hs]
  | .mix cs, hs => by simp only [renA, renL_ren h cs hs]
  | .tup cs, hs => by simp only [renA, renL_ren h cs hs]
  | .fn f cs, hs => by simp only [renA, renL_ren h cs hs]
theorem renL_ren {ρ ρ' : Nat → Nat} {S : Nat → Prop} (h : ∀ i, S i → ρ' (ρ i) = i) : ∀ (l : List AV), idsInL S l → renL ρ' (renL ρ l) = l
  | [], _ => rfl
  | a :: l, hs => by simp only [renL, renA_ren h a hs.1, renL_ren h l hs.2]
end
mutual
theorem idsIn_ren {ρ : Nat → Nat} {S S' : Nat → Prop} (h : ∀ i, S i → S' (ρ i)) : ∀ (v : AV), idsIn S v → idsIn S' (renA ρ v)
  | .pv p, _ => trivial
  | .bp id o, hs => h id hs
  | .row id n, hs => h id hs
  | .rp id i o, hs => h id hs
  | .mix cs, hs => idsInL_ren h cs hs
  | .tup cs, hs => idsInL_ren h cs hs
  | .fn f cs, hs => idsInL_ren h cs hs
theorem idsInL_ren {ρ : Nat → Nat} {S S' : Nat → Prop} (h : ∀ i, S i → S' (ρ i)) : ∀ (l : List AV), idsInL S l → idsInL S' (renL ρ l)
  | [], _ => trivial
  | a :: l, hs => ⟨idsIn_ren h a hs.1, idsInL_ren h l hs.2⟩
end

section
variable {w : World} {X X1 X2 : Nat → Prop} {ι ι1 ι2 : Io} {G G1 G2 : Own} {S : Nat → Prop} {ρ : Nat → Nat}
mutual
theorem VR_ids : ∀ (v : AV) (a : Value), VR w X ι G v a → idsIn (fun i => (G i).isNone = false) v
  | .pv p, a, _ => trivial
  | .bp id o, a, h => by simp only [VR] at h; exact h.1
  | .row id n, a, h => by simp only [VR] at h; exact h.1
  | .rp id i o, a, h => by simp only [VR] at h; exact h.1
  | .mix cs, a, h => by simp only [VR] at h; obtain ⟨vs, _, h⟩ := h; exact CV_ids cs vs h
  | .tup cs, a, h => by simp only [VR] at h; obtain ⟨vs, _, h⟩ := h; exact TV_ids cs vs h
  | .fn f cs, a, h => by simp only [VR] at h; obtain ⟨vs, _, h⟩ := h; exact TV_ids cs vs h
theorem CV_ids : ∀ (l : List AV) (vs : List Value), CV w X ι G l vs → idsInL (fun i => (G i).isNone = false) l
  | [], _, _ => trivial
  | a :: l, vs, h => by simp only [CV] at h; obtain ⟨u, us, rfl, _, h1, h2⟩ := h; exact ⟨VR_ids a u h1, CV_ids l us h2⟩
theorem TV_ids : ∀ (l : List AV) (vs : List Value), TV w X ι G l vs → idsInL (fun i => (G i).isNone = false) l
  | [], _, _ => trivial
  | a :: l, vs, h => by simp only [TV] at h; obtain ⟨u, us, rfl, h1, h2⟩ := h; exact ⟨VR_ids a u h1, TV_ids l us h2⟩
end

/-- What must agree for values to be told under other numbers. -/
structure Renam (X1 : Nat → Prop) (ι1 : Io) (G1 : Own) (X2 : Nat → Prop) (ι2 : Io) (G2 : Own) (S : Nat → Prop) (ρ : Nat → Nat) : Prop where
  pv : ∀ b, off X2 ι2 G2 b → off X1 ι1 G1 b
  some_ : ∀ i, S i → (G1 i).isNone = false → (G2 (ρ i)).isNone = false
  box : ∀ i, S i → (G1 i).isNone = false → (G2 (ρ i)).isBox = true → (G1 i).isBox = true
  row : ∀ i, S i → (G1 i).isNone = false → (G2 (ρ i)).isRow = true → (G1 i).isRow = true ∧ (G2 (ρ i)).sz = (G1 i).sz
  io : ∀ i, S i → (G1 i).isNone = false → ι2 (ρ i) = ι1 i

mutual
theorem VR_ren (h : Renam X1 ι1 G1 X2 ι2 G2 S ρ) : ∀ (v : AV) (a : Value), idsIn S v → VR w X1 ι1 G1 v a → VR w X2 ι2 G2 (renA ρ v) a
  | .pv p, a, _, hv => by simp only [renA, VR] at hv ⊢; exact hv.less h.pv
  | .bp id o, a, hs, hv => by
    simp only [renA, VR] at hv ⊢
    exact ⟨h.some_ id hs hv.1, fun hb => by rw [h.io id hs hv.1]; exact hv.2.1 (h.box id hs hv.1 hb), hv.2.2⟩
  | .row id n, a, hs, hv => by
    simp only [renA, VR] at hv ⊢
    exact ⟨h.some_ id hs hv.1, fun hb => by rw [h.io id hs hv.1]; exact hv.2.1 (h.row id hs hv.1 hb).1, hv.2.2⟩
  | .rp id i o, a, hs, hv => by
    simp only [renA, VR] at hv ⊢
    exact ⟨h.some_ id hs hv.1, fun hb => by rw [h.io id hs hv.1, (h.row id hs hv.1 hb).2]; exact hv.2.1 (h.row id hs hv.1 hb).1, hv.2.2⟩
  | .mix cs, a, hs, hv => by
    simp only [renA, VR] at hv ⊢
    obtain ⟨vs, rfl, hv⟩ := hv
    exact ⟨vs, rfl, CV_ren h cs vs hs hv⟩
  | .tup cs, a, hs, hv => by
    simp only [renA, VR] at hv ⊢
    obtain ⟨vs, rfl, hv⟩ := hv
    exact ⟨vs, rfl, TV_ren h cs vs hs hv⟩
  | .fn f cs, a, hs, hv => by
    simp only [renA, VR] at hv ⊢
    obtain ⟨vs, rfl, hv⟩ := hv
    exact ⟨vs, rfl, TV_ren h cs vs hs hv⟩
theorem CV_ren (h : Renam X1 ι1 G1 X2 ι2 G2 S ρ) : ∀ (l : List AV) (vs : List Value), idsInL S l → CV w X1 ι1 G1 l vs → CV w X2 ι2 G2 (renL ρ l) vs
  | [], vs, _, hv => by simpa [renL, CV] using hv
  | a :: l, vs, hs, hv => by
    simp only [renL, CV] at hv ⊢
    obtain ⟨u, us, rfl, h1, h2, h3⟩ := hv
    exact ⟨u, us, rfl, h1, VR_ren h a u hs.1 h2, CV_ren h l us hs.2 h3⟩
theorem TV_ren (h : Renam X1 ι1 G1 X2 ι2 G2 S ρ) : ∀ (l : List AV) (vs : List Value), idsInL S l → TV w X1 ι1 G1 l vs → TV w X2 ι2 G2 (renL ρ l) vs
  | [], vs, _, hv => by simpa [renL, TV] using hv
  | a :: l, vs, hs, hv => by
    simp only [renL, TV] at hv ⊢
    obtain ⟨u, us, rfl, h2, h3⟩ := hv
    exact ⟨u, us, rfl, VR_ren h a u hs.1 h2, TV_ren h l us hs.2 h3⟩
end
theorem BR_ren (h : Renam X1 ι1 G1 X2 ι2 G2 S ρ) {i : Nat} {b : AB} (hι : ι2 (ρ i) = ι1 i) (hs : idsInB S b) (hb : BR w X1 ι1 G1 i b) : BR w X2 ι2 G2 (ρ i) (renB ρ b) := by
  cases b with
  | none => trivial
  | dead => trivial
  | box t cs =>
    obtain ⟨⟨vs, h1, h2⟩, h3⟩ := hb
    exact ⟨⟨vs, by rw [hι]; exact h1, CV_ren h cs vs hs h2⟩, by rw [hι]; exact h3⟩
  | smap ks => simp only [renB, BR] at hb ⊢; rw [hι]; exact hb
  | fbox cs => simp only [renB, BR] at hb ⊢; rw [hι]; exact ⟨hb.1.less h.pv, hb.2⟩
  | row t sz xs =>
    obtain ⟨cells, h1, h2, h3, h4, h5⟩ := hb
    refine ⟨cells, by rw [hι]; exact h1, by rw [hι]; exact h2, by rw [renL_len, hι]; exact h3, by rw [hι]; exact h4, ?_⟩
    intro j x hx
    rw [renL_get] at hx
    cases hx' : xs[j]? with
    | none => rw [hx'] at hx; simp at hx
    | some x' =>
      rw [hx'] at hx
      simp at hx
      subst hx
      obtain ⟨v, k1, k2, k3⟩ := h5 j x' hx'
      exact ⟨v, VR_ren h x' v (idsInL_get hs hx') k1, k2, k3⟩
  | frozen sz xs => simp only [renB, BR] at hb ⊢; rw [hι]; exact hb.less h.pv
theorem BR_idsB {i : Nat} {b : AB} (hb : BR w X ι G i b) : idsInB (fun i => (G i).isNone = false) b ∨ ∃ t sz xs, b = .row t sz xs := by
  cases b with
  | box t cs => obtain ⟨⟨vs, h1, h2⟩, _⟩ := hb; exact .inl (CV_ids cs vs h2)
  | row t sz xs => exact .inr ⟨t, sz, xs, rfl⟩
  | _ => exact .inl trivial
theorem renB_live {b : AB} : (renB ρ b).live = b.live := by cases b <;> rfl
theorem renB_isNone {b : AB} : (renB ρ b).isNone = b.isNone := by cases b <;> rfl
theorem renB_isBox {b : AB} : (renB ρ b).isBox = b.isBox := by cases b <;> rfl
theorem renB_isRow {b : AB} : (renB ρ b).isRow = b.isRow := by cases b <;> rfl
theorem renB_sz {b : AB} : (renB ρ b).sz = b.sz := by cases b <;> rfl
theorem EV_ids {cells : Array Value} {sz : Nat} : ∀ {xs : List AV}, EV w X ι G cells sz xs → idsInL (fun i => (G i).isNone = false) xs := by
  intro xs h
  have : ∀ (l : List AV), (∀ x ∈ l, ∃ v, VR w X ι G x v) → idsInL (fun i => (G i).isNone = false) l := by
    intro l
    induction l with
    | nil => intro _; trivial
    | cons a l ih =>
      intro h
      obtain ⟨v, hv⟩ := h a (by simp)
      exact ⟨VR_ids a v hv, ih fun x hx => h x (by simp [hx])⟩
  refine this xs fun x hx => ?_
  obtain ⟨i, hi⟩ := List.getElem?_of_mem hx
  obtain ⟨v, hv, _⟩ := h i x hi
  exact ⟨v, hv⟩
theorem BR_ids {i : Nat} {b : AB} (hb : BR w X ι G i b) : idsInB (fun i => (G i).isNone = false) b := by
  cases b with
  | box t cs => obtain ⟨⟨vs, h1, h2⟩, _⟩ := hb; exact CV_ids cs vs h2
  | row t sz xs => obtain ⟨cells, _, _, _, _, h5⟩ := hb; exact EV_ids h5
  | _ => trivial
end

/-! ### A function that is handed blocks -/
/-- Called in the heap H (numbers of its own: 0 .. ) it returns x in the heap H'. -/
structure HDet (P : Program) (f : FuncId) (vs : List AV) (H : Heap) (x : AV) (H' : Heap) : Prop where
  enters : Enters P f
  args : idsInL (fun i => (hget H i).isNone = false) vs
  blocks : ∀ i, idsInB (fun i => (hget H i).isNone = false) (hget H i)
  calls : ∀ (w : World) (X : Nat → Prop) (ι : Io) (us : List Value), Conc w X ι (hget H) → TV w X ι (hget H) vs us →
    Calls P f us.toArray w fun e w' => ∃ v ι', e = .returned v ∧ VR w' X ι' (hget H') x v ∧ Conc w' X ι' (hget H') ∧ Gr w ι (hget H) w' ι' (hget H')

def retH (m : Nat) (slots : List Nat) (x : AV) (H' : Heap) (ex : Ex) (fr : Fr) (H : Heap) : Prop := match ex with
  | .exit _ => False
  | _ => match resA fr slots with
    | some v => Weak m [(0, v)] H [(0, x)] H'
    | Option.none => False

theorem hget_ge : ∀ {H : Heap} {i : Nat}, hlen H ≤ i → hget H i = .none
  | [], i, _ => hget_nil i
  | _ :: H, 0, h => by simp [hlen] at h
  | _ :: H, i + 1, h => by simp only [hlen] at h; exact hget_ge (H := H) (by omega)

theorem hdet_of_vc {E : Env} (hm : E.P.follows .mixedOrders = true) {f : FuncId} {fn : Func} {c : Code} (hf : E.P.funcs[f]? = some fn) (hname : (fn.name == "runtime.NumGoroutine") = false) (hb : fn.body = some c)
    {slots : List Nat} (hr : resT fn = some slots) {vs : List AV} (hd : (dstsLt fn.ntmps c && Nat.ble (lenL vs) fn.ntmps) = true) {H : Heap} (hE : hlen H ≤ E.m)
    (ha : idsInL (fun i => (hget H i).isNone = false) vs) (hbl : ∀ i, idsInB (fun i => (hget H i).isNone = false) (hget H i))
    {x : AV} {H' : Heap} (h : vc E c (retH E.m slots x H') (initF 0 vs) H) : HDet E.P f vs H x H' := by
  refine ⟨enters_of hf hname hb, ha, hbl, fun w X ι us hC hT => ?_⟩
  simp only [Bool.and_eq_true, lenL_eq] at hd
  have hG0 : ∀ id, E.m ≤ id → (hget H id).isNone = true := fun id hid => by rw [hget_ge (Nat.le_trans hE hid)]; rfl
  refine Calls.mono (calls_vc hm hf hb hr hd.1 hd.2 (K := fun v H1 => Weak E.m [(0, v)] H1 [(0, x)] H') ?_ hC hG0 hT) ?_
  · exact h
  · rintro e w' ⟨y, v, H1, ι', hK, rfl, hv, hC', hG⟩
    obtain ⟨ι2, hS⟩ := hK.run X w ι (hget H) 1 ⟨#[v], []⟩ w' ι' hG0 ⟨hC', fun d z hz => by
      rw [fget_cons] at hz
      split at hz
      · rename_i e; subst e; cases hz; simpa using hv
      · simp [fget] at hz, rfl, rfl, hG⟩
    exact ⟨v, ι2, rfl, by have := hS.slots 0 x (by simp [fget_cons]); simpa using this, hS.conc, hS.gr⟩
end Go.AM

namespace Go.AM
open Go.Proofs

/-- The callee's numbers in the caller: the blocks handed, then new ones. -/
def imp : List Nat → Nat → Nat → Nat
  | [], base, i => base + i
  | k :: _, _, 0 => k
  | _ :: is, base, i + 1 => imp is base i
def updH (ρ : Nat → Nat) : Nat → Heap → Upd
  | _, [] => []
  | k, b :: l => (ρ k, renB ρ b) :: updH ρ (Nat.succ k) l
def eqH (Hc : Heap) (ρ : Nat → Nat) : Nat → Heap → Prop
  | _, [] => True
  | k, b :: l => hget Hc (ρ k) = renB ρ b ∧ eqH Hc ρ (Nat.succ k) l
def okImp (base : Nat) : List Nat → Bool
  | [] => true
  | k :: is => (match memN k is with | true => false | false => Nat.blt k base) && okImp base is
def allSome : Heap → Bool
  | [] => true
  | b :: l => !b.isNone && allSome l

theorem imp_lt : ∀ {is : List Nat} {base i : Nat}, i < is.length → ∃ k, is[i]? = some k ∧ imp is base i = k
  | [], base, i, h => by simp at h
  | k :: is, base, 0, h => ⟨k, rfl, rfl⟩
  | k :: is, base, i + 1, h => by
    obtain ⟨k', h1, h2⟩ := imp_lt (is := is) (base := base) (i := i) (by simpa using h)
    exact ⟨k', by simpa using h1, h2⟩
theorem imp_ge : ∀ {is : List Nat} {base i : Nat}, is.length ≤ i → imp is base i = base + (i - is.length)
  | [], base, i, h => by simp [imp]
  | k :: is, base, 0, h => by simp at h
  | k :: is, base, i + 1, h => by
    simp only [imp]
    rw [imp_ge (by simpa using h)]
    simp
theorem okImp_lt {base : Nat} : ∀ {is : List Nat}, okImp base is = true → ∀ k ∈ is, k < base
  | [], _, k, h => by simp at h
  | k' :: is, h, k, hk => by
    simp only [okImp, Bool.and_eq_true] at h
    rcases List.mem_cons.1 hk with rfl | hk
    · cases hm : memN k is <;> simp only [hm] at h
      · exact Nat.le_of_ble_eq_true h.1
      · simp at h
    · exact okImp_lt h.2 k hk
theorem okImp_inj {base : Nat} : ∀ {is : List Nat}, okImp base is = true → ∀ (i j k : Nat), is[i]? = some k → is[j]? = some k → i = j
  | [], _, i, j, k, h, _ => by simp at h
  | k' :: is, h, i, j, k, hi, hj => by
    simp only [okImp, Bool.and_eq_true] at h
    have hno : k' ∉ is := fun hm => by rw [memN_iff.2 hm] at h; simp at h
    cases i with
    | zero =>
      cases j with
      | zero => rfl
      | succ j => simp at hi hj; subst hi; exact absurd (List.mem_of_getElem? hj) hno
    | succ i =>
      cases j with
      | zero => simp at hi hj; subst hj; exact absurd (List.mem_of_getElem? hi) hno
      | succ j => rw [okImp_inj h.2 i j k (by simpa using hi) (by simpa using hj)]
theorem imp_inj {base : Nat} {is : List Nat} (h : okImp base is = true) {i j : Nat} (he : imp is base i = imp is base j) : i = j := by
  rcases Nat.lt_or_ge i is.length with hi | hi <;> rcases Nat.lt_or_ge j is.length with hj | hj
  · obtain ⟨k, h1, h2⟩ := imp_lt (base := base) hi
    obtain ⟨k', h3, h4⟩ := imp_lt (base := base) hj
    rw [h2, h4] at he
    subst he
    exact okImp_inj h i j k h1 h3
  · obtain ⟨k, h1, h2⟩ := imp_lt (base := base) hi
    have := okImp_lt h k (List.mem_of_getElem? h1)
    rw [imp_ge hj] at he; omega
  · obtain ⟨k, h1, h2⟩ := imp_lt (base := base) hj
    have := okImp_lt h k (List.mem_of_getElem? h1)
    rw [imp_ge hi] at he; omega
  · rw [imp_ge hi, imp_ge hj] at he; omega
theorem eqH_get {Hc : Heap} {ρ : Nat → Nat} : ∀ {H : Heap} {k : Nat}, eqH Hc ρ k H → ∀ i, i < hlen H → hget Hc (ρ (k + i)) = renB ρ (hget H i)
  | [], k, _, i, h => by simp [hlen] at h
  | b :: l, k, he, 0, h => he.1
  | b :: l, k, he, i + 1, h => by
    have := eqH_get he.2 i (by simp only [hlen] at h; omega)
    simp only [hget]
    rw [← this]
    simp only [Nat.succ_eq_add_one, Nat.add_assoc, Nat.add_comm 1]
theorem allSome_get : ∀ {H : Heap}, allSome H = true → ∀ i, i < hlen H → (hget H i).isNone = false
  | [], _, i, h => by simp [hlen] at h
  | b :: l, hs, 0, h => by simp only [allSome, Bool.and_eq_true] at hs; simpa [hget] using hs.1
  | b :: l, hs, i + 1, h => by
    simp only [allSome, Bool.and_eq_true] at hs
    exact allSome_get hs.2 i (by simp only [hlen] at h; omega)
theorem mem_updH {ρ : Nat → Nat} : ∀ {H : Heap} {k id : Nat}, id ∈ uids (updH ρ k H) ↔ ∃ i, i < hlen H ∧ id = ρ (k + i)
  | [], k, id => by simp [updH, uids, hlen]
  | b :: l, k, id => by
    simp only [updH, uids, List.mem_cons, mem_updH, hlen]
    constructor
    · rintro (rfl | ⟨i, h1, h2⟩)
      · exact ⟨0, by simp, rfl⟩
      · exact ⟨i + 1, by omega, by rw [h2]; simp only [Nat.succ_eq_add_one, Nat.add_assoc, Nat.add_comm 1]⟩
    · rintro ⟨i, h1, h2⟩
      cases i with
      | zero => exact .inl h2
      | succ i => exact .inr ⟨i, by omega, by rw [h2]; simp only [Nat.succ_eq_add_one, Nat.add_assoc, Nat.add_comm 1]⟩
theorem gupd_notin : ∀ (u : Upd) (G : Own) (id : Nat), id ∉ uids u → gupd G u id = G id := fun u G id h => by rw [gupd_updW]; exact updW_notin u (by rw [keys_upd]; exact h)
theorem gupd_updH {ρ : Nat → Nat} (hρ : ∀ i j, ρ i = ρ j → i = j) : ∀ (H : Heap) (k : Nat) (G : Own) (i : Nat), i < hlen H → gupd G (updH ρ k H) (ρ (k + i)) = renB ρ (hget H i)
  | [], k, G, i, h => by simp [hlen] at h
  | b :: l, k, G, 0, h => by
    simp only [updH, gupd, Nat.add_zero, hget]
    rw [gupd_notin, gset_self]
    rw [mem_updH]
    rintro ⟨i, _, he⟩
    have := hρ _ _ he
    simp only [Nat.succ_eq_add_one] at this; omega
  | b :: l, k, G, i + 1, h => by
    simp only [updH, gupd, hget]
    have := gupd_updH hρ l (k + 1) (gset G (ρ k) (renB ρ b)) i (by simp only [hlen] at h; omega)
    rw [← this]
    simp only [Nat.succ_eq_add_one, Nat.add_assoc, Nat.add_comm 1]
theorem renB_ren {ρ ρ' : Nat → Nat} {S : Nat → Prop} (h : ∀ i, S i → ρ' (ρ i) = i) : ∀ (b : AB), idsInB S b → renB ρ' (renB ρ b) = b
  | .box t cs, hs => by simp only [renB, renL_ren h cs hs]
  | .row t sz xs, hs => by simp only [renB, renL_ren h xs hs]
  | .none, _ => rfl
  | .dead, _ => rfl
  | .fbox _, _ => rfl
  | .frozen _ _, _ => rfl
  | .smap _, _ => rfl
theorem idsInB_ren {ρ : Nat → Nat} {S S' : Nat → Prop} (h : ∀ i, S i → S' (ρ i)) : ∀ (b : AB), idsInB S b → idsInB S' (renB ρ b)
  | .box t cs, hs => idsInL_ren h cs hs
  | .row t sz xs, hs => idsInL_ren h xs hs
  | .none, _ => trivial
  | .dead, _ => trivial
  | .fbox _, _ => trivial
  | .frozen _ _, _ => trivial
  | .smap _, _ => trivial

theorem BR_none {w : World} {X : Nat → Prop} {ι : Io} {G : Own} {id : Nat} {b : AB} (h : b.isNone = true) : BR w X ι G id b := by cases b <;> first | trivial | (simp [AB.isNone] at h)
open Classical in
noncomputable def inv (ρ : Nat → Nat) (k : Nat) : Nat := if h : ∃ i, ρ i = k then Classical.choose h else 0
theorem inv_ren {ρ : Nat → Nat} (hρ : ∀ i j, ρ i = ρ j → i = j) (i : Nat) : inv ρ (ρ i) = i := by
  unfold inv
  have h : ∃ j, ρ j = ρ i := ⟨i, rfl⟩
  rw [dif_pos h]
  exact hρ _ _ (Classical.choose_spec h)

/-- A call of such a function: the blocks handed are the caller's numbers 'is'. -/
theorem adet_of_hdet {P : Program} {f : FuncId} {vs : List AV} {H : Heap} {x : AV} {H' : Heap} (h : HDet P f vs H x H') {Hc : Heap} (is : List Nat) (base : Nat)
    (h1 : (okImp base is && Nat.beq (hlen H) (lenL is) && Nat.ble (hlen H) (hlen H') && allSome H && Nat.ble (hlen Hc) base) = true) (h2 : eqH Hc (imp is base) 0 H) :
    ADet P f (renL (imp is base) vs) Hc (renA (imp is base) x) (updH (imp is base) 0 H') (is ++ uids (updH (imp is base) 0 H')) := by
  simp only [Bool.and_eq_true] at h1
  obtain ⟨⟨⟨⟨hok, hln⟩, hle⟩, hsome⟩, hbase⟩ := h1
  have hln := Nat.eq_of_beq_eq_true hln
  rw [lenL_eq] at hln
  have hle : hlen H ≤ hlen H' := Nat.le_of_ble_eq_true hle
  have hbase : hlen Hc ≤ base := Nat.le_of_ble_eq_true hbase
  have hρ : ∀ i j, imp is base i = imp is base j → i = j := fun i j => imp_inj hok
  have hnone : ∀ i, hlen H ≤ i → (hget H i) = .none := fun i hi => hget_ge hi
  have hsm : ∀ i, (hget H i).isNone = false → i < hlen H := fun i hi => by
    rcases Nat.lt_or_ge i (hlen H) with h | h
    · exact h
    · rw [hnone i h] at hi; simp [AB.isNone] at hi
  have hsm' : ∀ i, (hget H' i).isNone = false → i < hlen H' := fun i hi => by
    rcases Nat.lt_or_ge i (hlen H') with h | h
    · exact h
    · rw [hget_ge h] at hi; simp [AB.isNone] at hi
  refine ⟨h.enters, fun p hp => List.mem_append_right _ (mem_uids.2 ⟨p.2, hp⟩), ?_⟩
  intro w X ι G us hC hT hTV
  -- the caller's blocks
  have hGi : ∀ i, i < hlen H → G (imp is base i) = renB (imp is base) (hget H i) := fun i hi => by
    obtain ⟨k, k1, k2⟩ := imp_lt (is := is) (base := base) (i := i) (by omega)
    have := eqH_get h2 i hi
    rw [Nat.zero_add] at this
    rw [← this]
    exact hT _ (List.mem_append_left _ (by rw [k2]; exact List.mem_of_getElem? k1))
  have hGn : ∀ i, hlen H ≤ i → i < hlen H' → (G (imp is base i)) = .none := fun i hi hi' => by
    rw [hT _ (List.mem_append_right _ (mem_updH.2 ⟨i, hi', by rw [Nat.zero_add]⟩))]
    rw [imp_ge (by omega)]
    exact hget_ge (by omega)
  have hlive : ∀ i, (hget H i).live = true → (G (imp is base i)).live = true := fun i hi => by
    rw [hGi i (hsm i (isNone_of_live hi)), renB_live]; exact hi
  generalize hρd : imp is base = ρ at *
  have hS : ∃ S : Nat → Prop, S = fun k => ∃ i, i < hlen H ∧ k = ρ i := ⟨_, rfl⟩
  obtain ⟨S, hS⟩ := hS
  have hSi : ∀ i, (hget H i).isNone = false → S (ρ i) := fun i hi => by rw [hS]; exact ⟨i, hsm i hi, rfl⟩
  have hown : ∀ b, own (fun i => ι (ρ i)) (hget H) b → own ι G b := fun b ⟨i, h1, h2⟩ => ⟨ρ i, hlive i h1, h2⟩
  have R1 : Renam X ι G (offS X ι G S) (fun i => ι (ρ i)) (hget H) S (inv ρ) := by
    refine ⟨fun b hb => hb.elim (fun hb => .inl (hown b hb)) offS_off, ?_, ?_, ?_, ?_⟩
    · intro k hk _
      rw [hS] at hk; obtain ⟨i, hi, rfl⟩ := hk
      rw [inv_ren hρ]; exact allSome_get hsome i hi
    · intro k hk _ hb
      rw [hS] at hk; obtain ⟨i, hi, rfl⟩ := hk
      rw [inv_ren hρ] at hb; rw [hGi i hi, renB_isBox]; exact hb
    · intro k hk _ hb
      rw [hS] at hk; obtain ⟨i, hi, rfl⟩ := hk
      rw [inv_ren hρ] at hb ⊢; rw [hGi i hi, renB_isRow, renB_sz]; exact ⟨hb, rfl⟩
    · intro k hk _
      rw [hS] at hk; obtain ⟨i, hi, rfl⟩ := hk
      simp only [inv_ren hρ]
  have hC1 : Conc w (offS X ι G S) (fun i => ι (ρ i)) (hget H) := by
    refine ⟨fun i j hi hj he => hρ _ _ (hC.inj _ _ (hlive i hi) (hlive j hj) he), fun i hi => not_offS hC (hSi i (isNone_of_live hi)) (hlive i hi), fun b hb => off_lt hC (offS_off hb), fun i => ?_, hC.laid, fun p hp i hi => hC.free p hp (ρ i) (hlive i hi)⟩
    cases hid : (hget H i).isNone with
    | true => exact BR_none hid
    | false =>
      have hi := hsm i hid
      have hb := hC.br (ρ i)
      rw [hGi i hi] at hb
      have hb := BR_ren R1 (b := renB ρ (hget H i)) (i := ρ i) (by simp only [inv_ren hρ]) (idsInB_ren (fun j hj => hSi j hj) _ (h.blocks i)) hb
      rw [inv_ren hρ, renB_ren (S := fun i => (hget H i).isNone = false) (fun j _ => inv_ren hρ j) _ (h.blocks i)] at hb
      exact hb
  have hTV1 : TV w (offS X ι G S) (fun i => ι (ρ i)) (hget H) vs us := by
    have := TV_ren R1 _ us (idsInL_ren (fun j hj => hSi j hj) vs h.args) hTV
    rwa [renL_ren (S := fun i => (hget H i).isNone = false) (fun j _ => inv_ren hρ j) vs h.args] at this
  refine Calls.mono (h.calls w (offS X ι G S) (fun i => ι (ρ i)) us hC1 hTV1) ?_
  rintro e w' ⟨v, ι', rfl, hv, hC', hGr⟩
  have hin : ∀ i, i < hlen H' → gupd G (updH ρ 0 H') (ρ i) = renB ρ (hget H' i) := fun i hi => by
    have := gupd_updH hρ H' 0 G i hi
    rwa [Nat.zero_add] at this
  have hout : ∀ id, (∀ i, i < hlen H' → id ≠ ρ i) → gupd G (updH ρ 0 H') id = G id := fun id hid => gupd_notin _ _ _ (by
    rw [mem_updH]
    rintro ⟨i, hi, he⟩
    rw [Nat.zero_add] at he
    exact hid i hi he)
  -- the new map
  have hι : ∃ ι'' : Io, (∀ i, i < hlen H' → ι'' (ρ i) = ι' i) ∧ ∀ id, (∀ i, i < hlen H' → id ≠ ρ i) → ι'' id = ι id := by
    classical
    refine ⟨fun id => if ∃ i, i < hlen H' ∧ id = ρ i then ι' (inv ρ id) else ι id, fun i hi => ?_, fun id hid => ?_⟩
    · have : ∃ j, j < hlen H' ∧ ρ i = ρ j := ⟨i, hi, rfl⟩
      simp only [if_pos this, inv_ren hρ]
    · have : ¬ ∃ j, j < hlen H' ∧ id = ρ j := fun ⟨j, hj, e⟩ => hid j hj e
      simp only [if_neg this]
  obtain ⟨ι'', hι1, hι2⟩ := hι
  have cas : ∀ id, (∃ i, i < hlen H' ∧ id = ρ i) ∨ (∀ i, i < hlen H' → id ≠ ρ i) := fun id => by
    classical
    by_cases hx : ∃ i, i < hlen H' ∧ id = ρ i
    · exact .inl hx
    · exact .inr fun i hi e => hx ⟨i, hi, e⟩
  have notS : ∀ id, (∀ i, i < hlen H' → id ≠ ρ i) → ¬ S id := fun id hid hs => by
    rw [hS] at hs
    obtain ⟨i, hi, e⟩ := hs
    exact hid i (by omega) e
  have keepι : ∀ id, (G id).isNone = false → ι'' id = ι id := by
    intro id hn
    rcases cas id with ⟨i, hi, rfl⟩ | hid
    · rcases Nat.lt_or_ge i (hlen H) with h | h
      · rw [hι1 i hi]
        exact hGr.io i (allSome_get hsome i h)
      · rw [hGn i h hi] at hn; simp [AB.isNone] at hn
    · exact hι2 id hid
  have hGrow : Gr w ι G w' ι'' (gupd G (updH ρ 0 H')) := by
    refine ⟨hGr.size, hGr.os, hGr.tape, hGr.output, fun b hb hno => hGr.frame b hb fun ho => hno (hown b ho), ?_, keepι, ?_, ?_, ?_⟩
    · rintro b hb ⟨id, hl, he⟩
      rcases cas id with ⟨i, hi, rfl⟩ | hid
      · rw [hin i hi, renB_live] at hl
        rw [hι1 i hi] at he
        exact hown b (hGr.owns b hb ⟨i, hl, he⟩)
      · rw [hout id hid] at hl
        rw [hι2 id hid] at he
        exact ⟨id, hl, he⟩
    · intro id hn
      rcases cas id with ⟨i, hi, rfl⟩ | hid
      · rcases Nat.lt_or_ge i (hlen H) with h | h
        · rw [hin i hi, renB_isNone]; exact hGr.some_ i (allSome_get hsome i h)
        · rw [hGn i h hi] at hn; simp [AB.isNone] at hn
      · rw [hout id hid]; exact hn
    · intro id hn hb
      rcases cas id with ⟨i, hi, rfl⟩ | hid
      · rcases Nat.lt_or_ge i (hlen H) with h | h
        · rw [hin i hi, renB_isBox] at hb; rw [hGi i h, renB_isBox]; exact hGr.box i (allSome_get hsome i h) hb
        · rw [hGn i h hi] at hn; simp [AB.isNone] at hn
      · rw [hout id hid] at hb; exact hb
    · intro id hn hb
      rcases cas id with ⟨i, hi, rfl⟩ | hid
      · rcases Nat.lt_or_ge i (hlen H) with h | h
        · rw [hin i hi, renB_isRow] at hb; rw [hin i hi, hGi i h, renB_isRow, renB_sz, renB_sz]; exact hGr.row i (allSome_get hsome i h) hb
        · rw [hGn i h hi] at hn; simp [AB.isNone] at hn
      · rw [hout id hid] at hb ⊢; exact ⟨hb, rfl⟩
  have R2 : Renam (offS X ι G S) ι' (hget H') X ι'' (gupd G (updH ρ 0 H')) (fun i => (hget H' i).isNone = false) ρ := by
    refine ⟨?_, ?_, ?_, ?_, ?_⟩
    · rintro b (⟨id, hl, he⟩ | hb)
      · rcases cas id with ⟨i, hi, rfl⟩ | hid
        · rw [hin i hi, renB_live] at hl
          rw [hι1 i hi] at he
          exact .inl ⟨i, hl, he⟩
        · rw [hout id hid] at hl
          rw [hι2 id hid] at he
          exact .inr (.inr ⟨id, notS id hid, hl, he⟩)
      · exact .inr (.inl hb)
    · intro i _ hn; rw [hin i (hsm' i hn), renB_isNone]; exact hn
    · intro i _ hn hb; rw [hin i (hsm' i hn), renB_isBox] at hb; exact hb
    · intro i _ hn hb; rw [hin i (hsm' i hn), renB_isRow] at hb; rw [hin i (hsm' i hn), renB_sz]; exact ⟨hb, rfl⟩
    · intro i _ hn; exact hι1 i (hsm' i hn)
  refine ⟨v, ι'', rfl, VR_ren R2 x v (VR_ids x v hv) hv, ⟨?_, ?_, fun b hb => Nat.lt_of_lt_of_le (hC.xlt b hb) hGr.size, ?_, hC'.laid, ?_⟩, hGrow⟩
  · intro a b ha hb he
    rcases cas a with ⟨i, hi, rfl⟩ | ha' <;> rcases cas b with ⟨j, hj, rfl⟩ | hb'
    · rw [hin i hi, renB_live] at ha
      rw [hin j hj, renB_live] at hb
      rw [hι1 i hi, hι1 j hj] at he
      rw [hC'.inj i j ha hb he]
    · rw [hin i hi, renB_live] at ha
      rw [hout b hb'] at hb
      rw [hι1 i hi, hι2 b hb'] at he
      exact absurd (show offS X ι G S (ι' i).1 from .inr ⟨b, notS b hb', hb, he.symm⟩) (hC'.dis i ha)
    · rw [hin j hj, renB_live] at hb
      rw [hout a ha'] at ha
      rw [hι1 j hj, hι2 a ha'] at he
      exact absurd (show offS X ι G S (ι' j).1 from .inr ⟨a, notS a ha', ha, he⟩) (hC'.dis j hb)
    · rw [hout a ha'] at ha
      rw [hout b hb'] at hb
      rw [hι2 a ha', hι2 b hb'] at he
      exact hC.inj a b ha hb he
  · intro a ha hX
    rcases cas a with ⟨i, hi, rfl⟩ | ha'
    · rw [hin i hi, renB_live] at ha
      rw [hι1 i hi] at hX
      exact hC'.dis i ha (.inl hX)
    · rw [hout a ha'] at ha
      rw [hι2 a ha'] at hX
      exact hC.dis a ha hX
  · intro id
    rcases cas id with ⟨i, hi, rfl⟩ | hid
    · rw [hin i hi]
      exact BR_ren R2 (hι1 i hi) (BR_ids (hC'.br i)) (hC'.br i)
    · rw [hout id hid]
      cases hn : (G id).isNone with
      | true => exact BR_none hn
      | false =>
        refine (hC.br id).next (hGrow.next X) hn fun hl => hGr.frame _ (BR.lt (hC.br id) hl) ?_
        rintro ⟨i, hi, he⟩
        have := hC.inj _ _ (hlive i hi) hl he
        exact hid i (Nat.lt_of_lt_of_le (hsm i (isNone_of_live hi)) hle) this.symm
  · intro p hp a ha
    rcases cas a with ⟨i, hi, rfl⟩ | ha'
    · rw [hin i hi, renB_live] at ha
      rw [hι1 i hi]
      exact hC'.free p hp i ha
    · rw [hout a ha'] at ha
      rw [hι2 a ha']
      exact hC.free p hp a ha
end Go.AM

namespace Go.AM
open Go.Proofs

mutual
theorem idsIn_all : ∀ (v : AV), idsIn (fun _ => True) v
  | .pv _ => trivial
  | .bp .. => trivial
  | .row .. => trivial
  | .rp .. => trivial
  | .mix cs => idsInL_all cs
  | .tup cs => idsInL_all cs
  | .fn _ cs => idsInL_all cs
theorem idsInL_all : ∀ (l : List AV), idsInL (fun _ => True) l
  | [] => trivial
  | a :: l => ⟨idsIn_all a, idsInL_all l⟩
end
theorem idsInB_all (b : AB) : idsInB (fun _ => True) b := by cases b <;> first | trivial | exact idsInL_all _
mutual
theorem idsIn_and {S T : Nat → Prop} : ∀ (v : AV), idsIn S v → idsIn T v → idsIn (fun i => S i ∧ T i) v
  | .pv _, _, _ => trivial
  | .bp .., h, k => ⟨h, k⟩
  | .row .., h, k => ⟨h, k⟩
  | .rp .., h, k => ⟨h, k⟩
  | .mix cs, h, k => idsInL_and cs h k
  | .tup cs, h, k => idsInL_and cs h k
  | .fn _ cs, h, k => idsInL_and cs h k
theorem idsInL_and {S T : Nat → Prop} : ∀ (l : List AV), idsInL S l → idsInL T l → idsInL (fun i => S i ∧ T i) l
  | [], _, _ => trivial
  | a :: l, h, k => ⟨idsIn_and a h.1 k.1, idsInL_and l h.2 k.2⟩
end
theorem idsInB_and {S T : Nat → Prop} : ∀ (b : AB), idsInB S b → idsInB T b → idsInB (fun i => S i ∧ T i) b
  | .box _ cs, h, k => idsInL_and cs h k
  | .row _ _ xs, h, k => idsInL_and xs h k
  | .none, _, _ => trivial
  | .dead, _, _ => trivial
  | .fbox _, _, _ => trivial
  | .frozen _ _, _, _ => trivial
  | .smap _, _, _ => trivial

def SubR (ρ : Nat → Nat) (fr : Fr) : Fr → Prop
  | [] => True
  | (d, v) :: l => fget fr d = some (renA ρ v) ∧ SubR ρ fr l
def BlkR (ρ : Nat → Nat) (H : Heap) : Nat → Heap → Prop
  | _, [] => True
  | k, b :: l => (match b with | .dead => True | b => renB ρ b = hget H (ρ k)) ∧ BlkR ρ H (Nat.succ k) l
theorem SubR.get {ρ : Nat → Nat} {fr : Fr} : ∀ {fr' : Fr}, SubR ρ fr fr' → ∀ d v, fget fr' d = some v → fget fr d = some (renA ρ v)
  | [], _, d, v, h => by simp [fget] at h
  | (e, x) :: l, hs, d, v, h => by
    rw [fget_cons] at h
    split at h
    · rename_i he; subst he; cases h; exact hs.1
    · exact hs.2.get d v h
theorem BlkR.get {ρ : Nat → Nat} {H : Heap} : ∀ {H' : Heap} {k : Nat}, BlkR ρ H k H' → ∀ i, i < hlen H' → hget H' i = .dead ∨ renB ρ (hget H' i) = hget H (ρ (k + i))
  | [], k, _, i, h => by simp [hlen] at h
  | b :: l, k, hb, 0, h => by
    have := hb.1
    simp only [hget, Nat.add_zero]
    cases b <;> first | exact .inl rfl | exact .inr this
  | b :: l, k, hb, i + 1, h => by
    have := BlkR.get hb.2 i (by simp only [hlen] at h; omega)
    simp only [hget]
    simpa only [Nat.succ_eq_add_one, Nat.add_assoc, Nat.add_comm 1] using this
/-- The first m stay. -/
def idUpto : Nat → List Nat → Nat → Bool
  | 0, _, _ => true
  | m + 1, k :: rs, i => Nat.beq k i && idUpto m rs (Nat.succ i)
  | _ + 1, [], _ => false
theorem idUpto_spec : ∀ {m : Nat} {rs : List Nat} {i base : Nat}, idUpto m rs i = true → ∀ j, j < m → imp rs base j = i + j
  | 0, _, _, _, _, j, h => by omega
  | m + 1, [], i, base, h, j, hj => by simp [idUpto] at h
  | m + 1, k :: rs, i, base, h, 0, hj => by simp only [idUpto, Bool.and_eq_true] at h; simpa [imp] using Nat.eq_of_beq_eq_true h.1
  | m + 1, k :: rs, i, base, h, j + 1, hj => by
    simp only [idUpto, Bool.and_eq_true] at h
    simp only [imp]
    rw [idUpto_spec h.2 j (by omega)]
    simp only [Nat.succ_eq_add_one]; omega

/-- Blocks under new numbers: number i is what was number rs[i]. -/
theorem weak_ren {m : Nat} {fr fr' : Fr} {H H' : Heap} (rs : List Nat) (base : Nat) (h1 : (okImp base rs && Nat.beq (lenL rs) (hlen H') && Nat.ble (hlen H) base && Nat.ble m (hlen H') && idUpto m rs 0) = true)
    (h2 : BlkR (imp rs base) H 0 H') (h3 : SubR (imp rs base) fr fr') : Weak m fr H fr' H' := by
  simp only [Bool.and_eq_true] at h1
  obtain ⟨⟨⟨⟨hok, hln⟩, hbase⟩, hmN⟩, hid⟩ := h1
  have hln := Nat.eq_of_beq_eq_true hln
  rw [lenL_eq] at hln
  have hbase : hlen H ≤ base := Nat.le_of_ble_eq_true hbase
  have hmN : m ≤ hlen H' := Nat.le_of_ble_eq_true hmN
  have hρ : ∀ i j, imp rs base i = imp rs base j → i = j := fun i j => imp_inj hok
  have hid : ∀ j, j < m → imp rs base j = j := fun j hj => by rw [idUpto_spec hid j hj]; omega
  have hbig : ∀ i, hlen H' ≤ i → hget H (imp rs base i) = .none := fun i hi => by rw [imp_ge (by omega)]; exact hget_ge (by omega)
  generalize imp rs base = ρ at *
  refine ⟨fun X w0 ι0 G0 n a w ι hG0 hS => ⟨fun i => ι (ρ i), ?_⟩⟩
  have hb : ∀ i, hget H' i = .dead ∨ (hlen H' ≤ i ∧ hget H' i = .none) ∨ renB ρ (hget H' i) = hget H (ρ i) := fun i => by
    rcases Nat.lt_or_ge i (hlen H') with hi | hi
    · have := h2.get i hi
      rw [Nat.zero_add] at this
      exact this.imp id .inr
    · exact .inr (.inl ⟨hi, hget_ge hi⟩)
  have hlive : ∀ i, (hget H' i).live = true → (hget H (ρ i)).live = true ∧ renB ρ (hget H' i) = hget H (ρ i) := fun i hi => by
    rcases hb i with h | ⟨_, h⟩ | h
    · rw [h] at hi; simp [AB.live] at hi
    · rw [h] at hi; simp [AB.live] at hi
    · exact ⟨by rw [← h, renB_live]; exact hi, h⟩
  have R : Renam X ι (hget H) X (fun i => ι (ρ i)) (hget H') (fun k => (hget H k).isNone = false ∧ ∃ i, True ∧ k = ρ i) (inv ρ) := by
    refine ⟨?_, ?_, ?_, ?_, ?_⟩
    · rintro b (⟨i, hl, he⟩ | hx)
      · exact .inl ⟨ρ i, (hlive i hl).1, he⟩
      · exact .inr hx
    · rintro k ⟨hn, i, _, rfl⟩ _
      rw [inv_ren hρ]
      rcases hb i with h | ⟨hi, h⟩ | h
      · rw [h]; rfl
      · rw [hbig i hi] at hn; simp [AB.isNone] at hn
      · rw [← renB_isNone (ρ := ρ), h]; exact hn
    · rintro k ⟨hn, i, _, rfl⟩ _ hx
      rw [inv_ren hρ] at hx
      rcases hb i with h | ⟨hi, h⟩ | h
      · rw [h] at hx; simp [AB.isBox] at hx
      · rw [h] at hx; simp [AB.isBox] at hx
      · rw [← h, renB_isBox]; exact hx
    · rintro k ⟨hn, i, _, rfl⟩ _ hx
      rw [inv_ren hρ] at hx ⊢
      rcases hb i with h | ⟨hi, h⟩ | h
      · rw [h] at hx; simp [AB.isRow] at hx
      · rw [h] at hx; simp [AB.isRow] at hx
      · rw [← h, renB_isRow, renB_sz]; exact ⟨hx, rfl⟩
    · rintro k ⟨hn, i, _, rfl⟩ _
      simp only [inv_ren hρ]
  have back : ∀ v u, VR w X ι (hget H) (renA ρ v) u → VR w X (fun i => ι (ρ i)) (hget H') v u := fun v u hv => by
    have := VR_ren R (renA ρ v) u (idsIn_and _ (VR_ids _ u hv) (idsIn_ren (S := fun _ => True) (S' := fun k => ∃ i, True ∧ k = ρ i) (fun i _ => ⟨i, trivial, rfl⟩) v (idsIn_all v))) hv
    rwa [renA_ren (S := fun _ => True) (fun i _ => inv_ren hρ i) v (idsIn_all v)] at this
  refine ⟨⟨?_, ?_, hS.conc.xlt, ?_, hS.conc.laid, fun p hp i hi => hS.conc.free p hp (ρ i) (hlive i hi).1⟩, ?_, hS.size, hS.nodef, ?_⟩
  · exact fun i j hi hj he => hρ _ _ (hS.conc.inj _ _ (hlive i hi).1 (hlive j hj).1 he)
  · exact fun i hi hx => hS.conc.dis _ (hlive i hi).1 hx
  · intro i
    rcases hb i with h | ⟨_, h⟩ | h
    · rw [h]; trivial
    · rw [h]; trivial
    · have hk := hS.conc.br (ρ i)
      rw [← h] at hk
      have := BR_ren R (b := renB ρ (hget H' i)) (i := ρ i) (by simp only [inv_ren hρ]) (idsInB_and _ (BR_ids hk) (idsInB_ren (S := fun _ => True) (S' := fun k => ∃ i, True ∧ k = ρ i) (fun i _ => ⟨i, trivial, rfl⟩) _ (idsInB_all _))) hk
      rwa [inv_ren hρ, renB_ren (S := fun _ => True) (fun i _ => inv_ren hρ i) _ (idsInB_all _)] at this
  · exact fun d v hv => back v _ (hS.slots d _ (h3.get d v hv))
  · have hg := hS.gr
    have small : ∀ id, (G0 id).isNone = false → id < m := fun id hn => by
      rcases Nat.lt_or_ge id m with h | h
      · exact h
      · rw [hG0 id h] at hn; cases hn
    refine ⟨hg.size, hg.os, hg.tape, hg.output, hg.frame, ?_, ?_, ?_, ?_, ?_⟩
    · rintro b hlt ⟨i, hl, he⟩
      exact hg.owns b hlt ⟨ρ i, (hlive i hl).1, he⟩
    · intro id hn; simp only [hid id (small id hn)]; exact hg.io id hn
    · intro id hn
      have hsm := small id hn
      have h0 := hg.some_ id hn
      rcases hb id with h | ⟨hi, h⟩ | h
      · rw [h]; rfl
      · omega
      · rw [hid id hsm] at h; rw [← renB_isNone (ρ := ρ), h]; exact h0
    · intro id hn hx
      have hsm := small id hn
      rcases hb id with h | ⟨hi, h⟩ | h
      · rw [h] at hx; simp [AB.isBox] at hx
      · omega
      · rw [hid id hsm] at h; exact hg.box id hn (by rw [← h, renB_isBox]; exact hx)
    · intro id hn hx
      have hsm := small id hn
      rcases hb id with h | ⟨hi, h⟩ | h
      · rw [h] at hx; simp [AB.isRow] at hx
      · omega
      · rw [hid id hsm] at h
        have := hg.row id hn (by rw [← h, renB_isRow]; exact hx)
        rw [← h, renB_sz] at this
        exact ⟨this.1, this.2⟩

/-! ### What was built is read off -/
def SubZ (S : List Nat) (H : Heap) (fr : Fr) : Fr → Prop
  | [] => True
  | (d, v) :: l => (∃ v0, fget fr d = some v0 ∧ (v0 = v ∨ ∃ p, v = .pv p ∧ Rd (· ∈ S) H v0 p)) ∧ SubZ S H fr l
def BlkZ (S : List Nat) (H : Heap) : Nat → Heap → Prop
  | _, [] => True
  | k, b :: l => (match memN k S with | true => b = .dead | false => b = hget H k) ∧ BlkZ S H (Nat.succ k) l
theorem SubZ.get {S : List Nat} {H : Heap} {fr : Fr} : ∀ {fr' : Fr}, SubZ S H fr fr' → ∀ d v, fget fr' d = some v → ∃ v0, fget fr d = some v0 ∧ (v0 = v ∨ ∃ p, v = .pv p ∧ Rd (· ∈ S) H v0 p)
  | [], _, d, v, h => by simp [fget] at h
  | (e, x) :: l, hs, d, v, h => by
    rw [fget_cons] at h
    split at h
    · rename_i he; subst he; cases h; exact hs.1
    · exact hs.2.get d v h
theorem BlkZ.get {S : List Nat} {H : Heap} : ∀ {H' : Heap} {k : Nat}, BlkZ S H k H' → ∀ i, i < hlen H' → (k + i ∈ S ∧ hget H' i = .dead) ∨ (k + i ∉ S ∧ hget H' i = hget H (k + i))
  | [], k, _, i, h => by simp [hlen] at h
  | b :: l, k, hb, 0, h => by
    have := hb.1
    simp only [hget, Nat.add_zero]
    cases hm : memN k S <;> rw [hm] at this
    · exact .inr ⟨fun hk => by rw [memN_iff.2 hk] at hm; simp at hm, this⟩
    · exact .inl ⟨memN_iff.1 hm, this⟩
  | b :: l, k, hb, i + 1, h => by
    have := BlkZ.get hb.2 i (by simp only [hlen] at h; omega)
    simp only [hget]
    simpa only [Nat.succ_eq_add_one, Nat.add_assoc, Nat.add_comm 1] using this

theorem weak_read {m : Nat} {fr fr' : Fr} {H H' : Heap} (S : List Nat) (h1 : Nat.beq (hlen H') (hlen H) = true) (h2 : BlkZ S H 0 H') (h3 : SubZ S H fr fr') : Weak m fr H fr' H' := by
  have h1 := Nat.eq_of_beq_eq_true h1
  have hb : ∀ i, (i ∈ S ∧ (hget H' i = .dead ∨ hget H' i = hget H i ∧ hget H i = .none)) ∨ (i ∉ S ∧ hget H' i = hget H i) := fun i => by
    rcases Nat.lt_or_ge i (hlen H') with hi | hi
    · have := h2.get i hi
      rw [Nat.zero_add] at this
      exact this.imp (fun h => ⟨h.1, .inl h.2⟩) id
    · by_cases hs : i ∈ S
      · exact .inl ⟨hs, .inr ⟨by rw [hget_ge hi, hget_ge (by omega)], hget_ge (by omega)⟩⟩
      · exact .inr ⟨hs, by rw [hget_ge hi, hget_ge (by omega)]⟩
  have hlive : ∀ i, (hget H' i).live = true → i ∉ S ∧ hget H' i = hget H i := fun i hi => by
    rcases hb i with ⟨_, h | ⟨h, h'⟩⟩ | h
    · rw [h] at hi; simp [AB.live] at hi
    · rw [h, h'] at hi; simp [AB.live] at hi
    · exact h
  have hnone : ∀ i, (hget H i).isNone = false → (hget H' i).isNone = false := fun i hi => by
    rcases hb i with ⟨_, h | ⟨h, h'⟩⟩ | ⟨_, h⟩
    · rw [h]; rfl
    · rw [h]; exact hi
    · rw [h]; exact hi
  have hbox : ∀ i, (hget H' i).isBox = true → hget H' i = hget H i := fun i hi => by
    rcases hb i with ⟨_, h | ⟨h, h'⟩⟩ | ⟨_, h⟩
    · rw [h] at hi; simp [AB.isBox] at hi
    · exact h
    · exact h
  have hrow : ∀ i, (hget H' i).isRow = true → hget H' i = hget H i := fun i hi => by
    rcases hb i with ⟨_, h | ⟨h, h'⟩⟩ | ⟨_, h⟩
    · rw [h] at hi; simp [AB.isRow] at hi
    · exact h
    · exact h
  refine ⟨fun X w0 ι0 G0 n a w ι hG0 hS => ⟨ι, ?_⟩⟩
  have N : Next w X ι (hget H) w ι (hget H') := by
    refine ⟨⟨Nat.le_refl _, fun _ _ _ => rfl, fun b _ ho => ?_⟩, fun _ _ => rfl, fun i hi => hnone i hi, fun i _ hx => by rw [← hbox i hx]; exact hx, fun i _ hx => by rw [← hrow i hx]; exact ⟨hx, rfl⟩⟩
    rcases ho with ⟨i, hl, he⟩ | hx
    · exact .inl ⟨i, by rw [← (hlive i hl).2]; exact hl, he⟩
    · exact .inr hx
  refine ⟨⟨?_, ?_, hS.conc.xlt, ?_, hS.conc.laid, fun p hp i hi => by rw [(hlive i hi).2] at hi; exact hS.conc.free p hp i hi⟩, ?_, hS.size, hS.nodef, ?_⟩
  · intro i j hi hj he
    rw [(hlive i hi).2] at hi; rw [(hlive j hj).2] at hj
    exact hS.conc.inj i j hi hj he
  · intro i hi; rw [(hlive i hi).2] at hi; exact hS.conc.dis i hi
  · intro i
    rcases hb i with ⟨_, h | ⟨h, h'⟩⟩ | ⟨_, h⟩
    · rw [h]; trivial
    · rw [h, h']; trivial
    · rw [h]
      cases hn : (hget H i).isNone with
      | true => exact BR_none hn
      | false => exact (hS.conc.br i).next N hn fun _ => rfl
  · intro d v hv
    obtain ⟨v0, hv0, h⟩ := h3.get d v hv
    rcases h with rfl | ⟨p, rfl, hr⟩
    · exact VR.next N _ _ (hS.slots d _ hv0)
    · simp only [VR]
      refine (hr.sound hS.conc (fun _ _ => rfl) _ (hS.slots d _ hv0)).less ?_
      rintro b (⟨i, hl, he⟩ | hx)
      · exact .inr ⟨i, (hlive i hl).1, by rw [← (hlive i hl).2]; exact hl, he⟩
      · exact .inl hx
  · have hg := hS.gr
    refine ⟨hg.size, hg.os, hg.tape, hg.output, hg.frame, ?_, hg.io, fun i hn => hnone i (hg.some_ i hn), fun i hn hx => hg.box i hn (by rw [← hbox i hx]; exact hx), fun i hn hx => ?_⟩
    · rintro b hlt ⟨i, hl, he⟩
      exact hg.owns b hlt ⟨i, by rw [← (hlive i hl).2]; exact hl, he⟩
    · have := hrow i hx
      rw [this] at hx ⊢
      exact hg.row i hn hx
end Go.AM

namespace Go.AM
open Go.Proofs

/-! ### What every tree in a world has: slices no longer than can be -/
mutual
def wf : PV → Prop
  | .lst _ xs => xs.length ≤ maxLen ∧ wfL xs
  | .agg cs => wfL cs
  | .cp cs => wfL cs
  | .tuple cs => wfL cs
  | .fn _ cs => wfL cs
  | _ => True
def wfL : List PV → Prop
  | [] => True
  | p :: l => wf p ∧ wfL l
end
theorem wfL_mem : ∀ {l : List PV}, wfL l → ∀ p ∈ l, wf p
  | [], _, p, h => by simp at h
  | q :: l, hl, p, h => by
    rcases List.mem_cons.1 h with rfl | h
    · exact hl.1
    · exact wfL_mem hl.2 p h
mutual
def wfA : AV → Prop
  | .pv p => wf p
  | .mix cs => wfAL cs
  | .tup cs => wfAL cs
  | .fn _ cs => wfAL cs
  | _ => True
def wfAL : List AV → Prop
  | [] => True
  | p :: l => wfA p ∧ wfAL l
end
section
variable {w : World} {X : Nat → Prop}
mutual
theorem PR_wf : ∀ (p : PV) (v : Value), PR w X p v → wf p
  | .int .., _, _ => trivial
  | .bool .., _, _ => trivial
  | .str .., _, _ => trivial
  | .nils, _, _ => trivial
  | .raw .., _, _ => trivial
  | .agg cs, v, h => by simp only [PR] at h; obtain ⟨vs, _, h⟩ := h; exact CR_wf cs vs h
  | .tuple cs, v, h => by simp only [PR] at h; obtain ⟨vs, _, h⟩ := h; exact TR_wf cs vs h
  | .fn _ cs, v, h => by simp only [PR] at h; obtain ⟨vs, _, h⟩ := h; exact TR_wf cs vs h
  | .cp cs, v, h => by simp only [PR] at h; obtain ⟨ad, vs, _, _, _, _, h⟩ := h; exact CR_wf cs vs h
  | .lst sz xs, v, h => by
    simp only [PR] at h
    obtain ⟨A, cap, _, h1, h2, h3⟩ := h
    exact ⟨Nat.le_trans h1 h2, ER_wf xs sz A 0 h3⟩
theorem CR_wf : ∀ (l : List PV) (vs : List Value), CR w X l vs → wfL l
  | [], _, _ => trivial
  | p :: l, vs, h => by simp only [CR] at h; obtain ⟨u, us, _, _, h1, h2⟩ := h; exact ⟨PR_wf p u h1, CR_wf l us h2⟩
theorem TR_wf : ∀ (l : List PV) (vs : List Value), TR w X l vs → wfL l
  | [], _, _ => trivial
  | p :: l, vs, h => by simp only [TR] at h; obtain ⟨u, us, _, h1, h2⟩ := h; exact ⟨PR_wf p u h1, TR_wf l us h2⟩
theorem ER_wf : ∀ (l : List PV) (sz : Nat) (A : Option Addr) (i : Nat), ER w X l sz A i → wfL l
  | [], _, _, _, _ => trivial
  | p :: l, sz, A, i, h => by simp only [ER] at h; obtain ⟨⟨ad, v, _, _, _, h1, _⟩, h2⟩ := h; exact ⟨PR_wf p v h1, ER_wf l sz A (i + 1) h2⟩
end
end

theorem Det.of_wf {P : Program} {f : FuncId} {ps : List PV} {r : PV} (he : Enters P f) (h : wfL ps → Det P f ps r) : Det P f ps r :=
  ⟨he, fun w X us hX hL hT => (h (TR_wf ps us hT)).calls w X us hX hL hT⟩
theorem det_of_vc' {E : Env} (hE : E.m = 0) (hm : E.P.follows .mixedOrders = true) {f : FuncId} {fn : Func} {c : Code} (hf : E.P.funcs[f]? = some fn) (hname : (fn.name == "runtime.NumGoroutine") = false) (hb : fn.body = some c)
    {slots : List Nat} (hr : resT fn = some slots) {ps : List PV} (hd : (dstsLt fn.ntmps c && Nat.ble (lenL (pvs ps)) fn.ntmps) = true) {r : PV} (h : wfL ps → vc E c (retK slots r) (initF 0 (pvs ps)) []) : Det E.P f ps r :=
  .of_wf (enters_of hf hname hb) fun hw => det_of_vc hE hm hf hname hb hr hd (h hw)

mutual
theorem VR_wfA {w : World} {X : Nat → Prop} {ι : Io} {G : Own} : ∀ (v : AV) (a : Value), VR w X ι G v a → wfA v
  | .pv p, a, h => by simp only [VR] at h; exact PR_wf p a h
  | .bp .., a, h => trivial
  | .row .., a, h => trivial
  | .rp .., a, h => trivial
  | .mix cs, a, h => by simp only [VR] at h; obtain ⟨vs, _, h⟩ := h; exact CV_wfA cs vs h
  | .tup cs, a, h => by simp only [VR] at h; obtain ⟨vs, _, h⟩ := h; exact TV_wfA cs vs h
  | .fn _ cs, a, h => by simp only [VR] at h; obtain ⟨vs, _, h⟩ := h; exact TV_wfA cs vs h
theorem CV_wfA {w : World} {X : Nat → Prop} {ι : Io} {G : Own} : ∀ (l : List AV) (vs : List Value), CV w X ι G l vs → wfAL l
  | [], _, _ => trivial
  | a :: l, vs, h => by simp only [CV] at h; obtain ⟨u, us, rfl, _, h1, h2⟩ := h; exact ⟨VR_wfA a u h1, CV_wfA l us h2⟩
theorem TV_wfA {w : World} {X : Nat → Prop} {ι : Io} {G : Own} : ∀ (l : List AV) (vs : List Value), TV w X ι G l vs → wfAL l
  | [], _, _ => trivial
  | a :: l, vs, h => by simp only [TV] at h; obtain ⟨u, us, rfl, h1, h2⟩ := h; exact ⟨VR_wfA a u h1, TV_wfA l us h2⟩
end
theorem hdet_of_vc' {E : Env} (hm : E.P.follows .mixedOrders = true) {f : FuncId} {fn : Func} {c : Code} (hf : E.P.funcs[f]? = some fn) (hname : (fn.name == "runtime.NumGoroutine") = false) (hb : fn.body = some c)
    {slots : List Nat} (hr : resT fn = some slots) {vs : List AV} (hd : (dstsLt fn.ntmps c && Nat.ble (lenL vs) fn.ntmps) = true) {H : Heap} (hE : hlen H ≤ E.m)
    (ha : idsInL (fun i => (hget H i).isNone = false) vs) (hbl : ∀ i, idsInB (fun i => (hget H i).isNone = false) (hget H i))
    {x : AV} {H' : Heap} (h : wfAL vs → vc E c (retH E.m slots x H') (initF 0 vs) H) : HDet E.P f vs H x H' :=
  ⟨enters_of hf hname hb, ha, hbl, fun w X ι us hC hT => (hdet_of_vc hm hf hname hb hr hd hE ha hbl (h (TV_wfA vs us hT))).calls w X ι us hC hT⟩

/-! ### Numbers -/
theorem wrapI {n : Int} (h1 : -9223372036854775808 ≤ n) (h2 : n ≤ 9223372036854775807) : IntKind.wrap .i64 n = n := Go.IntWalk.i64_in n ⟨h1, h2⟩

/-! ### Small ends -/
theorem sI {k : IntKind} {a b : Int} (h : a = b) : some (AV.pv (.int k a)) = some (AV.pv (.int k b)) := by rw [h]
theorem sP {a b : PV} (h : a = b) : some (AV.pv a) = some (AV.pv b) := by rw [h]
theorem rdP {S : Nat → Prop} {H : Heap} {p r : PV} (h : p = r) : Rd S H (.pv p) r := h ▸ Rd.pv p
theorem rdI {S : Nat → Prop} {H : Heap} {k : IntKind} {a b : Int} (h : a = b) : Rd S H (.pv (.int k a)) (.int k b) := h ▸ Rd.pv _
theorem rdB {S : Nat → Prop} {H : Heap} {a b : Bool} (h : a = b) : Rd S H (.pv (.bool a)) (.bool b) := h ▸ Rd.pv _
/-- A counter goes on. -/
theorem sUp {i n : Nat} (h : i < n) (hn : n ≤ 9223372036854775807) : some (AV.pv (.int .i64 (IntKind.wrap .i64 ((i : Int) + 1)))) = some (AV.pv (.int .i64 ((i + 1 : Nat) : Int))) := by
  rw [wrapI (by omega) (by omega)]; rfl
theorem subUp {n i : Nat} (h : i < n) : n - (i + 1) < n - i := by omega
theorem dT {p : Prop} [Decidable p] (h : decide p = true) : p := of_decide_eq_true h
theorem dF {p : Prop} [Decidable p] (h : decide p = false) : ¬ p := of_decide_eq_false h
/-- All slots let go of but those named, no block kept. -/
theorem weak_bare {m : Nat} {fr fr' : Fr} {H : Heap} (hm : m = 0) (h : SubR (fun i => hlen H + i) fr fr') : Weak m fr H fr' [] := by
  subst hm
  exact weak_ren (rs := []) (hlen H) (by simp [okImp, lenL, hlen, idUpto]) trivial h
theorem maxLen_val : maxLen = 9223372036854775807 := rfl

theorem acall_hdet {P : Program} {g : FuncId} {args vs : List AV} {H Hc H' : Heap} {x : AV} {K : AV → Upd → List Nat → Prop} (h : HDet P g vs H x H') (is : List Nat) (base : Nat)
    (ha : args = renL (imp is base) vs) (h1 : (okImp base is && Nat.beq (hlen H) (lenL is) && Nat.ble (hlen H) (hlen H') && allSome H && Nat.ble (hlen Hc) base) = true) (h2 : eqH Hc (imp is base) 0 H)
    (k : K (renA (imp is base) x) (updH (imp is base) 0 H') (is ++ uids (updH (imp is base) 0 H'))) : ACall P g args Hc K :=
  acall_intro (ha ▸ adet_of_hdet h is base h1 h2) k
/-- Blocks of trees. -/
def pureH : Heap → Prop
  | [] => True
  | b :: l => (∀ S : Nat → Prop, idsInB S b) ∧ pureH l
theorem pureH_get : ∀ {H : Heap}, pureH H → ∀ (S : Nat → Prop) i, idsInB S (hget H i)
  | [], _, S, i => by rw [hget_nil]; trivial
  | b :: l, h, S, 0 => h.1 S
  | b :: l, h, S, i + 1 => pureH_get h.2 S i
end Go.AM

namespace Go.AM
open Go.Proofs

/-! ### A result that stands in a cell -/
def resC (fn : Func) : Option (Nat × TypeId) := match fn.results.toList with
  | [.cell a t] => some (a, t)
  | _ => Option.none

theorem results_cell {fn : Func} {a : Nat} {t : TypeId} (h : resC fn = some (a, t)) {P : Program} {tmps : Array Value} {w : World} {ad : Addr} {v : Value} (he : tmps.getD a undef = .pointer (some ad)) (hr : (loadVar t ad).run P w = .ok v w) :
    (results fn tmps).run P w = .ok v w := by
  unfold resC at h
  split at h
  · rename_i a' t' hl
    cases h
    have : fn.results = #[.cell a t] := by cases hf : fn.results; rw [hf] at hl; simpa using hl
    have h1 : (asAddr (tmps[a]?.getD undef)).run P w = .ok ad w := by rw [Array.getD_eq_getD_getElem?] at he; rw [he]; rfl
    simp [results, this, h1, hr, Result.andThen]
  · cases h

def retCK (te : TE) (a : Nat) (t : TypeId) (K : AV → Heap → Prop) (ex : Ex) (fr : Fr) (H : Heap) : Prop := match ex with
  | .exit _ => False
  | _ => match fget fr a with
    | some v => dLoad te H t v (fun x _ => K x H)
    | Option.none => False

theorem calls_vc_cell {E : Env} (hm : E.P.follows .mixedOrders = true) {f : FuncId} {fn : Func} {c : Code} (hf : E.P.funcs[f]? = some fn) (hb : fn.body = some c) {ra : Nat} {rt : TypeId} (hr : resC fn = some (ra, rt))
    (hd : dstsLt fn.ntmps c = true) {vs : List AV} (hp : Nat.ble vs.length fn.ntmps = true) {H : Heap} {K : AV → Heap → Prop}
    (h : vc E c (retCK E.te ra rt K) (initF 0 vs) H)
    {w : World} {X : Nat → Prop} {ι : Io} (hC : Conc w X ι (hget H)) (hG0 : ∀ id, E.m ≤ id → (hget H id).isNone = true) {us : List Value} (hT : TV w X ι (hget H) vs us) :
    Calls E.P f us.toArray w fun e w' => ∃ x v H' ι', K x H' ∧ e = .returned v ∧ VR w' X ι' (hget H') x v ∧ Conc w' X ι' (hget H') ∧ Gr w ι (hget H) w' ι' (hget H') := by
  have hlen := TV_len hT
  have hp' : us.length ≤ fn.ntmps := by rw [hlen]; exact Nat.le_of_ble_eq_true hp
  refine calls_of_wp hf hb ?_
  refine vc_sound (X := X) (w0 := w) (ι0 := ι) (G0 := hget H) (n := fn.ntmps) hm hG0 c _ _ _ hd h _ ?_ _ w ι ?_
  · intro ex fr H' hk a w' ι' hS
    have fin : (match fget fr ra with | some v => dLoad E.te H' rt v (fun x _ => K x H') | Option.none => False) → a.defers = [] ∧ ∃ v, (results fn a.tmps).run E.P w' = .ok v w' ∧
        ∃ x v' H' ι', K x H' ∧ Ending.returned v = .returned v' ∧ VR w' X ι' (hget H') x v' ∧ Conc w' X ι' (hget H') ∧ Gr w ι (hget H) w' ι' (hget H') := by
      intro hk
      cases hv : fget fr ra with
      | none => rw [hv] at hk; exact hk.elim
      | some x =>
        rw [hv] at hk
        obtain ⟨y, hK, ad, v, he, hrun, hy⟩ := sound_loadV E.hte hS.conc (fun _ _ => rfl) (hS.slots ra x hv) hk
        exact ⟨hS.nodef, v, results_cell hr he hrun, y, v, H', ι', hK, rfl, hy, hS.conc, hS.gr⟩
    cases ex with
    | normal => exact fin hk
    | ret => exact fin hk
    | exit id => exact hk.elim
  · refine ⟨hC, fun d v hv => ?_, by simp; omega, rfl, Gr.refl _ _ _⟩
    obtain ⟨i, u, rfl, h4, h5⟩ := initF_get hT hv
    have hi : i < us.length := (List.getElem?_eq_some_iff.1 h4).1
    have : (us.toArray ++ Array.replicate (fn.ntmps - us.toArray.size) undef).getD (0 + i) undef = u := by
      rw [Array.getD_eq_getD_getElem?, Array.getElem?_append_left (by simpa using hi)]
      simp [h4]
    rw [this]
    exact h5

/-- THE LAW OF A FUNCTION OF TREES whose result stands in a cell. -/
theorem det_of_vcc {E : Env} (hE : E.m = 0) (hm : E.P.follows .mixedOrders = true) {f : FuncId} {fn : Func} {c : Code} (hf : E.P.funcs[f]? = some fn) (hname : (fn.name == "runtime.NumGoroutine") = false) (hb : fn.body = some c)
    {cell : Nat × TypeId} (hr : resC fn = some cell) {ps : List PV} (hd : (dstsLt fn.ntmps c && Nat.ble (lenL (pvs ps)) fn.ntmps) = true) {r : PV}
    (h : wfL ps → vc E c (retCK E.te cell.1 cell.2 fun v H' => Rd (fun _ => True) H' v r) (initF 0 (pvs ps)) []) : Det E.P f ps r := by
  refine Det.of_wf (enters_of hf hname hb) fun hw => ?_
  refine ⟨enters_of hf hname hb, fun w X us hX hL hT => ?_⟩
  simp only [Bool.and_eq_true, lenL_eq] at hd
  have hno : ∀ b, ¬ own (fun _ => (0, 0)) (hget []) b := by rintro b ⟨id, h, _⟩; simp [hget_nil, AB.live] at h
  have hoff : off X (fun _ => (0, 0)) (hget []) = X := by
    funext b; exact propext ⟨fun h => h.elim (fun h => absurd h (hno b)) id, .inr⟩
  have hC : Conc w X (fun _ => (0, 0)) (hget []) := ⟨fun i j h => by simp [hget_nil, AB.live] at h, fun i h => by simp [hget_nil, AB.live] at h, hX, fun id => by rw [hget_nil]; trivial, hL, fun p _ i h => by simp [hget_nil, AB.live] at h⟩
  refine Calls.mono (calls_vc_cell hm hf hb hr hd.1 hd.2 (h hw) hC (fun id _ => by rw [hget_nil]; rfl) (TV_pvs.2 (by rw [hoff]; exact hT))) ?_
  rintro e w' ⟨x, v, H', ι', hK, rfl, hv, hC', hG⟩
  refine ⟨v, rfl, (Rd.sound hC' (fun _ _ => rfl) hK v hv).less fun b hb => .inl hb, hG.size, hG.os, hG.tape, hG.output, fun b hb => hG.frame b hb (hno b)⟩

def resCT (fn : Func) : Option (Nat × TypeId × Nat) := match fn.results.toList with
  | [.cell a t, .tmp b] => some (a, t, b)
  | _ => Option.none

theorem results_ct {fn : Func} {a b : Nat} {t : TypeId} (h : resCT fn = some (a, t, b)) {P : Program} {tmps : Array Value} {w : World} {ad : Addr} {v : Value} (he : tmps.getD a undef = .pointer (some ad)) (hr : (loadVar t ad).run P w = .ok v w) :
    (results fn tmps).run P w = .ok (.tuple #[v, tmps.getD b undef]) w := by
  unfold resCT at h
  split at h
  · rename_i a' t' b' hl
    cases h
    have : fn.results = #[.cell a t, .tmp b] := by cases hf : fn.results; rw [hf] at hl; simpa using hl
    have h1 : (asAddr (tmps[a]?.getD undef)).run P w = .ok ad w := by rw [Array.getD_eq_getD_getElem?] at he; rw [he]; rfl
    simp [results, this, h1, hr, Result.andThen]
  · cases h

def retCT (te : TE) (a : Nat) (t : TypeId) (b : Nat) (K : AV → Heap → Prop) (ex : Ex) (fr : Fr) (H : Heap) : Prop := match ex with
  | .exit _ => False
  | _ => match fget fr a, fget fr b with
    | some v, some y => dLoad te H t v (fun x _ => K (mkTup [x, y]) H)
    | _, _ => False

theorem calls_vc_ct {E : Env} (hm : E.P.follows .mixedOrders = true) {f : FuncId} {fn : Func} {c : Code} (hf : E.P.funcs[f]? = some fn) (hb : fn.body = some c) {ra rb : Nat} {rt : TypeId} (hr : resCT fn = some (ra, rt, rb))
    (hd : dstsLt fn.ntmps c = true) {vs : List AV} (hp : Nat.ble vs.length fn.ntmps = true) {H : Heap} {K : AV → Heap → Prop}
    (h : vc E c (retCT E.te ra rt rb K) (initF 0 vs) H)
    {w : World} {X : Nat → Prop} {ι : Io} (hC : Conc w X ι (hget H)) (hG0 : ∀ id, E.m ≤ id → (hget H id).isNone = true) {us : List Value} (hT : TV w X ι (hget H) vs us) :
    Calls E.P f us.toArray w fun e w' => ∃ x v H' ι', K x H' ∧ e = .returned v ∧ VR w' X ι' (hget H') x v ∧ Conc w' X ι' (hget H') ∧ Gr w ι (hget H) w' ι' (hget H') := by
  have hlen := TV_len hT
  have hp' : us.length ≤ fn.ntmps := by rw [hlen]; exact Nat.le_of_ble_eq_true hp
  refine calls_of_wp hf hb ?_
  refine vc_sound (X := X) (w0 := w) (ι0 := ι) (G0 := hget H) (n := fn.ntmps) hm hG0 c _ _ _ hd h _ ?_ _ w ι ?_
  · intro ex fr H' hk a w' ι' hS
    have fin : (match fget fr ra, fget fr rb with | some v, some y => dLoad E.te H' rt v (fun x _ => K (mkTup [x, y]) H') | _, _ => False) → a.defers = [] ∧ ∃ v, (results fn a.tmps).run E.P w' = .ok v w' ∧
        ∃ x v' H' ι', K x H' ∧ Ending.returned v = .returned v' ∧ VR w' X ι' (hget H') x v' ∧ Conc w' X ι' (hget H') ∧ Gr w ι (hget H) w' ι' (hget H') := by
      intro hk
      cases hv : fget fr ra with
      | none => rw [hv] at hk; exact hk.elim
      | some x =>
        cases hv2 : fget fr rb with
        | none => rw [hv, hv2] at hk; exact hk.elim
        | some z =>
          rw [hv, hv2] at hk
          simp only at hk
          obtain ⟨y, hK, ad, v, he, hrun, hy⟩ := sound_loadV E.hte hS.conc (fun _ _ => rfl) (hS.slots ra x hv) hk
          refine ⟨hS.nodef, _, results_ct hr he hrun, _, _, H', ι', hK, rfl, ?_, hS.conc, hS.gr⟩
          exact VR_mkTup (us := [v, a.tmps.getD rb undef]) (by simp only [TV]; exact ⟨_, _, rfl, hy, _, _, rfl, hS.slots rb z hv2, rfl⟩)
    cases ex with
    | normal => exact fin hk
    | ret => exact fin hk
    | exit id => exact hk.elim
  · refine ⟨hC, fun d v hv => ?_, by simp; omega, rfl, Gr.refl _ _ _⟩
    obtain ⟨i, u, rfl, h4, h5⟩ := initF_get hT hv
    have hi : i < us.length := (List.getElem?_eq_some_iff.1 h4).1
    have : (us.toArray ++ Array.replicate (fn.ntmps - us.toArray.size) undef).getD (0 + i) undef = u := by
      rw [Array.getD_eq_getD_getElem?, Array.getElem?_append_left (by simpa using hi)]
      simp [h4]
    rw [this]
    exact h5

/-- THE LAW OF A FUNCTION OF TREES of two results, the first in a cell. -/
theorem det_of_vct {E : Env} (hE : E.m = 0) (hm : E.P.follows .mixedOrders = true) {f : FuncId} {fn : Func} {c : Code} (hf : E.P.funcs[f]? = some fn) (hname : (fn.name == "runtime.NumGoroutine") = false) (hb : fn.body = some c)
    {cell : Nat × TypeId × Nat} (hr : resCT fn = some cell) {ps : List PV} (hd : (dstsLt fn.ntmps c && Nat.ble (lenL (pvs ps)) fn.ntmps) = true) {r : PV}
    (h : wfL ps → vc E c (retCT E.te cell.1 cell.2.1 cell.2.2 fun v H' => Rd (fun _ => True) H' v r) (initF 0 (pvs ps)) []) : Det E.P f ps r := by
  refine Det.of_wf (enters_of hf hname hb) fun hw => ?_
  refine ⟨enters_of hf hname hb, fun w X us hX hL hT => ?_⟩
  simp only [Bool.and_eq_true, lenL_eq] at hd
  have hno : ∀ b, ¬ own (fun _ => (0, 0)) (hget []) b := by rintro b ⟨id, h, _⟩; simp [hget_nil, AB.live] at h
  have hoff : off X (fun _ => (0, 0)) (hget []) = X := by
    funext b; exact propext ⟨fun h => h.elim (fun h => absurd h (hno b)) id, .inr⟩
  have hC : Conc w X (fun _ => (0, 0)) (hget []) := ⟨fun i j h => by simp [hget_nil, AB.live] at h, fun i h => by simp [hget_nil, AB.live] at h, hX, fun id => by rw [hget_nil]; trivial, hL, fun p _ i h => by simp [hget_nil, AB.live] at h⟩
  refine Calls.mono (calls_vc_ct hm hf hb hr hd.1 hd.2 (h hw) hC (fun id _ => by rw [hget_nil]; rfl) (TV_pvs.2 (by rw [hoff]; exact hT))) ?_
  rintro e w' ⟨x, v, H', ι', hK, rfl, hv, hC', hG⟩
  refine ⟨v, rfl, (Rd.sound hC' (fun _ _ => rfl) hK v hv).less fun b hb => .inl hb, hG.size, hG.os, hG.tape, hG.output, fun b hb => hG.frame b hb (hno b)⟩
end Go.AM

namespace Go.AM
open Go.Proofs
theorem Det.le {P : Program} {f : FuncId} {ps qs : List PV} {r : PV} (h : Det P f qs r) (hl : PLeL ps qs) : Det P f ps r :=
  ⟨h.enters, fun w X us hX hL hT => h.calls w X us hX hL (hl.soundT us hT)⟩
theorem Det.res {P : Program} {f : FuncId} {ps : List PV} {r s : PV} (h : Det P f ps r) (hl : PLe r s) : Det P f ps s :=
  ⟨h.enters, fun w X us hX hL hT => Calls.mono (h.calls w X us hX hL hT) fun e w' ⟨v, h1, h2, h3⟩ => ⟨v, h1, hl.sound v h2, h3⟩⟩
end Go.AM

namespace Go.AM
open Go.ChangeShapes Go.WideShapes Go.ChangeAt Go.RowKit

theorem Pres.below {w w' : World} (h : Pres w w') : Below w.heap.size w w' := ⟨h.os, h.tape, h.output, h.size, h.heap⟩

/-- 'post_of_same' of a world of which only what was there is known. -/
theorem post_of_below {H : Type} {enc : TypeId × Value → H} {P : Program} {f : Func} {s : ChangeSpec} {apart fresh handsOn again : Bool} {W W' : World} {args : Array Value} {v : Value} {ds gs : List (DataW H)} {before pa pv : List MemPlace}
    (hW : DataW.Whole enc P f.params.toList s.vars apart W args.toList ds gs before)
    (hres : ∀ (b : Nat) (sp : Nat → Bool) (hd : Bool), DataW.TrodAll enc P W' b sp hd f.resultTypes.toList (v.resultList f.resultTypes.size) (s.fn H (ds ++ gs)).results [])
    (hargs : ∀ sp : Nat → Bool, (∀ p ∈ before, sp p.block = true) → DataW.TrodAll enc P W' 0 sp true f.params.toList args.toList (s.fn H (ds ++ gs)).args pa)
    (hvars : ∀ sp : Nat → Bool, (∀ p ∈ before, sp p.block = true) → DataW.TrodVars enc P W' sp s.vars (s.fn H (ds ++ gs)).vars pv)
    (hps : before = pa ++ pv) (hb : Below W.heap.size W W')
    (hok : ∀ (j : Nat) (t : TypeId) (r : Value), f.resultTypes[j]? = some t → (v.resultList f.resultTypes.size)[j]? = some r → Value.okWide P W' .any 0 t r) :
    s.post enc P f apart fresh handsOn again W args v W' := by
  have hold : ∀ p ∈ before, (fun b => decide (b < W.heap.size)) p.block = true := fun p hp => by simpa using hW.lt p hp
  have hlt := hW.lt
  refine ⟨ds, gs, before, [], pa, pv, hW, hres _ _ _, hargs _ hold, hvars _ hold, World.keptBut_mono (fun p hp => ⟨hp, ?_⟩) (hb.frame (· ∈ before)), fun _ => ?_⟩
  · rw [hps, List.mem_append] at hp
    exact Or.inr hp
  · obtain ⟨_, _, _, _, _, hz, hn⟩ := hW
    refine ⟨hok, _, _, ([] ++ pa) ++ pv, ⟨[] ++ pa, pv, trodAll_append (hargs _ (fun _ _ => rfl)) (hres _ _ _), hvars _ (fun _ _ => rfl), rfl, ?_, ?_⟩, ?_⟩
    · intro b off hp
      have hp' : MemPlace.cell b off ∈ before := by rw [hps]; simpa using hp
      rw [hb.frozen (hlt _ hp')]
      exact hz b off hp'
    · intro ha
      have := hn ha
      rw [hps] at this
      simpa using this
    · intro p hp _
      rw [hps]
      simpa using hp
end Go.AM

namespace Go.AM
open Go.ChangeShapes Go.WideShapes Go.ChangeAt Go.RowKit

theorem mapM_get {α β : Type} {f : α → Option β} : ∀ {l : List α} {r : List β}, l.mapM f = some r → ∀ (i : Nat) a, l[i]? = some a → ∃ b, r[i]? = some b ∧ f a = some b
  | [], r, h, i, a, ha => by simp at ha
  | x :: l, r, h, i, a, ha => by
    rw [List.mapM_cons] at h
    cases hx : f x with
    | none => simp [hx] at h
    | some y =>
      cases hl : l.mapM f with
      | none => simp [hx, hl] at h
      | some r' =>
        simp [hx, hl] at h
        subst h
        cases i with
        | zero => simp at ha; subst ha; exact ⟨y, rfl, hx⟩
        | succ i => simpa using mapM_get hl i a (by simpa using ha)
theorem mapM_len {α β : Type} {f : α → Option β} : ∀ {l : List α} {r : List β}, l.mapM f = some r → r.length = l.length
  | [], r, h => by simp at h; subst h; rfl
  | x :: l, r, h => by
    rw [List.mapM_cons] at h
    cases hx : f x with
    | none => simp [hx] at h
    | some y =>
      cases hl : l.mapM f with
      | none => simp [hx, hl] at h
      | some r' => simp [hx, hl] at h; subst h; simp [mapM_len hl]
theorem cells_get {w : World} {a : Addr} {n : Nat} {cs : List Value} (h : w.cells? 0 a n = some cs) : cs.length = n ∧ ∀ j u, cs[j]? = some u → w.cell? (a.add j) = some u := by
  unfold World.cells? at h
  rw [if_pos (Nat.zero_le _)] at h
  have hl := mapM_len h
  simp at hl
  refine ⟨hl, fun j u hj => ?_⟩
  have hj' : j < n := by rw [← hl]; exact (List.getElem?_eq_some_iff.1 hj).1
  obtain ⟨b, h1, h2⟩ := mapM_get h j j (by simp [hj'])
  rw [h1] at hj; cases hj
  exact h2

section
variable {H : Type} {enc : TypeId × Value → H} {P : Program} {w : World} {held : Bool} {spare : Nat → Bool}
def NoX : Nat → Prop := fun _ => False

/-- An element's tree. -/
def ElemOK (w : World) (p : PV) (cs : List Value) : Prop := ∃ v : Value, PR w NoX p v ∧ v.cells.toList = cs ∧ ∀ u ∈ cs, u.oneCell' = true

theorem ER_mk {sz : Nat} {a : Addr} : ∀ {xs : List PV} {i : Nat}, (∀ (j : Nat) p, xs[j]? = some p → ∃ cs : List Value, cs.length = sz ∧ 0 < sz ∧ ElemOK w p cs ∧ ∀ k u, cs[k]? = some u → w.cell? (a.add ((i + j) * sz + k)) = some u) → ER w NoX xs sz (some a) i
  | [], i, _ => by simp [ER]
  | p :: xs, i, h => by
    simp only [ER]
    refine ⟨?_, ER_mk fun j p' hp => ?_⟩
    · obtain ⟨cs, h1, h0, ⟨v, h2, h3, h4⟩, h5⟩ := h 0 p rfl
      have hblk : a.block < w.heap.size := by
        have hc0 : cs[0]? = some cs[0] := by simp
        have := h5 0 _ hc0
        have := World.block_lt_of_cell? w _ this
        rwa [add_block] at this
      refine ⟨a, v, rfl, hblk, fun h => h, h2, by rw [← h1, ← h3]; simp, fun j u hj => ?_⟩
      have hj' : cs[j]? = some u := by rw [← h3]; simpa using hj
      exact ⟨by simpa using h5 j u hj', h4 u (List.mem_of_getElem? hj')⟩
    · obtain ⟨cs, h1, h0, h2, h5⟩ := h (j + 1) p' (by simpa using hp)
      exact ⟨cs, h1, h0, h2, fun k u hk => by rw [show i + 1 + j = i + (j + 1) by omega]; exact h5 k u hk⟩

/-- A slice that came in. -/
theorem trod_lst {t e : TypeId} (hu : P.underlying t = some (.slice e)) (hsz : 0 < P.cellsOf e) {Q : PV → Prop} {fuel : Nat} {u : Value} {x : DataW H × List MemPlace}
    (h : DataW.trod enc P w 0 spare held (fuel + 1) t [u] = some x) (he : ∀ cs y, DataW.trod enc P w 0 spare held fuel e cs = some y → ∃ p, Q p ∧ ElemOK w p cs) :
    ∃ xs : List PV, (∀ p ∈ xs, Q p) ∧ PR w NoX (.lst (P.cellsOf e) xs) u ∧ u.oneCell' = true := by
  unfold DataW.trod at h
  rw [hu] at h
  simp only at h
  split at h <;> try (rename_i h1 h2; simp at h1)
  case h_7 =>
    subst h1
    cases h2
    exact ⟨[], fun p hp => by simp at hp, by simp only [PR]; exact ⟨Option.none, 0, rfl, Nat.le_refl _, Nat.zero_le _, by simp [ER]⟩, rfl⟩
  case h_8 =>
    rename_i e' a len cap
    subst h1
    cases h2
    split at h
    · rename_i hb
      obtain ⟨_, h1, h2⟩ := hb
      cases hm : (List.range len).mapM (fun i => (w.cells? 0 (a.add (i * P.cellsOf e)) (P.cellsOf e)).bind (DataW.trod enc P w 0 spare held fuel e)) with
      | none => rw [hm] at h; simp at h
      | some elems =>
        have hg : ∀ i, i < len → ∃ p, Q p ∧ ∃ cs : List Value, cs.length = P.cellsOf e ∧ ElemOK w p cs ∧ ∀ k u, cs[k]? = some u → w.cell? (a.add (i * P.cellsOf e + k)) = some u := by
          intro i hi
          obtain ⟨y, _, hy⟩ := mapM_get hm i i (by simp [hi])
          cases hc : w.cells? 0 (a.add (i * P.cellsOf e)) (P.cellsOf e) with
          | none => rw [hc] at hy; simp at hy
          | some cs =>
            rw [hc] at hy
            obtain ⟨p, h3, h4⟩ := he cs y (by simpa using hy)
            obtain ⟨h5, h6⟩ := cells_get hc
            exact ⟨p, h3, cs, h5, h4, fun k u hk => by have := h6 k u hk; rwa [add_add'] at this⟩
        have build : ∀ n, n ≤ len → ∃ xs : List PV, xs.length = n ∧ ∀ (i : Nat) p, xs[i]? = some p → Q p ∧ ∃ cs : List Value, cs.length = P.cellsOf e ∧ ElemOK w p cs ∧ ∀ k u, cs[k]? = some u → w.cell? (a.add (i * P.cellsOf e + k)) = some u := by
          intro n
          induction n with
          | zero => exact fun _ => ⟨[], rfl, fun i p hp => by simp at hp⟩
          | succ n ih =>
            intro hn
            obtain ⟨xs, hl, hx⟩ := ih (by omega)
            obtain ⟨p, hq, hp⟩ := hg n (by omega)
            refine ⟨xs ++ [p], by simp [hl], fun i q hi => ?_⟩
            rcases Nat.lt_or_ge i xs.length with hlt | hge
            · rw [List.getElem?_append_left hlt] at hi; exact hx i q hi
            · rw [List.getElem?_append_right hge] at hi
              have : i = n := by
                have := (List.getElem?_eq_some_iff.1 hi).1
                simp at this; omega
              subst this
              simp [hl] at hi
              subst hi
              exact ⟨hq, hp⟩
        obtain ⟨xs, hl, hx⟩ := build len (Nat.le_refl _)
        refine ⟨xs, fun p hp => ?_, ?_, rfl⟩
        · obtain ⟨i, hi⟩ := List.getElem?_of_mem hp
          exact (hx i p hi).1
        · simp only [PR]
          refine ⟨some a, cap, by rw [hl], by rw [hl]; exact h1, h2, ER_mk fun j p hp => ?_⟩
          obtain ⟨_, cs, h3, h4, h5⟩ := hx j p hp
          exact ⟨cs, h3, hsz, h4, fun k u hk => by rw [Nat.zero_add]; exact h5 k u hk⟩
    · simp at h
  all_goals simp_all
end
end Go.AM

namespace Go.AM
open Go.ChangeShapes Go.WideShapes Go.ChangeAt Go.RowKit
section
variable {H : Type} {enc : TypeId × Value → H} {P : Program} {w : World} {held : Bool} {spare : Nat → Bool}
theorem trod_int1 {t : TypeId} {k : IntKind} (hu : P.underlying t = some (.int k)) {fuel : Nat} {c : Value} {x : DataW H × List MemPlace} (h : DataW.trod enc P w 0 spare held fuel t [c] = some x) : ∃ n, c = .int k n ∧ (Lit.int k n).wf = true := by
  cases fuel with
  | zero => simp [DataW.trod] at h
  | succ fuel =>
    unfold DataW.trod at h
    rw [hu] at h
    simp only at h
    split at h <;> try (rename_i h1 h2; simp at h1)
    all_goals simp_all
theorem trod_str1 {t : TypeId} (hu : P.underlying t = some .string) {fuel : Nat} {c : Value} {x : DataW H × List MemPlace} (h : DataW.trod enc P w 0 spare held fuel t [c] = some x) : ∃ s, c = .string s ∧ s.size ≤ maxLen := by
  cases fuel with
  | zero => simp [DataW.trod] at h
  | succ fuel =>
    unfold DataW.trod at h
    rw [hu] at h
    simp only at h
    split at h <;> try (rename_i h1 h2; simp at h1)
    all_goals simp_all
theorem trod_bool1 {t : TypeId} (hu : P.underlying t = some .bool) {fuel : Nat} {c : Value} {x : DataW H × List MemPlace} (h : DataW.trod enc P w 0 spare held fuel t [c] = some x) : ∃ b, c = .bool b := by
  cases fuel with
  | zero => simp [DataW.trod] at h
  | succ fuel =>
    unfold DataW.trod at h
    rw [hu] at h
    simp only at h
    split at h <;> try (rename_i h1 h2; simp at h1)
    all_goals simp_all
end
end Go.AM

namespace Go.AM
open Go.ChangeShapes Go.WideShapes Go.ChangeAt Go.RowKit

section
variable {H : Type} {enc : TypeId × Value → H} {P : Program} {w : World}

/-- A struct that came in whole. -/
theorem elem_agg {qs : List PV} {u : Value} (h : ElemOK w (.agg qs) u.cells.toList) (hu : ∃ cs, u = .agg cs) : PR w NoX (.agg qs) u := by
  obtain ⟨v, hp, hc, _⟩ := h
  obtain ⟨cs, rfl⟩ := hu
  have : ∃ vs : List Value, v = .agg vs.toArray := by simp only [PR] at hp; obtain ⟨vs, rfl, _⟩ := hp; exact ⟨vs, rfl⟩
  obtain ⟨vs, rfl⟩ := this
  simp only [Value.cells] at hc
  have : vs.toArray = cs := by apply Array.toList_inj.1; simpa using hc
  rw [← this]; exact hp

/-- Arguments stand as they stood. -/
theorem trodAll_below {W W' : World} (hl : laidOutB P = true) (hb : Below W.heap.size W W') : ∀ {ts : List TypeId} {us : List Value} {ds : List (DataW H)} {p : List MemPlace},
    (ts.all fun t => P.readableRec t && decide (t < P.types.size)) = true → DataW.TrodAll enc P W 0 (fun _ => true) true ts us ds p → (∀ x ∈ p, x.block < W.heap.size) →
    DataW.TrodAll enc P W' 0 (fun b => decide (b < W.heap.size)) true ts us ds p
  | [], us, ds, p, _, h, _ => by
    obtain ⟨rfl, rfl, rfl⟩ := trodAll_nil h
    exact trodAll_mk0
  | t :: ts, us, ds, p, hr, h, hlt => by
    obtain ⟨v, vs, d, ds', p1, q1, rfl, rfl, rfl, h0, h1⟩ := trodAll_cons h
    simp only [List.all_cons, Bool.and_eq_true, decide_eq_true_eq] at hr
    exact ⟨p1, q1, Below.trod hl hr.1.1 hr.1.2 h0 hb (fun x hx => hlt x (by simp [hx])), trodAll_below hl hb (by simpa using hr.2) h1 (fun x hx => hlt x (by simp [hx])), rfl⟩

/-- A law's call: true, and the arguments stand as they stood. -/
theorem law_calls {f : FuncId} {W : World} {ts : List TypeId} {args : Array Value} {ds : List (DataW H)} {p : List MemPlace} (hl : laidOutB P = true) (hr : (ts.all fun t => P.readableRec t && decide (t < P.types.size)) = true)
    (hA : DataW.TrodAll enc P W 0 (fun _ => true) true ts args.toList ds p) (hlt : ∀ x ∈ p, x.block < W.heap.size) (hL : Laid W) (h : ∃ ps, TR W NoX ps args.toList ∧ Det P f ps (.bool true)) :
    Calls P f args W fun e W' => e = .returned (.bool true) ∧ Below W.heap.size W W' ∧ DataW.TrodAll enc P W' 0 (fun b => decide (b < W.heap.size)) true ts args.toList ds p := by
  obtain ⟨ps, hT, hD⟩ := h
  refine (show Calls P f args.toList.toArray W _ from hD.calls W NoX args.toList (fun b hb => hb.elim) hL hT).mono fun e W' ⟨r, he, hr', hg⟩ => ?_
  simp only [PR] at hr'
  subst hr'
  exact ⟨he, hg.below, trodAll_below hl hg.below hr hA hlt⟩

theorem TR_cons {p : PV} {ps : List PV} {u : Value} {us : List Value} (h : PR w NoX p u) (k : TR w NoX ps us) : TR w NoX (p :: ps) (u :: us) := by simp only [TR]; exact ⟨u, us, rfl, h, k⟩
theorem TR_nil : TR w NoX [] [] := by simp [TR]
end
end Go.AM

namespace Go.AM

/-! ### A slice that is appended to from nil on: its slot, its block -/
def lsV (k : Nat) : List PV → AV
  | [] => .pv .nils
  | _ :: xs => .row k (Nat.succ xs.length)
def lsB (t sz : Nat) : List PV → AB
  | [] => .dead
  | x :: xs => .row t sz (pvs (x :: xs))
theorem lsV_cons (k : Nat) (x : PV) (xs : List PV) : lsV k (x :: xs) = .row k (xs.length + 1) := rfl
theorem pvs_map (l : List PV) : pvs l = l.map .pv := by induction l <;> simp_all [pvs]
theorem lenL_pvs (l : List PV) : lenL (pvs l) = l.length := by rw [lenL_eq, pvs_len]
/-- One more. -/
theorem app_one (x : PV) (xs : List PV) (y : PV) : appL (xs.length + 1) (pvs (x :: xs)) 1 [.pv y] = pvs (x :: (xs ++ [y])) := by
  simp only [appL, pvs_map, List.map_cons, List.take_succ_cons, List.map_append, List.map_nil, List.cons_append, List.take_nil]
  congr 2
  rw [List.take_of_length_le (by simp)]
theorem lsB_snoc (t sz : Nat) (x : PV) (xs : List PV) (y : PV) : lsB t sz ((x :: xs) ++ [y]) = .row t sz (appL (xs.length + 1) (pvs (x :: xs)) 1 [.pv y]) := by rw [app_one]; rfl
theorem lsB_one (t sz : Nat) (y : PV) : lsB t sz ([] ++ [y]) = .row t sz (appL 0 [] 1 [.pv y]) := rfl
theorem lsV_snoc (k : Nat) (x : PV) (xs : List PV) (y : PV) : lsV k ((x :: xs) ++ [y]) = .row k (xs.length + 1 + 1) := by simp [lsV]
theorem lsV_one (k : Nat) (y : PV) : lsV k ([] ++ [y]) = .row k 1 := rfl
/-- What was appended, read off. -/
theorem rd_ls {S : Nat → Prop} {H : Heap} {k t sz : Nat} {l : List PV} {v : AV} (hv : v = lsV k l) (hs : S k) (hk : hget H k = lsB t sz l) : Rd S H v (.lst sz l) := by
  subst hv
  cases l with
  | nil => exact .le (.nils sz)
  | cons x xs =>
    have := Rd.row (S := S) (n := xs.length + 1) (ps := x :: xs) hs hk (by simp [pvs_len]) (RdL_pvs _)
    rwa [List.take_of_length_le (by simp)] at this
theorem sLs {ρ : Nat → Nat} {k0 k : Nat} {ps : List PV} (h : ρ k0 = k) : some (lsV k ps) = some (renA ρ (lsV k0 ps)) := by
  subst h
  cases ps <;> rfl
theorem renB_lsB (ρ : Nat → Nat) (t sz : Nat) (l : List PV) : renB ρ (lsB t sz l) = lsB t sz l := by
  cases l with
  | nil => rfl
  | cons x xs => simp only [lsB, renB, renL_pvs]
theorem rd_lsE {S : Nat → Prop} {H : Heap} {k t sz : Nat} {l l' : List PV} {v : AV} (e : l = l') (hv : v = lsV k l) (hs : S k) (hk : hget H k = lsB t sz l) : Rd S H v (.lst sz l') := e ▸ rd_ls hv hs hk
theorem ple_nils {sz : Nat} {l : List PV} (e : [] = l) : PLe .nils (.lst sz l) := e ▸ .nils sz
/-- A whole row of pure elements, read off. -/
theorem rd_row {S : Nat → Prop} {H : Heap} {id n t sz : Nat} {ps : List PV} (hs : S id) (hk : hget H id = .row t sz (pvs ps)) (hn : n = ps.length) : Rd S H (.row id n) (.lst sz ps) := by
  have := Rd.row (S := S) (n := n) (ps := ps) hs hk (by rw [pvs_len]; omega) (RdL_pvs _)
  rwa [List.take_of_length_le (by omega)] at this
/-- A loop from a state that tells more. -/
theorem vloop_shift {m : Nat} {body : (Ex → Post) → Post} {K : Ex → Post} {fr fr' : Fr} {H H' : Heap} (h : vloop m body K fr' H') (w : Weak m fr H fr' H') : vloop m body K fr H := by
  obtain ⟨σ, I, S, μ, x0, i0, h0, hb⟩ := h
  exact ⟨σ, I, S, μ, x0, i0, w.trans h0, hb⟩
/-- A loop that several ways come to is proved once. -/
theorem vloop_cut {α : Type} {m : Nat} {body : (Ex → Post) → Post} {K : Ex → Post} {P : Prop} (Inv : α → Prop) (fr : α → Fr) (H : α → Heap) (k : (∀ a, Inv a → vloop m body K (fr a) (H a)) → P) (h : ∀ a, Inv a → vloop m body K (fr a) (H a)) : P := k h
theorem blk {ρ : Nat → Nat} {H : Heap} {k : Nat} {b : AB} {l : Heap} (h : renB ρ b = hget H (ρ k)) (hl : BlkR ρ H (k + 1) l) : BlkR ρ H k (b :: l) := by
  refine ⟨?_, hl⟩
  cases b <;> first | trivial | exact h
theorem blkD {ρ : Nat → Nat} {H : Heap} {k : Nat} {l : Heap} (hl : BlkR ρ H (k + 1) l) : BlkR ρ H k (.dead :: l) := ⟨trivial, hl⟩
/-- The appended row, under its new number. -/
theorem blkR_snoc {ρ : Nat → Nat} {H : Heap} {k t sz : Nat} {x : PV} {xs : List PV} {y : PV} {l : Heap} (h : hget H (ρ k) = .row t sz (appL (xs.length + 1) (pvs (x :: xs)) 1 [.pv y])) (hl : BlkR ρ H (k + 1) l) : BlkR ρ H k (lsB t sz ((x :: xs) ++ [y]) :: l) := by
  refine ⟨?_, hl⟩
  have e : lsB t sz ((x :: xs) ++ [y]) = .row t sz (pvs (x :: (xs ++ [y]))) := rfl
  rw [e]
  show renB ρ (.row t sz (pvs (x :: (xs ++ [y])))) = _
  rw [h, app_one]
  simp only [renB, renL_pvs]
/-- A row that stays. -/
theorem blkR_ls {ρ : Nat → Nat} {H : Heap} {k t sz : Nat} {xs : List PV} {l : Heap} (h : hget H (ρ k) = lsB t sz xs) (hl : BlkR ρ H (k + 1) l) : BlkR ρ H k (lsB t sz xs :: l) := by
  refine ⟨?_, hl⟩
  cases xs with
  | nil => exact trivial
  | cons x xs =>
    show renB ρ (.row t sz (pvs (x :: xs))) = _
    rw [h]
    simp only [renB, renL_pvs]; rfl
end Go.AM
