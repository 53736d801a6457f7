import Derived.Test.YtececigbpmaacaaGreatPkA
import Derived.Great.BuildSlice
import Derived.Laws.MakeOwn
import Derived.MapKept
import Derived.Laws.Strings
set_option linter.all false
namespace Go.AM
section
variable {P : Program} {te : TE} {w : World} {X : Nat → Prop} {ι : Io} {G : Own}

theorem alloc_heap (w : World) (o : Obj) : (w.alloc o).heap[w.heap.size]? = some o := by
  show (w.heap.push o)[w.heap.size]? = some o
  simp
theorem alloc_old (w : World) (o : Obj) (b : Nat) (h : b < w.heap.size) : (w.alloc o).heap[b]? = w.heap[b]? := by
  show (w.heap.push o)[b]? = w.heap[b]?
  simp [Array.getElem?_push, Nat.ne_of_lt h]

/-- A new box. -/
theorem OpOut.box {o : Oper} {a : Act} {t nid : Nat} {cs : List AV} {vs : List Value} (hC : Conc w X ι G) (hn : (G nid).isNone = true) (hcs : CV w X ι G cs vs)
    (hr : (execOp a.eval o).run P w = .ok (.value (.pointer (some ⟨w.heap.size, 0, none⟩))) (w.alloc (.cells vs.toArray t))) :
    OpOut P o a w X ι G (.bp nid 0) [(nid, .box t cs)] := by
  have hg := gr_new (w := w) (w' := w.alloc (.cells vs.toArray t)) (ι := ι) (cap := 0) (ab := .box t cs) hn (by simp) rfl rfl rfl (fun b hb => alloc_old w _ b hb)
  refine ⟨_, _, _, ioset ι nid (w.heap.size, 0), hr, .inl rfl, ?_, conc_new hC hn (by simp) rfl rfl rfl (fun b hb => alloc_old w _ b hb) ?_, hg⟩
  · simp only [VR, gupd, gset_self]
    exact ⟨rfl, fun _ => by simp [ioset, bval], rfl⟩
  · refine ⟨⟨vs, ?_, CV.next (hg.next X) cs vs hcs⟩, by simp [ioset]⟩
    simp only [ioset, if_true]; exact alloc_heap w _

/-- A new row. -/
theorem OpOut.row {o : Oper} {a : Act} {e nid n cap sz : Nat} {xs : List AV} {cells : Array Value} (hC : Conc w X ι G) (hn : (G nid).isNone = true) (hev : EV w X ι G cells sz xs)
    (hs : cells.size = cap * sz) (hl : xs.length ≤ cap) (hm : cap ≤ maxLen) (hnx : n = xs.length)
    (hr : (execOp a.eval o).run P w = .ok (.value (.slice (some ⟨w.heap.size, 0, none⟩) n cap)) (w.alloc (.cells cells e))) :
    OpOut P o a w X ι G (.row nid n) [(nid, .row e sz xs)] := by
  have hg := gr_new (w := w) (w' := w.alloc (.cells cells e)) (ι := ι) (cap := cap) (ab := .row e sz xs) hn (by simp) rfl rfl rfl (fun b hb => alloc_old w _ b hb)
  refine ⟨_, _, _, ioset ι nid (w.heap.size, cap), hr, .inl rfl, ?_, conc_new hC hn (by simp) rfl rfl rfl (fun b hb => alloc_old w _ b hb) ?_, hg⟩
  · simp only [VR, gupd, gset_self]
    exact ⟨rfl, fun _ => by simp [ioset, hnx, hl], rfl⟩
  · refine ⟨cells, by simp only [ioset, if_true]; exact alloc_heap w _, by simp [ioset, hs], by simp [ioset, hl], by simp [ioset, hm], hev.next (hg.next X)⟩

theorem sound_alloc (hte : ∀ t, TDok P t (te t)) (hC : Conc w X ι G) {o : Oper} {a : Act} {t nid : Nat} (hn : (G nid).isNone = true) (ho : o.op = .alloc t) {K : DK}
    (h : (match (te t).ok with | true => K (.bp nid 0) [(nid, .box t (pvs (te t).zero))] | false => False)) : ∃ x u, K x u ∧ OpOut P o a w X ι G x u := by
  cases hok : (te t).ok <;> simp only [hok] at h
  obtain ⟨i, z, hi, hsz, hby, hz, hzr⟩ := (hte t).info hok
  refine ⟨_, _, h, OpOut.box hC hn (CR_CV.1 (hzr.cells w (off X ι G))) ?_⟩
  simp [execOp, ho, Instr.alloc, zeroValue, typeInfo, hi, hz, newVar, newRow]

theorem sound_box (hC : Conc w X ι G) {o : Oper} {a : Act} {t nid : Nat} {ax : Operand} (hn : (G nid).isNone = true) (ho : o.op = .box t ax) {x : AV} (hx : VR w X ι G x (a.eval ax)) {K : DK}
    (h : withCells x fun cv => K (.bp nid 0) [(nid, .box t cv)]) : ∃ x u, K x u ∧ OpOut P o a w X ι G x u := by
  obtain ⟨hB, h⟩ := withCells_B h
  refine ⟨_, _, h, OpOut.box hC hn (cells_of hB hx) ?_⟩
  simp [execOp, ho, Instr.box, newVar, newRow]

theorem splice_eq {α : Type} : ∀ (cs : List α) (n : Nat) (vs : List α), n + vs.length ≤ cs.length → splice cs n vs = cs.take n ++ vs ++ cs.drop (n + vs.length)
  | cs, 0, [], _ => by simp [splice]
  | c :: cs, 0, v :: vs, h => by
    have := splice_eq cs 0 vs (by simpa using h)
    simp only [splice, this]
    simp
  | [], 0, v :: vs, h => by simp at h
  | c :: cs, n + 1, vs, h => by
    have := splice_eq cs n vs (by simp at h; omega)
    simp only [splice, this, List.take_succ_cons, List.cons_append, List.cons.injEq, true_and]
    rw [show n + 1 + vs.length = (n + vs.length) + 1 by omega, List.drop_succ_cons]
  | [], n + 1, vs, h => by simp at h

/-- Cells stored over others. -/
theorem CV_splice {cs cx : List AV} {vs us : List Value} (h : CV w X ι G cs vs) (k : CV w X ι G cx us) {n : Nat} (hn : n + cx.length ≤ cs.length) : CV w X ι G (splice cs n cx) (vs.take n ++ us ++ vs.drop (n + us.length)) := by
  rw [splice_eq cs n cx hn, CV_len k]
  exact CV_append (CV_append (CV_take n h) k) (CV_drop _ h)

/-- A store in a block of one's own. -/
theorem run_storeVar' {t : TypeId} {inf : TypeInfo} (hi : P.info? t = some inf) {b o bt : Nat} {cells : Array Value} {v : Value} (hb : w.heap[b]? = some (.cells cells bt (0, 0))) (hsz : v.cells.size = inf.size)
    (hfit : o + v.cells.size ≤ cells.size) (h1 : ∀ u ∈ v.cells.toList, u.oneCell' = true) :
    ∃ w', (storeVar t ⟨b, o, none⟩ v).run P w = .ok () w' ∧ w'.heap.size = w.heap.size ∧ w'.os = w.os ∧ w'.tape = w.tape ∧ w'.output = w.output ∧ (∀ k, k ≠ b → w'.heap[k]? = w.heap[k]?) ∧
      w'.heap[b]? = some (.cells (cells.toList.take o ++ v.cells.toList ++ cells.toList.drop (o + v.cells.toList.length)).toArray bt (0, 0)) := by
  have hst := run_storeCells_at P b o bt v.cells.toList 0 cells w hb (by simpa using hfit) h1
  simp only [Nat.add_zero] at hst
  refine ⟨w.setRow b (cells.toList.take o ++ v.cells.toList ++ cells.toList.drop (o + v.cells.toList.length)).toArray, ?_, setRow_size _ _ _, rfl, rfl, rfl, fun k hk => setRow_other w b k _ hk, setRow_heap w b cells _ bt (0, 0) hb⟩
  simp only [storeVar, sizeOf, typeInfo, Sem.run_bind]
  simp only [run_program, hi, Result.andThen_ok, Sem.run_pure, hsz]
  simpa using hst

theorem sound_store (hte : ∀ t, TDok P t (te t)) (hC : Conc w X ι G) {H : Heap} {o : Oper} {a : Act} {t : TypeId} {aa ax : Operand} (ho : o.op = .store t aa ax) {av x : AV} (hA : Agree H G av)
    (hv : VR w X ι G av (a.eval aa)) (hx : VR w X ι G x (a.eval ax)) {K : DK} (h : dStore te H t av x K) : ∃ x u, K x u ∧ OpOut P o a w X ι G x u := by
  unfold dStore at h
  obtain ⟨hB, h⟩ := withCells_B h
  have hcx := cells_of hB hx
  have h1 := CV_one hcx
  have hlx := CV_len hcx
  have fin : ∀ {b oo : Nat} {w' : World} {ι' : Io} {u : Upd}, a.eval aa = .pointer (some ⟨b, oo, none⟩) → (storeVar t ⟨b, oo, none⟩ (a.eval ax)).run P w = .ok () w' →
      Conc w' X ι' (gupd G u) → Gr w ι G w' ι' (gupd G u) → OpOut P o a w X ι G NV u := by
    intro b oo w' ι' u he hr hC' hG'
    refine ⟨.skip, undef, w', ι', ?_, .inr ⟨rfl, rfl⟩, ?_, hC', hG'⟩
    · simp [execOp, ho, Instr.storeAt, he, Instr.sureAddr, hr]
    · simp [NV, VR, PR, TR, undef]
  cases av with
  | bp id off =>
    have hid := hA id (by simp [idsA])
    simp only [VR] at hv
    cases hb : hget H id <;> simp only [hb] at h
    rename_i bt cs
    rw [hb] at hid
    have he := hv.2.1 (by rw [hid]; rfl)
    have hbr := hC.br id
    rw [hid] at hbr
    obtain ⟨⟨vs, hh, hcv⟩, h0⟩ := hbr
    rw [bval_box h0] at he
    cases hz : Nat.beq (lenL (cellsA x)) (te t).sz <;> cases hf : Nat.ble (off + (te t).sz) (lenL cs) <;> cases hok : (te t).ok <;> simp only [hz, hf, hok] at h
    have hz := Nat.eq_of_beq_eq_true hz
    have hf := Nat.le_of_ble_eq_true hf
    rw [lenL_eq] at hz hf
    obtain ⟨inf, z, hi, hsz, _⟩ := (hte t).info hok
    have hlv := CV_len hcv
    have hxs : (a.eval ax).cells.size = (te t).sz := by rw [← hz, ← hlx]; simp
    obtain ⟨w', hr, hws, hos, htp, hop, hoth, hnew⟩ := run_storeVar' (w := w) (t := t) hi (b := (ι id).1) (o := off) (v := a.eval ax) hh (by rw [hsz]; exact hxs) (by rw [hxs]; simp; omega) h1
    refine ⟨_, _, h, fin he hr (conc_write hC (by rw [hid]; rfl) rfl (fun _ => by rw [hid]; rfl) (fun h => by cases h) (by omega) hos htp hop (fun b _ hne => hoth b hne) ?_) (gr_write (by rw [hid]; rfl) rfl (fun _ => by rw [hid]; rfl) (fun h => by cases h) (by omega) hos htp hop (fun b _ hne => hoth b hne))⟩
    have hg : Gr w ι G w' ι (gset G id (.box bt (splice cs off (cellsA x)))) := gr_write (by rw [hid]; rfl) rfl (fun _ => by rw [hid]; rfl) (fun h => by cases h) (by omega) hos htp hop (fun b _ hne => hoth b hne)
    exact ⟨⟨_, hnew, CV.next (hg.next X) _ _ (by simpa using CV_splice hcv hcx (n := off) (by rw [hz]; exact hf))⟩, h0⟩
  | rp id i off =>
    have hid := hA id (by simp [idsA])
    simp only [VR] at hv
    cases hb : hget H id <;> simp only [hb] at h
    rename_i bt sz xs
    rw [hb] at hid
    have he := hv.2.1 (by rw [hid]; rfl)
    have hbr := hC.br id
    rw [hid] at hbr he
    obtain ⟨cells, hh, hcsz, hle, hm, hev⟩ := hbr
    obtain ⟨y, hy, hok, h⟩ := h
    obtain ⟨v, hvy, hvs, hvc⟩ := hev i y hy
    have hilt : i < xs.length := (List.getElem?_eq_some_iff.1 hy).1
    obtain ⟨inf, z, hi, hsz, _⟩ := (hte t).info hok
    simp only [AB.sz] at he
    have hroom : i * sz + sz ≤ cells.size := by
      rw [hcsz]
      have : (i + 1) * sz ≤ (ι id).2 * sz := Nat.mul_le_mul_right _ (by omega)
      rw [Nat.add_mul, Nat.one_mul] at this
      exact this
    -- the new cells, element by element
    have key : ∀ (off' : Nat) (y' : AV) (v' : Value), VR w X ι G y' v' → v'.cells.size = sz → (∀ u ∈ v'.cells.toList, u.oneCell' = true) → off' + (a.eval ax).cells.size ≤ sz →
        v'.cells.toList = v.cells.toList.take off' ++ (a.eval ax).cells.toList ++ v.cells.toList.drop (off' + (a.eval ax).cells.toList.length) →
        EV w X ι G (cells.toList.take (i * sz + off') ++ (a.eval ax).cells.toList ++ cells.toList.drop (i * sz + off' + (a.eval ax).cells.toList.length)).toArray sz (xs.set i y') := by
      intro off' y' v' hv' hs' h1' hle' hcells k z hz
      have hlen : (cells.toList.take (i * sz + off')).length = i * sz + off' := by simp; omega
      have hget : ∀ q, (cells.toList.take (i * sz + off') ++ (a.eval ax).cells.toList ++ cells.toList.drop (i * sz + off' + (a.eval ax).cells.toList.length)).toArray[q]? =
          if q < i * sz + off' then cells[q]? else if q < i * sz + off' + (a.eval ax).cells.size then (a.eval ax).cells[q - (i * sz + off')]? else cells[q]? := by
        intro q
        simp only [List.getElem?_toArray]
        rw [List.append_assoc]
        by_cases hq : q < i * sz + off'
        · rw [if_pos hq, List.getElem?_append_left (by omega), List.getElem?_take, if_pos hq]; simp
        · rw [if_neg hq, List.getElem?_append_right (by omega), hlen]
          by_cases hq2 : q < i * sz + off' + (a.eval ax).cells.size
          · rw [if_pos hq2, List.getElem?_append_left (by simp; omega)]; simp
          · rw [if_neg hq2, List.getElem?_append_right (by simp; omega), List.getElem?_drop]
            simp only [Array.length_toList, Array.getElem?_toList]
            congr 1
            omega
      by_cases hk : k = i
      · subst hk
        rw [List.getElem?_set_self hilt] at hz
        injection hz with hz
        subst hz
        refine ⟨v', hv', hs', fun j u hj => ⟨?_, h1' u (Array.mem_toList_iff.2 (Array.mem_of_getElem? hj))⟩⟩
        have hjs : j < sz := by rw [← hs']; exact (Array.getElem?_eq_some_iff.1 hj).1
        have hj' : v'.cells.toList[j]? = some u := by simpa using hj
        rw [hcells, List.append_assoc] at hj'
        have hlen2 : (v.cells.toList.take off').length = off' := by simp; omega
        rw [hget]
        by_cases c1 : j < off'
        · rw [if_pos (by omega)]
          rw [List.getElem?_append_left (by omega), List.getElem?_take, if_pos c1] at hj'
          exact (hvc j u (by simpa using hj')).1
        · rw [if_neg (by omega)]
          rw [List.getElem?_append_right (by omega), hlen2] at hj'
          by_cases c2 : j < off' + (a.eval ax).cells.size
          · rw [if_pos (by omega)]
            rw [List.getElem?_append_left (by simp; omega)] at hj'
            rw [show k * sz + j - (k * sz + off') = j - off' by omega]
            simpa using hj'
          · rw [if_neg (by omega)]
            rw [List.getElem?_append_right (by simp; omega), List.getElem?_drop] at hj'
            refine (hvc j u ?_).1
            simp only [Array.length_toList, Array.getElem?_toList] at hj'
            rw [show off' + (a.eval ax).cells.size + (j - off' - (a.eval ax).cells.size) = j by omega] at hj'
            exact hj'
      · rw [List.getElem?_set_ne (fun e => hk e.symm)] at hz
        obtain ⟨v2, h2, h2s, h2c⟩ := hev k z hz
        refine ⟨v2, h2, h2s, fun j u hj => ⟨?_, (h2c j u hj).2⟩⟩
        have hjs : j < sz := by rw [← h2s]; exact (Array.getElem?_eq_some_iff.1 hj).1
        rw [hget]
        have hne : k * sz + j < i * sz + off' ∨ i * sz + off' + (a.eval ax).cells.size ≤ k * sz + j := by
          rcases Nat.lt_or_gt_of_ne hk with hlt | hgt
          · left
            have : (k + 1) * sz ≤ i * sz := Nat.mul_le_mul_right _ hlt
            rw [Nat.add_mul, Nat.one_mul] at this
            omega
          · right
            have : (i + 1) * sz ≤ k * sz := Nat.mul_le_mul_right _ hgt
            rw [Nat.add_mul, Nat.one_mul] at this
            omega
        rcases hne with hlt | hge
        · rw [if_pos hlt]; exact (h2c j u hj).1
        · rw [if_neg (by omega), if_neg (by omega)]; exact (h2c j u hj).1
    have close : ∀ (y' : AV) (v' : Value), VR w X ι G y' v' → v'.cells.size = sz → (∀ u ∈ v'.cells.toList, u.oneCell' = true) → (lenL (cellsA x) = (te t).sz) → off + (a.eval ax).cells.size ≤ sz →
        v'.cells.toList = v.cells.toList.take off ++ (a.eval ax).cells.toList ++ v.cells.toList.drop (off + (a.eval ax).cells.toList.length) → OpOut P o a w X ι G NV [(id, .row bt sz (xs.set i y'))] := by
      intro y' v' hv' hs' h1' hz hle' hcells
      rw [lenL_eq] at hz
      have hxs : (a.eval ax).cells.size = (te t).sz := by rw [← hz, ← hlx]; simp
      obtain ⟨w', hr, hws, hos, htp, hop, hoth, hnew⟩ := run_storeVar' (w := w) (t := t) hi (b := (ι id).1) (o := i * sz + off) (v := a.eval ax) hh (by rw [hsz]; exact hxs) (by omega) h1
      have hg : Gr w ι G w' ι (gset G id (.row bt sz (xs.set i y'))) := gr_write (by rw [hid]; rfl) rfl (fun h => by cases h) (fun _ => by rw [hid]; exact ⟨rfl, rfl⟩) (by omega) hos htp hop (fun b _ hne => hoth b hne)
      refine fin (u := [(id, .row bt sz (xs.set i y'))]) he hr (conc_write hC (by rw [hid]; rfl) rfl (fun h => by cases h) (fun _ => by rw [hid]; exact ⟨rfl, rfl⟩) (by omega) hos htp hop (fun b _ hne => hoth b hne) ?_) hg
      refine ⟨_, hnew, ?_, by simpa using hle, hm, (key off y' v' hv' hs' h1' hle' hcells).next (hg.next X)⟩
      simp only [List.size_toArray, List.length_append, List.length_take, List.length_drop, Array.length_toList]
      omega
    have c2 : off + (te t).sz ≤ lenL (cellsA y) ∨ (off = 0 ∧ (te t).sz = sz) → True := fun _ => trivial
    cases hz : Nat.beq (lenL (cellsA x)) (te t).sz with
    | false => rw [hz] at h; exact h.elim
    | true =>
      have hz' := Nat.eq_of_beq_eq_true hz
      have hxs : (a.eval ax).cells.size = (te t).sz := by rw [← hz', lenL_eq, ← hlx]; simp
      have whole : (te t).sz = sz → off = 0 → OpOut P o a w X ι G NV [(id, .row bt sz (xs.set i x))] := fun e1 e2 => by
        refine close x (a.eval ax) hx (by omega) h1 hz' (by omega) ?_
        subst e2
        simp
        omega
      have some_ : withCellsB y = true → off + (te t).sz ≤ lenL (cellsA y) → OpOut P o a w X ι G NV [(id, .row bt sz (xs.set i (mkAgg (splice (cellsA y) off (cellsA x)))))] := fun hBy hf => by
        have hcy := cells_of hBy hvy
        have hly := CV_len hcy
        rw [lenL_eq] at hf
        have hsp := CV_splice hcy hcx (n := off) (by rw [← lenL_eq (cellsA x), hz']; exact hf)
        have hlen : (v.cells.toList.take off ++ (a.eval ax).cells.toList ++ v.cells.toList.drop (off + (a.eval ax).cells.toList.length)).length = sz := by
          simp only [List.length_append, List.length_take, List.length_drop, Array.length_toList] at hly ⊢
          omega
        refine close _ (.agg (v.cells.toList.take off ++ (a.eval ax).cells.toList ++ v.cells.toList.drop (off + (a.eval ax).cells.toList.length)).toArray) (VR_agg hsp) (by simp only [Value.cells, List.size_toArray]; exact hlen) (by simpa [Value.cells] using CV_one hsp) hz' ?_ (by simp [Value.cells])
        simp only [Array.length_toList] at hly
        omega
      rw [hz] at h
      cases h2 : Nat.beq (te t).sz sz <;> cases h3 : Nat.beq off 0 <;> simp only [h2, h3] at h
      · obtain ⟨hBy, h⟩ := withCells_B h
        cases hf : Nat.ble (off + (te t).sz) (lenL (cellsA y)) <;> simp only [hf] at h
        exact ⟨_, _, h, some_ hBy (Nat.le_of_ble_eq_true hf)⟩
      · obtain ⟨hBy, h⟩ := withCells_B h
        cases hf : Nat.ble (off + (te t).sz) (lenL (cellsA y)) <;> simp only [hf] at h
        exact ⟨_, _, h, some_ hBy (Nat.le_of_ble_eq_true hf)⟩
      · obtain ⟨hBy, h⟩ := withCells_B h
        cases hf : Nat.ble (off + (te t).sz) (lenL (cellsA y)) <;> simp only [hf] at h
        exact ⟨_, _, h, some_ hBy (Nat.le_of_ble_eq_true hf)⟩
      · exact ⟨_, _, h, whole (Nat.eq_of_beq_eq_true h2) (Nat.eq_of_beq_eq_true h3)⟩
  | _ => exact h.elim
end
end Go.AM

namespace Go.AM
section
variable {P : Program} {te : TE} {w : World} {X : Nat → Prop} {ι : Io} {G : Own}

theorem pvs_get : ∀ (l : List PV) (i : Nat), (pvs l)[i]? = (l[i]?).map AV.pv
  | [], i => by simp [pvs]
  | p :: l, 0 => by simp [pvs]
  | p :: l, i + 1 => by simp [pvs, pvs_get l i]
theorem pvs_len : ∀ (l : List PV), (pvs l).length = l.length
  | [] => rfl
  | p :: l => by simp [pvs, pvs_len l]

/-- One value for each place. -/
theorem choose_list {α : Type} {Q : Nat → α → Value → Prop} : ∀ (k : Nat) (ys : List α), k ≤ ys.length → (∀ i y, i < k → ys[i]? = some y → ∃ u, Q i y u) →
    ∃ us : List Value, us.length = k ∧ ∀ i u, us[i]? = some u → ∃ y, ys[i]? = some y ∧ Q i y u
  | 0, ys, _, _ => ⟨[], rfl, fun i u h => by simp at h⟩
  | k + 1, ys, hk, h => by
    obtain ⟨us, hl, hu⟩ := choose_list k ys (by omega) (fun i y hi => h i y (by omega))
    have hlt : k < ys.length := by omega
    obtain ⟨u, hq⟩ := h k ys[k] (by omega) (List.getElem?_eq_getElem hlt)
    refine ⟨us ++ [u], by simp [hl], fun i v hv => ?_⟩
    by_cases hi : i < us.length
    · rw [List.getElem?_append_left hi] at hv; exact hu i v hv
    · rw [List.getElem?_append_right (by omega)] at hv
      have : i = k := by
        have := (List.getElem?_eq_some_iff.1 hv).1
        simp at this; omega
      subst this
      simp [hl] at hv
      subst hv
      exact ⟨_, List.getElem?_eq_getElem hlt, hq⟩

def flat : List Value → List Value
  | [] => []
  | u :: us => u.cells.toList ++ flat us
theorem flat_len {sz : Nat} : ∀ (us : List Value), (∀ u ∈ us, u.cells.size = sz) → (flat us).length = us.length * sz
  | [], _ => by simp [flat]
  | u :: us, h => by
    have := flat_len us (fun v hv => h v (by simp [hv]))
    simp [flat, this, h u (by simp), Nat.add_mul, Nat.add_comm]
theorem flat_get {sz : Nat} : ∀ (us : List Value), (∀ u ∈ us, u.cells.size = sz) → ∀ i j, j < sz → (flat us)[i * sz + j]? = (us[i]?).bind fun u => u.cells[j]?
  | [], _, i, j, _ => by simp [flat]
  | u :: us, h, 0, j, hj => by
    have hu := h u (by simp)
    simp only [flat, Nat.zero_mul, Nat.zero_add]
    rw [List.getElem?_append_left (by simp; omega)]
    simp
  | u :: us, h, i + 1, j, hj => by
    have hu := h u (by simp)
    have := flat_get us (fun v hv => h v (by simp [hv])) i j hj
    simp only [flat]
    rw [show (i + 1) * sz + j = sz + (i * sz + j) by rw [Nat.add_mul]; omega, List.getElem?_append_right (by simp; omega)]
    simp only [Array.length_toList, hu, Nat.add_sub_cancel_left, List.getElem?_cons_succ]
    exact this

/-- A slice that is read: k values, their cells. -/
def Src (w : World) (X : Nat → Prop) (ι : Io) (G : Own) (v : Value) (sz k : Nat) (ys : List AV) : Prop :=
  (k = 0 ∧ ∃ A c, v = .slice A 0 c) ∨
  ∃ ad c, v = .slice (some ad) k c ∧ ∃ us : List Value, us.length = k ∧ ∀ i u, us[i]? = some u → ∃ y, ys[i]? = some y ∧ VR w X ι G y u ∧ u.cells.size = sz ∧ ∀ j q, u.cells[j]? = some q → w.cell? (ad.add (i * sz + j)) = some q ∧ q.oneCell' = true

theorem src_lst {sz : Nat} {ys : List PV} {v : Value} {n c : Nat} {A : Option Addr} (he : v = .slice A n c) (hn : n ≤ ys.length) (hev : ER w (off X ι G) ys sz A 0) : Src w X ι G v sz n (pvs ys) := by
  rcases Nat.eq_zero_or_pos n with h0 | h0
  · subst h0; exact .inl ⟨rfl, A, c, he⟩
  · obtain ⟨ad, rfl⟩ : ∃ ad, A = some ad := by
      cases ys with
      | nil => simp at hn; omega
      | cons y ys => simp only [ER] at hev; obtain ⟨⟨ad, _, rfl, _⟩, _⟩ := hev; exact ⟨ad, rfl⟩
    refine .inr ⟨ad, c, he, ?_⟩
    refine choose_list (Q := fun i y u => VR w X ι G y u ∧ u.cells.size = sz ∧ ∀ j q, u.cells[j]? = some q → w.cell? (ad.add (i * sz + j)) = some q ∧ q.oneCell' = true) n (pvs ys) (by rw [pvs_len]; exact hn) fun i y _ hy => ?_
    rw [pvs_get] at hy
    obtain ⟨p, hp, rfl⟩ := Option.map_eq_some_iff.1 hy
    obtain ⟨ad', u, ha, _, _, hu, hus, huc⟩ := ER_get hev hp
    injection ha with ha
    subst ha
    exact ⟨u, by simp only [VR]; exact hu, hus, fun j q hq => by simpa using huc j q hq⟩

theorem appX_src {H : Heap} {x : AV} (hA : Agree H G x) (hC : Conc w X ι G) {v : Value} (hv : VR w X ι G x v) {sz : Nat} {K : Nat → List AV → Prop} (h : appX H sz x K) :
    ∃ k ys, K k ys ∧ Src w X ι G v sz k ys := by
  unfold appX at h
  cases x with
  | row id k =>
    have hid := hA id (by simp [idsA])
    simp only at h
    simp only [VR] at hv
    have hbr := hC.br id
    cases hb : hget H id <;> simp only [hb] at h
    · rename_i bt sz' ys
      rw [hb] at hid
      obtain ⟨he, hkc⟩ := hv.2.1 (by rw [hid]; rfl)
      rw [hid] at hbr
      obtain ⟨cells, hh, hcsz, hle, hm, hev⟩ := hbr
      cases hz : Nat.beq sz' sz <;> simp only [hz] at h
      obtain rfl := Nat.eq_of_beq_eq_true hz
      obtain ⟨hk, h⟩ := h
      refine ⟨k, ys, h, .inr ⟨_, _, he, ?_⟩⟩
      refine choose_list (Q := fun i y u => VR w X ι G y u ∧ u.cells.size = sz' ∧ ∀ j q, u.cells[j]? = some q → w.cell? ((⟨(ι id).1, 0, none⟩ : Addr).add (i * sz' + j)) = some q ∧ q.oneCell' = true) k ys hk fun i y _ hy => ?_
      obtain ⟨u, hu, hus, huc⟩ := hev i y hy
      exact ⟨u, hu, hus, fun j q hq => by rw [add_mk, cell_mk hh]; simpa using huc j q hq⟩
    · rename_i sz' ys
      rw [hb] at hid
      obtain ⟨he, hkc⟩ := hv.2.1 (by rw [hid]; rfl)
      rw [hid] at hbr
      simp only [BR, PR] at hbr
      obtain ⟨A, cap, hp, hle, hm, hev⟩ := hbr
      injection hp with hp1 hp2 hp3
      cases hz : Nat.beq sz' sz <;> simp only [hz] at h
      obtain rfl := Nat.eq_of_beq_eq_true hz
      obtain ⟨hk, h⟩ := h
      exact ⟨k, _, h, src_lst he hk (by rw [hp1]; exact hev)⟩
  | pv p =>
    cases p <;> simp only at h
    · rename_i sz' ys
      simp only [VR, PR] at hv
      obtain ⟨A, cap, he, hle, hm, hev⟩ := hv
      cases hz : Nat.beq sz' sz <;> simp only [hz] at h
      obtain rfl := Nat.eq_of_beq_eq_true hz
      exact ⟨_, _, h, src_lst he (Nat.le_refl _) hev⟩
    · simp only [VR, PR] at hv
      exact ⟨0, [], h, .inl ⟨rfl, _, _, hv⟩⟩
  | _ => exact h.elim

/-- A row's elements after an append. -/
theorem EV_append {xs ys : List AV} {cells : Array Value} {sz m k : Nat} {us : List Value} (hev : EV w X ι G cells sz xs) (hm : m ≤ xs.length)
    (hus : us.length = k) (hu : ∀ (i : Nat) (u : Value), us[i]? = some u → ∃ y, ys[i]? = some y ∧ VR w X ι G y u ∧ u.cells.size = sz ∧ ∀ (j : Nat) (q : Value), u.cells[j]? = some q → q.oneCell' = true)
    {cur : Array Value} (hcur : cur.toList.take ((m + k) * sz) = cells.toList.take (m * sz) ++ flat us) (hcs : m * sz ≤ cells.size) : EV w X ι G cur sz (appL m xs k ys) := by
  intro i x hx
  have hall : ∀ u ∈ us, u.cells.size = sz := fun u hm => by
    obtain ⟨i, hi⟩ := List.getElem?_of_mem hm
    obtain ⟨y, _, _, h, _⟩ := hu i u hi
    exact h
  unfold appL at hx
  have hlt : (xs.take m).length = m := by simp; omega
  have cell : ∀ q, q < (m + k) * sz → cur[q]? = (cells.toList.take (m * sz) ++ flat us)[q]? := fun q hq => by
    rw [← hcur, List.getElem?_take, if_pos hq]; simp
  have hl1 : (cells.toList.take (m * sz)).length = m * sz := by simp; omega
  by_cases hi : i < m
  · rw [List.getElem?_append_left (by omega), List.getElem?_take, if_pos hi] at hx
    obtain ⟨v, h1, h2, h3⟩ := hev i x hx
    refine ⟨v, h1, h2, fun j q hj => ⟨?_, (h3 j q hj).2⟩⟩
    have hjs : j < sz := by rw [← h2]; exact (Array.getElem?_eq_some_iff.1 hj).1
    have hq : i * sz + j < m * sz := by
      have : (i + 1) * sz ≤ m * sz := Nat.mul_le_mul_right _ hi
      rw [Nat.add_mul, Nat.one_mul] at this
      omega
    have hq2 : i * sz + j < (m + k) * sz := by rw [Nat.add_mul]; omega
    rw [cell _ hq2, List.getElem?_append_left (by omega), List.getElem?_take, if_pos hq]
    simpa using (h3 j q hj).1
  · rw [List.getElem?_append_right (by omega), hlt] at hx
    have hik : i - m < k := by
      have := (List.getElem?_eq_some_iff.1 hx).1
      simp at this; omega
    rw [List.getElem?_take, if_pos hik] at hx
    obtain ⟨y, hy, h1, h2, h3⟩ := hu (i - m) _ (List.getElem?_eq_getElem (by omega : i - m < us.length))
    rw [hx] at hy
    injection hy with hy
    subst hy
    refine ⟨_, h1, h2, fun j q hj => ⟨?_, h3 j q hj⟩⟩
    have hjs : j < sz := by rw [← h2]; exact (Array.getElem?_eq_some_iff.1 hj).1
    have e : i * sz + j = m * sz + ((i - m) * sz + j) := by
      have : i = m + (i - m) := by omega
      rw [show i * sz = m * sz + (i - m) * sz by rw [← Nat.add_mul, ← this]]
      omega
    have hq2 : i * sz + j < (m + k) * sz := by
      have : (i + 1) * sz ≤ (m + k) * sz := Nat.mul_le_mul_right _ (by omega)
      rw [Nat.add_mul, Nat.one_mul] at this
      omega
    rw [cell _ hq2, e, List.getElem?_append_right (by omega), hl1, Nat.add_sub_cancel_left, flat_get us hall _ _ hjs, List.getElem?_eq_getElem (by omega : i - m < us.length)]
    exact hj

/-- An append to a row of one's own: the old row is gone, the new one lies in the same block or in a new one. -/
theorem gr_append {w' : World} {id nid g cap e sz : Nat} {zs : List AV} (hl : (G id).live = true) (hn : (G nid).isNone = true)
    (hs : w.heap.size ≤ w'.heap.size) (ho : w'.os = w.os) (ht : w'.tape = w.tape) (hp : w'.output = w.output) (hold : ∀ b, b < w.heap.size → b ≠ (ι id).1 → w'.heap[b]? = w.heap[b]?)
    (hg : g = (ι id).1 ∨ g = w.heap.size) : Gr w ι G w' (ioset ι nid (g, cap)) (gset (gset G id .dead) nid (.row e sz zs)) where
  size := hs
  os := ho
  tape := ht
  output := hp
  frame := fun b hb hno => hold b hb (fun e => hno ⟨id, hl, e.symm⟩)
  owns := by
    rintro b hb ⟨j, hj, he⟩
    by_cases h : j = nid
    · subst h
      simp only [ioset, if_true] at he
      rcases hg with rfl | rfl
      · exact ⟨id, hl, he⟩
      · omega
    · rw [gset_ne _ _ h] at hj
      simp only [ioset, if_neg h] at he
      by_cases h2 : j = id
      · subst h2; rw [gset_self] at hj; cases hj
      · rw [gset_ne _ _ h2] at hj; exact ⟨j, hj, he⟩
  io := fun j h => by
    have : j ≠ nid := by rintro rfl; simp [hn] at h
    simp [ioset, this]
  some_ := fun j h => by
    have : j ≠ nid := by rintro rfl; simp [hn] at h
    rw [gset_ne _ _ this]
    by_cases h2 : j = id
    · subst h2; rw [gset_self]; rfl
    · rw [gset_ne _ _ h2]; exact h
  box := fun j h hb => by
    have : j ≠ nid := by rintro rfl; simp [hn] at h
    rw [gset_ne _ _ this] at hb
    by_cases h2 : j = id
    · subst h2; rw [gset_self] at hb; cases hb
    · rw [gset_ne _ _ h2] at hb; exact hb
  row := fun j h hb => by
    have : j ≠ nid := by rintro rfl; simp [hn] at h
    rw [gset_ne _ _ this] at hb ⊢
    by_cases h2 : j = id
    · subst h2; rw [gset_self] at hb; cases hb
    · rw [gset_ne _ _ h2] at hb ⊢; exact ⟨hb, rfl⟩

theorem conc_append {w' : World} {id nid g cap e sz : Nat} {zs : List AV} (hC : Conc w X ι G) (hl : (G id).live = true) (hn : (G nid).isNone = true)
    (hs : w.heap.size ≤ w'.heap.size) (ho : w'.os = w.os) (ht : w'.tape = w.tape) (hp : w'.output = w.output) (hold : ∀ b, b < w.heap.size → b ≠ (ι id).1 → w'.heap[b]? = w.heap[b]?)
    (hg : g = (ι id).1 ∨ g = w.heap.size) (hb : BR w' X (ioset ι nid (g, cap)) (gset (gset G id .dead) nid (.row e sz zs)) nid (.row e sz zs)) :
    Conc w' X (ioset ι nid (g, cap)) (gset (gset G id .dead) nid (.row e sz zs)) where
  inj := by
    have hlive : ∀ j, j ≠ nid → (gset (gset G id .dead) nid (.row e sz zs) j).live = true → j ≠ id ∧ (G j).live = true := fun j hj hl' => by
      rw [gset_ne _ _ hj] at hl'
      by_cases h2 : j = id
      · subst h2; rw [gset_self] at hl'; cases hl'
      · rw [gset_ne _ _ h2] at hl'; exact ⟨h2, hl'⟩
    have hne : ∀ j, j ≠ nid → (gset (gset G id .dead) nid (.row e sz zs) j).live = true → (ι j).1 ≠ g := fun j hj hl' he => by
      obtain ⟨h1, h2⟩ := hlive j hj hl'
      rcases hg with rfl | rfl
      · exact h1 (hC.inj j id h2 hl he)
      · have := BR.lt (hC.br j) h2; omega
    intro i j hi hj he
    by_cases h1 : i = nid
    · by_cases h2 : j = nid
      · rw [h1, h2]
      · subst h1; simp only [ioset, if_true, if_neg h2] at he; exact absurd he.symm (hne j h2 hj)
    · by_cases h2 : j = nid
      · subst h2; simp only [ioset, if_true, if_neg h1] at he; exact absurd he (hne i h1 hi)
      · simp only [ioset, if_neg h1, if_neg h2] at he
        exact hC.inj i j (hlive i h1 hi).2 (hlive j h2 hj).2 he
  dis := by
    intro j hj hX
    by_cases h1 : j = nid
    · subst h1
      simp only [ioset, if_true] at hX
      rcases hg with rfl | rfl
      · exact hC.dis id hl hX
      · have := hC.xlt _ hX; omega
    · rw [gset_ne _ _ h1] at hj
      simp only [ioset, if_neg h1] at hX
      by_cases h2 : j = id
      · subst h2; rw [gset_self] at hj; cases hj
      · rw [gset_ne _ _ h2] at hj; exact hC.dis j hj hX
  xlt := fun b hX => Nat.lt_of_lt_of_le (hC.xlt b hX) hs
  br := by
    intro j
    by_cases h1 : j = nid
    · subst h1; rw [gset_self]; exact hb
    · rw [gset_ne _ _ h1]
      by_cases h2 : j = id
      · subst h2; rw [gset_self]; trivial
      · rw [gset_ne _ _ h2]
        cases hid : (G j).isNone with
        | true => cases hgj : G j <;> simp_all [AB.isNone, BR]
        | false =>
          exact (hC.br j).next ((gr_append (cap := cap) (e := e) (sz := sz) (zs := zs) hl hn hs ho ht hp hold hg).next X) hid (fun hlj => hold _ (BR.lt (hC.br j) hlj) (fun e2 => h2 (hC.inj j id hlj hl e2)))
  laid := hC.laid.hold fun p hp hlt => hold p.1 hlt (fun e => hC.free p hp id hl e.symm)
  free := fun p hp j hj => by
    by_cases h1 : j = nid
    · subst h1
      simp only [ioset, if_true]
      rcases hg with rfl | rfl
      · exact hC.free p hp id hl
      · have := hC.laid.lt hp; omega
    · rw [gset_ne _ _ h1] at hj
      simp only [ioset, if_neg h1]
      by_cases h2 : j = id
      · subst h2; rw [gset_self] at hj; cases hj
      · rw [gset_ne _ _ h2] at hj; exact hC.free p hp j hj

theorem ownBlock_slice {g n c : Nat} {r : Option Nat} (h : (Value.slice (some ⟨g, 0, none⟩) n c).ownBlock = r) : some g = r := h

theorem sound_append (hte : ∀ t, TDok P t (te t)) (hC : Conc w X ι G) {H : Heap} {o : Oper} {a : Act} {t nid : Nat} {aS ax : Operand} (hn : (G nid).isNone = true)
    (ho : o.op = .call { callee := .builtin .append, args := #[aS, ax], argTypes := #[t, t] }) {s x : AV} (hAs : Agree H G s) (hAx : Agree H G x)
    (hs : VR w X ι G s (a.eval aS)) (hx : VR w X ι G x (a.eval ax)) {K : DK} (h : dAppend te H nid t s x K) : ∃ x u, K x u ∧ OpOut P o a w X ι G x u := by
  unfold dAppend at h
  have hu := (hte t).u
  cases hs' : (te t).u <;> simp only [hs'] at h
  rename_i e
  rw [hs'] at hu
  have hu' : P.underlying t = some (.slice e) := hu
  obtain ⟨k, ys, h, hsrc⟩ := appX_src hAx hC hx h
  have fin : ∀ {v' : Value} {w' : World} {ι' : Io} {y : AV} {u : Upd}, (Builtin.append_ #[t, t] o.type #[a.eval aS, a.eval ax]).run P w = .ok v' w' → VR w' X ι' (gupd G u) y v' → Conc w' X ι' (gupd G u) → Gr w ι G w' ι' (gupd G u) → OpOut P o a w X ι G y u := by
    intro v' w' ι' y u hr hv hC' hG'
    exact ⟨.value v', v', w', ι', by simp [execOp, ho, resolve, invoke, builtin, hr], .inl rfl, hv, hC', hG'⟩
  cases s with
  | row id m =>
    simp only at h
    have hid := hAs id (by simp [idsA])
    simp only [VR] at hs
    cases hb : hget H id <;> simp only [hb] at h
    rename_i t0 sz xs
    rw [hb] at hid
    obtain ⟨he, hmc⟩ := hs.2.1 (by rw [hid]; rfl)
    have hbr := hC.br id
    rw [hid] at hbr
    obtain ⟨cells, hh, hcsz, hle, hmx, hev⟩ := hbr
    cases h1 : Nat.beq t0 e <;> cases h2 : Nat.beq sz (te e).sz <;> cases h3 : Nat.beq (te e).sz 0 <;> cases hok : (te e).ok <;> simp only [h1, h2, h3, hok] at h
    obtain rfl := Nat.eq_of_beq_eq_true h1
    obtain rfl := Nat.eq_of_beq_eq_true h2
    have hpos : 0 < (te t0).sz := by
      rcases Nat.eq_zero_or_pos (te t0).sz with h0 | h0
      · rw [h0] at h3; cases h3
      · exact h0
    obtain ⟨⟨⟨hmx', hmk⟩, hbytes⟩, h⟩ := h
    obtain ⟨inf, z, hi, hsz, hby, hz, hzr⟩ := (hte t0).info hok
    have hzs : z.cells.size = (te t0).sz := hzr.len
    have hmsz : m * (te t0).sz ≤ cells.size := by rw [hcsz]; exact Nat.mul_le_mul_right _ hmc
    have hown : w.ownsRow 0 t0 (te t0).sz (a.eval aS) m (cells.toList.take (m * (te t0).sz)) :=
      ⟨by simp; omega, .inr ⟨(ι id).1, (ι id).2, cells, he, Nat.zero_le _, hh, hmc, hmx, hcsz, rfl⟩⟩
    have hlive : (G id).live = true := by rw [hid]; rfl
    -- what the run gives
    have run : ∃ v' w' us, (Builtin.append_ #[t, t] o.type #[a.eval aS, a.eval ax]).run P w = .ok v' w' ∧ w'.ownsRow 0 t0 (te t0).sz v' (m + k) (cells.toList.take (m * (te t0).sz) ++ flat us) ∧ w.grownBy w' (a.eval aS).ownBlock ∧
        (v'.ownBlock = (a.eval aS).ownBlock ∨ v'.ownBlock = some w.heap.size) ∧ v' ≠ .slice none 0 0 ∧ us.length = k ∧
        (∀ (i : Nat) (u : Value), us[i]? = some u → ∃ y, ys[i]? = some y ∧ VR w X ι G y u ∧ u.cells.size = (te t0).sz ∧ ∀ (j : Nat) (q : Value), u.cells[j]? = some q → q.oneCell' = true) := by
      rcases hsrc with ⟨rfl, A, c, hxe⟩ | ⟨ad, c, hxe, us, hus, huu⟩
      · refine ⟨a.eval aS, w, [], ?_, by simpa [flat] using hown, ⟨rfl, rfl, rfl, Nat.le_refl _, fun _ _ _ => rfl⟩, .inl rfl, by rw [he]; simp, rfl, fun i u hi => by simp at hi⟩
        rw [hxe, he]
        cases A <;> simp [Builtin.append_, run_underlying hu', sizeOf, typeInfo, hi, Builtin.lenOf, hmc, Builtin.firstCells, loadCells, loadCellsFrom, storeCells]
      · have hall : ∀ u ∈ us, u.cells.size = (te t0).sz := fun u hm => by
          obtain ⟨i, hi⟩ := List.getElem?_of_mem hm
          obtain ⟨y, _, _, h, _⟩ := huu i u hi
          exact h
        have hcellat : ∀ j u, (flat us)[j]? = some u → w.cell? (ad.add j) = some u ∧ u.oneCell' = true := fun j u hj => by
          have hjl : j < us.length * (te t0).sz := by rw [← flat_len us hall]; exact (List.getElem?_eq_some_iff.1 hj).1
          have hq : j / (te t0).sz < us.length := Nat.div_lt_of_lt_mul (by rwa [Nat.mul_comm])
          have hdm : j / (te t0).sz * (te t0).sz + j % (te t0).sz = j := by rw [Nat.mul_comm]; exact Nat.div_add_mod _ _
          rw [← hdm, flat_get us hall _ _ (Nat.mod_lt _ hpos), List.getElem?_eq_getElem hq] at hj
          obtain ⟨y, _, _, _, hc⟩ := huu _ _ (List.getElem?_eq_getElem hq)
          have := hc _ _ hj
          rwa [hdm] at this
        obtain ⟨v', w', hr, ho', hg', hnil, hat⟩ := run_append_own_at (P := P) w 0 t o.type t0 inf z (te t0).sz (te t0).bytes hu' hi hz hsz hby hzs hpos (a.eval aS) m _ hown ad k c (flat us)
          (by rw [flat_len us hall, hus]) (fun j u hj => (hcellat j u hj).1) (fun u hm => by obtain ⟨j, hj⟩ := List.getElem?_of_mem hm; exact (hcellat j u hj).2) (by simpa [maxLen] using hmk) hbytes (Nat.zero_le _)
        refine ⟨v', w', us, by rw [hxe]; exact hr, ho', hg', hat, fun e => ?_, hus, fun i u hi => ?_⟩
        · have := hnil.1 e; rw [he] at this; simp at this
        · obtain ⟨y, h1, h2, h3, h4⟩ := huu i u hi
          exact ⟨y, h1, h2, h3, fun j q hq => (h4 j q hq).2⟩
    obtain ⟨v', w', us, hr, ho', hg', hat, hnn, hus, huu⟩ := run
    rcases ho'.2 with ⟨e1, _⟩ | ⟨g, cap, cur, rfl, _, hgh, hcl, hcm, hcs, htake⟩
    · exact absurd e1 hnn
    have hg : g = (ι id).1 ∨ g = w.heap.size := by
      rcases hat with hat | hat
      · rw [he] at hat; simp [Value.ownBlock] at hat; exact .inl hat
      · simp [Value.ownBlock] at hat; exact .inr hat
    have hold : ∀ b, b < w.heap.size → b ≠ (ι id).1 → w'.heap[b]? = w.heap[b]? := fun b hb hne => hg'.block b hb (by rw [he]; simp [Value.ownBlock]; exact hne)
    have hgr := gr_append (w := w) (w' := w') (ι := ι) (cap := cap) (e := t0) (sz := (te t0).sz) (zs := appL m xs k ys) hlive hn hg'.size hg'.os hg'.tape hg'.output hold hg
    refine ⟨_, _, h, fin hr ?_ (conc_append hC hlive hn hg'.size hg'.os hg'.tape hg'.output hold hg ?_) hgr⟩
    · simp only [VR, gupd, gset_self]
      exact ⟨rfl, fun _ => by simp [ioset, hcl], rfl⟩
    · refine ⟨cur, by simp only [ioset, if_true]; exact hgh, by simp only [ioset, if_true]; exact hcs, ?_, by simp only [ioset, if_true]; exact hcm, (EV_append hev hmx' hus huu htake hmsz).next (hgr.next X)⟩
      simp only [ioset, if_true, appL, List.length_append, List.length_take]
      omega
  | pv p =>
    cases p <;> simp only at h
    simp only [VR, PR] at hs
    cases h3 : Nat.beq (te e).sz 0 <;> cases hok : (te e).ok <;> simp only [h3, hok] at h
    have hpos : 0 < (te e).sz := by
      rcases Nat.eq_zero_or_pos (te e).sz with h0 | h0
      · rw [h0] at h3; cases h3
      · exact h0
    obtain ⟨⟨⟨hmk, hbytes⟩, hk0⟩, h⟩ := h
    obtain ⟨inf, z, hi, hsz, hby, hz, hzr⟩ := (hte e).info hok
    have hown : w.ownsRow 0 e (te e).sz (a.eval aS) 0 [] := by rw [hs]; exact World.ownsRow_nil w 0 e _
    rcases hsrc with ⟨rfl, _⟩ | ⟨ad, c, hxe, us, hus, huu⟩
    · omega
    have hall : ∀ u ∈ us, u.cells.size = (te e).sz := fun u hm => by
      obtain ⟨i, hi⟩ := List.getElem?_of_mem hm
      obtain ⟨y, _, _, h, _⟩ := huu i u hi
      exact h
    have hcellat : ∀ j u, (flat us)[j]? = some u → w.cell? (ad.add j) = some u ∧ u.oneCell' = true := fun j u hj => by
      have hjl : j < us.length * (te e).sz := by rw [← flat_len us hall]; exact (List.getElem?_eq_some_iff.1 hj).1
      have hq : j / (te e).sz < us.length := Nat.div_lt_of_lt_mul (by rwa [Nat.mul_comm])
      have hdm : j / (te e).sz * (te e).sz + j % (te e).sz = j := by rw [Nat.mul_comm]; exact Nat.div_add_mod _ _
      rw [← hdm, flat_get us hall _ _ (Nat.mod_lt _ hpos), List.getElem?_eq_getElem hq] at hj
      obtain ⟨y, _, _, _, hc⟩ := huu _ _ (List.getElem?_eq_getElem hq)
      have := hc _ _ hj
      rwa [hdm] at this
    obtain ⟨v', w', hr, ho', hg', hnil, hat⟩ := run_append_own_at (P := P) w 0 t o.type e inf z (te e).sz (te e).bytes hu' hi hz hsz hby hzr.len hpos (a.eval aS) 0 _ hown ad k c (flat us)
      (by rw [flat_len us hall, hus]) (fun j u hj => (hcellat j u hj).1) (fun u hm => by obtain ⟨j, hj⟩ := List.getElem?_of_mem hm; exact (hcellat j u hj).2) (by simp only [maxLen]; omega) (by simpa using hbytes) (Nat.zero_le _)
    rcases ho'.2 with ⟨e1, _⟩ | ⟨g, cap, cur, rfl, _, hgh, hcl, hcm, hcs, htake⟩
    · have := (hnil.1 e1).2; omega
    have hg : g = w.heap.size := by
      rcases hat with hat | hat
      · rw [hs] at hat; simp [Value.ownBlock] at hat
      · simpa [Value.ownBlock] using hat
    subst hg
    have hlt : w.heap.size < w'.heap.size := (Array.getElem?_eq_some_iff.1 hgh).1
    have hold : ∀ b, b < w.heap.size → w'.heap[b]? = w.heap[b]? := fun b hb => hg'.block b hb (by rw [hs]; simp [Value.ownBlock])
    have hgr := gr_new (w := w) (w' := w') (ι := ι) (cap := cap) (ab := .row e (te e).sz (appL 0 [] k ys)) hn hlt hg'.os hg'.tape hg'.output hold
    refine ⟨_, _, h, fin (by rw [hxe]; exact hr) ?_ (conc_new hC hn hlt hg'.os hg'.tape hg'.output hold ?_) hgr⟩
    · simp only [VR, gupd, gset_self]
      exact ⟨rfl, fun _ => by simp [ioset]; omega, rfl⟩
    · have hev0 : EV w X ι G (#[] : Array Value) (te e).sz [] := fun i x hx => by simp at hx
      refine ⟨cur, by simp only [ioset, if_true]; exact hgh, by simp only [ioset, if_true]; exact hcs, ?_, by simp only [ioset, if_true]; exact hcm, ?_⟩
      · simp only [ioset, if_true, appL, List.length_append, List.length_take]
        simp
        omega
      · refine (EV_append (m := 0) (k := k) (us := us) hev0 (Nat.zero_le _) hus (fun i u hi => ?_) (by simpa using htake) (by simp)).next (hgr.next X)
        obtain ⟨y, h1, h2, h3, h4⟩ := huu i u hi
        exact ⟨y, h1, h2, h3, fun j q hq => (h4 j q hq).2⟩
  | _ => exact h.elim
end
end Go.AM

namespace Go.AM
section
variable {P : Program} {te : TE} {w : World} {X : Nat → Prop} {ι : Io} {G : Own}

theorem toList_size (v : Value) : v.cells.size = v.cells.toList.length := by simp

/-- A part laid over cells, as the model does it. -/
theorem fold_set : ∀ (us : List Value) (k off : Nat) (cs : Array Value), off + k + us.length ≤ cs.size →
    (us.zipIdx k).foldl (fun (cs : Array Value) (c, j) => cs.setIfInBounds (off + j) c) cs = (cs.toList.take (off + k) ++ us ++ cs.toList.drop (off + k + us.length)).toArray
  | [], k, off, cs, h => by simp
  | u :: us, k, off, cs, h => by
    simp only [List.zipIdx_cons, List.foldl_cons]
    rw [fold_set us (k + 1) off _ (by simp at h ⊢; omega)]
    have hk : off + k < cs.size := by simp at h; omega
    apply congrArg List.toArray
    simp only [Array.toList_setIfInBounds]
    have e1 : (cs.toList.set (off + k) u).take (off + (k + 1)) = cs.toList.take (off + k) ++ [u] := by
      rw [show off + (k + 1) = (off + k) + 1 by omega, List.take_succ_eq_append_getElem (by simpa using hk), List.take_set_of_le (Nat.le_refl _)]
      simp
    have e2 : (cs.toList.set (off + k) u).drop (off + (k + 1) + us.length) = cs.toList.drop (off + k + (u :: us).length) := by
      rw [List.drop_set_of_lt (by omega)]
      simp only [List.length_cons]
      congr 1
      omega
    rw [e1, e2]
    simp

/-- Parts, one by one. -/
def PVs (w : World) (X : Nat → Prop) (ι : Io) (G : Own) : List (Nat × AV) → List (Nat × Value) → Prop
  | [], vs => vs = []
  | (i, x) :: ps, vs => ∃ v us, vs = (i, v) :: us ∧ VR w X ι G x v ∧ PVs w X ι G ps us

theorem fillF_run {fs : List (Nat × Nat × Bool)} {place : Nat → Option (Nat × Nat)} (hpl : ∀ i o sz ag, fs[i]? = some (o, sz, ag) → place i = some (o, sz)) :
    ∀ (ps : List (Nat × AV)) (vs : List (Nat × Value)) (cs cs' : List AV) (us : Array Value), PVs w X ι G ps vs → ps.all (fun p => withCellsB p.2) = true →
      CV w X ι G cs us.toList → fillF fs cs ps = some cs' → ∃ us', Instr.fill place us vs = some us' ∧ CV w X ι G cs' us'.toList ∧ us'.size = us.size
  | [], _, cs, cs', us, hf, _, hc, h => by
    simp only [PVs] at hf
    subst hf
    simp only [fillF, Option.some.injEq] at h
    subst h
    exact ⟨us, rfl, hc, rfl⟩
  | (i, x) :: ps, _, cs, cs', us, hf, hw, hc, h => by
      simp only [PVs] at hf
      obtain ⟨v, vs, rfl, hv, hf⟩ := hf
      simp only [fillF] at h
      rw [nthO_eq] at h
      cases hn : fs[i]? with
      | none => simp [hn] at h
      | some q =>
        obtain ⟨o, sz, ag⟩ := q
        simp only [hn] at h
        simp only [List.all_cons, Bool.and_eq_true] at hw
        have hcx := cells_of hw.1 hv
        cases h1 : Nat.ble (o + sz) (lenL cs) <;> cases h2 : Nat.beq (lenL (cellsA x)) sz <;> simp only [h1, h2] at h <;> try (simp at h; done)
        have h1 := Nat.le_of_ble_eq_true h1
        have h2 := Nat.eq_of_beq_eq_true h2
        rw [lenL_eq] at h1 h2
        have hlx := CV_len hcx
        have hlc := CV_len hc
        have hvs : v.cells.size = sz := by rw [toList_size, hlx, h2]
        have hsp := CV_splice hc hcx (n := o) (by rw [h2]; exact h1)
        have hus : us.size = cs.length := by rw [← hlc]; simp
        obtain ⟨us', hfl, hc', hs'⟩ := fillF_run hpl ps vs _ cs' (us.toList.take o ++ v.cells.toList ++ us.toList.drop (o + v.cells.toList.length)).toArray hf hw.2 (by simpa using hsp) h
        refine ⟨us', ?_, hc', ?_⟩
        · have hfold := fold_set v.cells.toList 0 o us (by simp; omega)
          simp only [Instr.fill, hpl i o sz ag hn]
          rw [if_neg (by simp [hvs]; omega)]
          rw [← hfl]
          congr 1
          rw [← Array.foldl_toList, Array.toList_zipIdx]
          simpa using hfold
        · rw [hs']
          simp
          omega

theorem evParts_vs {ev : Operand → Option AV} {a : Act} (hev : ∀ x v, ev x = some v → VR w X ι G v (a.eval x)) : ∀ (l : List (Nat × Operand)) (ps : List (Nat × AV)), evParts ev l = some ps → PVs w X ι G ps (l.map fun (i, x) => (i, a.eval x))
  | [], ps, h => by simp only [evParts, Option.some.injEq] at h; subst h; simp [PVs]
  | (i, x) :: l, ps, h => by
    simp only [evParts] at h
    cases h1 : ev x <;> cases h2 : evParts ev l <;> simp [h1, h2] at h
    subst h
    simp only [List.map_cons, PVs]
    exact ⟨_, _, rfl, hev x _ h1, evParts_vs hev l _ h2⟩

theorem sound_build (hte : ∀ t, TDok P t (te t)) (hC : Conc w X ι G) {o : Oper} {a : Act} {t : TypeId} {parts : Array (Nat × Operand)} (ho : o.op = .build t parts) {ps : List (Nat × AV)}
    (hps : PVs w X ι G ps (parts.toList.map fun (i, x) => (i, a.eval x))) {fs : List (Nat × Nat × Bool)} (hu : (te t).u = .struct fs) (hok : (te t).ok = true) (hw : ps.all (fun p => withCellsB p.2) = true) {cs : List AV}
    (hf : fillF fs (pvs (te t).zero) ps = some cs) : OpOut P o a w X ι G (mkAgg cs) [] := by
  have hU := (hte t).u
  rw [hu] at hU
  obtain ⟨fields, hund, hF⟩ := hU
  obtain ⟨inf, z, hi, hsz, hby, hz, hzr⟩ := (hte t).info hok
  have hpl : ∀ (l : List Field) (fs : List (Nat × Nat × Bool)), FOk P l fs → ∃ ps : List (Nat × Nat), l.mapM (fun f => (P.info? f.type).map fun i => (f.offset, i.size)) = some ps ∧ ∀ (i o sz : Nat) (ag : Bool), fs[i]? = some (o, sz, ag) → ps[i]? = some (o, sz) := by
    intro l
    induction l with
    | nil =>
      intro fs hF
      cases fs with
      | nil => exact ⟨[], rfl, fun i o sz ag h => by simp at h⟩
      | cons f fs => simp [FOk] at hF
    | cons f l ih =>
      intro fs hF
      cases fs with
      | nil => simp [FOk] at hF
      | cons q fs =>
        obtain ⟨o, sz, ag⟩ := q
        simp only [FOk] at hF
        obtain ⟨⟨h1, ⟨i, h2, h3⟩, _, _⟩, hF⟩ := hF
        obtain ⟨ps, hr, hp⟩ := ih fs hF
        refine ⟨(o, sz) :: ps, ?_, fun i o' sz' ag' h => ?_⟩
        · simp [List.mapM_cons, h1, h2, h3, hr]
        · cases i with
          | zero => simp at h; obtain ⟨rfl, rfl, rfl⟩ := h; rfl
          | succ i => simpa using hp i o' sz' ag' (by simpa using h)
  obtain ⟨pl, hplr, hplg⟩ := hpl fields.toList fs hF
  obtain ⟨us', hfl, hc', _⟩ := fillF_run (place := (pl.toArray[·]?)) (fun i o sz ag h => by simpa using hplg i o sz ag h) ps _ _ cs z.cells hps hw (CR_CV.1 (hzr.cells w (off X ι G))) hf
  refine OpOut.same hC (v := .agg us') ?_ (by have := VR_agg hc'; simpa using this)
  have hb : P.built t (parts.map fun (i, x) => (i, a.eval x)).toList = some us' := by
    simp only [Program.built, hi, hund, hz, hplr]
    rw [← hfl]
    simp
  have := run_build (P := P) w t (parts.map fun (i, x) => (i, a.eval x)) us' hb
  simp only [execOp, ho, Sem.run_bind, this]
  rfl

theorem fill_dense {sz : Nat} : ∀ (vs : List (Nat × Value)) (ps : List (Nat × AV)) (k : Nat) (cs : Array Value), PVs w X ι G ps vs → dense ps k = true → (∀ p ∈ vs, p.2.cells.size = sz) → (k + vs.length) * sz ≤ cs.size →
    Instr.fill (fun i => some (i * sz, sz)) cs vs = some (cs.toList.take (k * sz) ++ flat (vs.map (·.2)) ++ cs.toList.drop ((k + vs.length) * sz)).toArray
  | [], ps, k, cs, _, _, _, _ => by simp [Instr.fill, flat]
  | (i, v) :: vs, ps, k, cs, hp, hd, hs, hl => by
    cases ps with
    | nil => simp [PVs] at hp
    | cons p ps =>
      obtain ⟨j, x⟩ := p
      simp only [PVs] at hp
      obtain ⟨v', us, he, hv, hp⟩ := hp
      injection he with he1 he2
      injection he1 with he1 he3
      subst he1 he2 he3
      simp only [dense, Bool.and_eq_true] at hd
      have hik := Nat.eq_of_beq_eq_true hd.1
      subst hik
      have hvs : v.cells.size = sz := hs _ (List.mem_cons_self ..)
      have hl' : (i + 1 + vs.length) * sz ≤ cs.size := by simp only [List.length_cons] at hl; rwa [show i + 1 + vs.length = i + (vs.length + 1) by omega]
      have hfit : i * sz + sz ≤ cs.size := by
        have : (i + 1) * sz ≤ (i + 1 + vs.length) * sz := Nat.mul_le_mul_right _ (by omega)
        rw [Nat.add_mul i 1, Nat.one_mul] at this
        omega
      simp only [Instr.fill]
      rw [if_neg (by simp [hvs]; omega)]
      have hfold := fold_set v.cells.toList 0 (i * sz) cs (by simp; omega)
      have hfold' : v.cells.zipIdx.foldl (fun (cs : Array Value) (c, j) => cs.setIfInBounds (i * sz + j) c) cs = (cs.toList.take (i * sz) ++ v.cells.toList ++ cs.toList.drop (i * sz + sz)).toArray := by
        rw [← Array.foldl_toList, Array.toList_zipIdx]
        simpa [hvs] using hfold
      rw [hfold', fill_dense vs ps (i + 1) _ hp hd.2 (fun p hm => hs p (List.mem_cons_of_mem _ hm)) (by
        simp only [List.size_toArray, List.length_append, List.length_take, List.length_drop, Array.length_toList]
        omega)]
      congr 2
      have e1 : (i + 1) * sz = i * sz + sz := by rw [Nat.add_mul, Nat.one_mul]
      have hA : (cs.toList.take (i * sz) ++ v.cells.toList).length = i * sz + sz := by simp; omega
      have hle : i * sz + sz ≤ (i + 1 + vs.length) * sz := by rw [← e1]; exact Nat.mul_le_mul_right _ (by omega)
      have hAll : (cs.toList.take (i * sz) ++ v.cells.toList ++ cs.toList.drop (i * sz + sz)).take ((i + 1) * sz) = cs.toList.take (i * sz) ++ v.cells.toList := by
        rw [e1, ← hA]; exact List.take_left
      have hB : (cs.toList.take (i * sz) ++ v.cells.toList ++ cs.toList.drop (i * sz + sz)).drop ((i + 1 + vs.length) * sz) = cs.toList.drop ((i + 1 + vs.length) * sz) := by
        rw [List.drop_append, hA, List.drop_eq_nil_of_le (by omega), List.nil_append, List.drop_drop]
        congr 1
        omega
      rw [hAll, hB]
      simp only [List.map_cons, flat, List.length_cons, List.append_assoc]
      rw [show i + 1 + vs.length = i + (vs.length + 1) by omega]

theorem PVs_list : ∀ {ps : List (Nat × AV)} {vs : List (Nat × Value)}, PVs w X ι G ps vs → vs.length = ps.length ∧ ∀ (i : Nat) (x : AV), (sndL ps)[i]? = some x → ∃ u, (vs.map (·.2))[i]? = some u ∧ VR w X ι G x u
  | [], vs, h => by simp only [PVs] at h; subst h; simp [sndL]
  | (j, y) :: ps, vs, h => by
    simp only [PVs] at h
    obtain ⟨v, us, rfl, h1, h2⟩ := h
    obtain ⟨h3, h4⟩ := PVs_list h2
    refine ⟨by simp [h3], fun i x hx => ?_⟩
    cases i with
    | zero => simp [sndL] at hx; subst hx; exact ⟨v, by simp, h1⟩
    | succ i => simpa using h4 i x (by simpa [sndL] using hx)
theorem sndL_len : ∀ ps : List (Nat × AV), (sndL ps).length = ps.length
  | [] => rfl
  | (_, _) :: ps => by simp [sndL, sndL_len ps]

theorem sound_buildSlice (hte : ∀ t, TDok P t (te t)) (hC : Conc w X ι G) {o : Oper} {a : Act} {t len nid e : Nat} {parts : Array (Nat × Operand)} (hn : (G nid).isNone = true) (ho : o.op = .buildSlice t len parts) {ps : List (Nat × AV)}
    (hps : PVs w X ι G ps (parts.toList.map fun (i, x) => (i, a.eval x))) (hu : (te t).u = .slice e) (hw : ps.all (fun p => withCellsB p.2 && Nat.beq (lenL (cellsA p.2)) (te e).sz) = true)
    (hd : (dense ps 0 && Nat.beq (lenL ps) len && Nat.blt 0 len) = true) (hle : Nat.ble (len * (te e).sz) 16777216 = true) (hok : (Nat.blt 0 (te e).sz && (te e).ok) = true) :
    OpOut P o a w X ι G (.row nid len) [(nid, .row e (te e).sz (sndL ps))] := by
  have hU := (hte t).u
  rw [hu] at hU
  have hU' : P.underlying t = some (.slice e) := hU
  simp only [Bool.and_eq_true] at hd hok
  obtain ⟨⟨hd, hlen⟩, hl0⟩ := hd
  obtain ⟨hs0, hok⟩ := hok
  obtain ⟨inf, z, hi, hsz, hby, hz, hzr⟩ := (hte e).info hok
  have hlen := Nat.eq_of_beq_eq_true hlen
  rw [lenL_eq] at hlen
  have hl0 : 0 < len := Nat.le_of_ble_eq_true hl0
  have hs0 : 0 < (te e).sz := Nat.le_of_ble_eq_true hs0
  have hle := Nat.le_of_ble_eq_true hle
  obtain ⟨hvl, hvg⟩ := PVs_list hps
  generalize hvs : (parts.toList.map fun (i, x) => (i, a.eval x)) = vs at hps hvl hvg
  -- sizes
  have hsizes : ∀ {ps : List (Nat × AV)} {vs : List (Nat × Value)}, PVs w X ι G ps vs → ps.all (fun p => withCellsB p.2 && Nat.beq (lenL (cellsA p.2)) (te e).sz) = true → ∀ p ∈ vs, p.2.cells.size = (te e).sz ∧ ∀ u ∈ p.2.cells.toList, u.oneCell' = true := by
    intro ps
    induction ps with
    | nil => intro vs h _ p hp; simp only [PVs] at h; subst h; simp at hp
    | cons q ps ih =>
      intro vs h hw p hp
      obtain ⟨j, y⟩ := q
      simp only [PVs] at h
      obtain ⟨v, us, rfl, h1, h2⟩ := h
      simp only [List.all_cons, Bool.and_eq_true] at hw
      rcases List.mem_cons.1 hp with rfl | hp
      · have hc := cells_of hw.1.1 h1
        have := Nat.eq_of_beq_eq_true hw.1.2
        rw [lenL_eq] at this
        exact ⟨by rw [toList_size, CV_len hc, this], CV_one hc⟩
      · exact ih h2 hw.2 p hp
  have hsz' := hsizes hps hw
  have hall : ∀ u ∈ vs.map (·.2), u.cells.size = (te e).sz := fun u hm => by
    obtain ⟨p, hp, rfl⟩ := List.mem_map.1 hm
    exact (hsz' p hp).1
  have hzc : ((Array.range (len * inf.size)).map (z.cells[· % z.cells.size]!)).size = len * (te e).sz := by simp [hsz]
  have hfill := fill_dense (sz := (te e).sz) vs ps 0 ((Array.range (len * inf.size)).map (z.cells[· % z.cells.size]!)) hps hd (fun p hp => (hsz' p hp).1) (by rw [hzc, hvl, hlen]; simp)
  have hfl : (flat (vs.map (·.2))).length = len * (te e).sz := by rw [flat_len _ hall, List.length_map, hvl, hlen]
  have hrun := run_buildSlice (P := P) w t e len (parts.map fun (i, x) => (i, a.eval x)) (flat (vs.map (·.2))).toArray inf z hU' hi hz (by rw [hsz]; omega) (by rw [hsz]; exact Nat.ne_of_gt (Nat.mul_pos hl0 hs0)) (by
    rw [Array.toList_map, hvs, hsz]
    rw [hsz] at hfill hzc
    rw [hfill]
    congr 2
    simp only [Nat.zero_mul, List.take_zero, List.nil_append, Nat.zero_add]
    rw [List.drop_eq_nil_of_le (by simp only [Array.length_toList, hzc, hvl, hlen]; omega)]
    simp)
  refine OpOut.row hC hn (cap := len) (cells := (flat (vs.map (·.2))).toArray) ?_ (by simp [hfl]) (by rw [sndL_len, hlen]; exact Nat.le_refl _) ?_ (by rw [sndL_len, hlen]) ?_
  · intro i x hx
    obtain ⟨u, hu2, hv⟩ := hvg i x hx
    have hmem : u ∈ vs.map (·.2) := List.mem_of_getElem? hu2
    obtain ⟨p, hp, hpe⟩ := List.mem_map.1 hmem
    refine ⟨u, hv, hall u hmem, fun j q hj => ⟨?_, by rw [← hpe] at hj; exact (hsz' p hp).2 q (Array.mem_toList_iff.2 (Array.mem_of_getElem? hj))⟩⟩
    have hjs : j < (te e).sz := by rw [← hall u hmem]; exact (Array.getElem?_eq_some_iff.1 hj).1
    simp only [List.getElem?_toArray]
    rw [flat_get _ hall i j hjs, hu2]
    exact hj
  · have : len * 1 ≤ len * (te e).sz := Nat.mul_le_mul_left _ hs0
    simp only [maxLen]
    omega
  · simp only [execOp, ho, Sem.run_bind, hrun]
    rfl
/-- An empty slice. -/
theorem sound_build0 (hte : ∀ t, TDok P t (te t)) (hC : Conc w X ι G) {o : Oper} {a : Act} {t nid e : Nat} {parts : Array (Nat × Operand)} (hn : (G nid).isNone = true) (ho : o.op = .buildSlice t 0 parts) (hp : parts.toList = []) (hu : (te t).u = .slice e)
    (hok : (Nat.blt 0 (te e).sz && (te e).ok) = true) : OpOut P o a w X ι G (.row nid 0) [(nid, .row e (te e).sz [])] := by
  have hU := (hte t).u
  rw [hu] at hU
  have hU' : P.underlying t = some (.slice e) := hU
  simp only [Bool.and_eq_true] at hok
  obtain ⟨inf, z, hi, hsz, hby, hz, hzr⟩ := (hte e).info hok.2
  have hp' : parts = #[] := Array.toList_eq_nil_iff.1 hp
  subst hp'
  refine OpOut.row hC hn (cap := 0) (cells := #[]) (fun i x hx => by simp at hx) (by simp) (Nat.le_refl _) (Nat.zero_le _) rfl ?_
  have : (Instr.buildSlice t 0 #[]).run P w = .ok (.slice (some ⟨w.heap.size, 0, none⟩) 0 0) (w.alloc (.cells #[] e)) := by
    simp [Instr.buildSlice, run_underlying hU', sizeOf, typeInfo, hi, Instr.fill, newRow]
    congr 2
    exact Array.eq_empty_of_size_eq_zero (by simp)
  simp only [execOp, ho, Sem.run_bind, List.map_toArray, List.map_nil, this]
  simp [this]
end
end Go.AM

namespace Go.AM
section
variable {P : Program} {te : TE} {w : World} {X : Nat → Prop} {ι : Io} {G : Own}

theorem zero_VR' {d : TD} {z : Value} (hz : ZR d z) : VR w X ι G (zeroA d) z := by
  unfold zeroA
  have hc := hz.cells w (off X ι G)
  cases hA : d.agg with
  | true =>
    obtain ⟨vs, rfl⟩ := hz.agg hA
    simp only [VR, PR]
    exact ⟨vs.toList, by simp, by simpa [Value.cells] using hc⟩
  | false =>
    have h1 := hz.one hA
    rw [oneCell_cells h1] at hc
    cases hq : d.zero with
    | nil => rw [hq] at hc; simp [CR] at hc
    | cons p ps =>
      rw [hq] at hc
      simp only [CR] at hc
      obtain ⟨u, us, he, h2, h3, h4⟩ := hc
      injection he with he1 he2
      subst he1 he2
      cases ps with
      | nil => simp only [VR]; exact h3
      | cons _ _ => simp [CR] at h4
theorem zero_one {d : TD} {z : Value} (w : World) (X : Nat → Prop) (ι : Io) (G : Own) (hz : ZR d z) : ∀ u ∈ z.cells.toList, u.oneCell' = true := CV_one (CR_CV.1 (hz.cells w (off X ι G)))

theorem madeCells_get (zs : Array Value) (n : Nat) {i j sz : Nat} (hs : zs.size = sz) (hj : j < sz) (hi : i < n) : (madeCells zs (n * sz))[i * sz + j]? = zs[j]? := by
  have hlt : i * sz + j < n * sz := by
    have : (i + 1) * sz ≤ n * sz := Nat.mul_le_mul_right _ hi
    rw [Nat.add_mul, Nat.one_mul] at this
    omega
  have hm : (i * sz + j) % sz = j := by rw [Nat.mul_comm, Nat.mul_add_mod, Nat.mod_eq_of_lt hj]
  unfold madeCells
  simp only [Array.getElem?_map, Array.getElem?_range, hlt, if_true, Option.map_some, hs, hm]
  rw [getElem!_pos zs j (by omega), Array.getElem?_eq_getElem (by omega)]

theorem sound_make (hte : ∀ t, TDok P t (te t)) (hC : Conc w X ι G) {o : Oper} {a : Act} {t nid : Nat} {al ac : Operand} (hn : (G nid).isNone = true) (ho : o.op = .makeSlice t al ac) {l c : AV}
    (hl : VR w X ι G l (a.eval al)) (hc : VR w X ι G c (a.eval ac)) {K : DK} (h : dMake te nid t l c K) : ∃ x u, K x u ∧ OpOut P o a w X ι G x u := by
  unfold dMake at h
  have hU := (hte t).u
  cases hs : (te t).u <;> simp only [hs] at h
  rename_i e
  rw [hs] at hU
  have hU' : P.underlying t = some (.slice e) := hU
  cases l with
  | pv p =>
    cases p <;> try exact h.elim
    cases c with
    | pv q =>
      cases q <;> try exact h.elim
      rename_i k m k2 n
      simp only at h
      cases hok : (te e).ok <;> simp only [hok] at h
      obtain ⟨⟨h0, h1, h63, h2⟩, h⟩ := h
      obtain ⟨inf, z, hi, hsz, hby, hz, hzr⟩ := (hte e).info hok
      simp only [VR, PR] at hl hc
      have hrun := run_make (P := P) w t e inf z hU' hi hz k k2 m n h0 h1 (by rw [hby, Int.mul_comm]; exact h2) h63
      have hzs : z.cells.size = (te e).sz := hzr.len
      refine ⟨_, _, h, OpOut.row hC hn (cap := n.toNat) (cells := madeCells z.cells (n.toNat * inf.size)) ?_ (by rw [size_madeCells, hsz]) (by simp; omega) (by simp only [maxLen]; omega) (by simp) ?_⟩
      · intro i x hx
        rw [List.getElem?_replicate] at hx
        by_cases hil : i < m.toNat
        case neg => rw [if_neg hil] at hx; cases hx
        rw [if_pos hil] at hx
        injection hx with hx
        subst hx
        refine ⟨z, zero_VR' hzr, hzs, fun j u hj => ⟨?_, zero_one w X ι G hzr u (Array.mem_toList_iff.2 (Array.mem_of_getElem? hj))⟩⟩
        have hjs : j < (te e).sz := by rw [← hzs]; exact (Array.getElem?_eq_some_iff.1 hj).1
        rw [hsz, madeCells_get z.cells n.toNat hzs hjs (by omega)]
        exact hj
      · simp only [execOp, ho, hl, hc, Sem.run_bind, hrun]
        rfl
    | _ => exact h.elim
  | _ => exact h.elim

theorem constP_PR {v : Value} {Y : Nat → Prop} (h : v.oneCell' = true) : PR w Y (constP v) v := by
  unfold constP
  split <;> simp_all [PR]
theorem const_VR {v : Value} (h : constOK v = true) : VR w X ι G (.pv (constA v)) v := by
  simp only [VR]
  cases v with
  | agg cs =>
    simp only [constOK] at h
    simp only [constA, PR]
    refine ⟨cs.toList, by simp, ?_⟩
    have : ∀ l : List Value, l.all Value.oneCell' = true → CR w (off X ι G) (l.map constP) l := by
      intro l
      induction l with
      | nil => intro _; simp [CR]
      | cons u l ih =>
        intro h
        simp only [List.all_cons, Bool.and_eq_true] at h
        simp only [List.map_cons, CR]
        exact ⟨u, l, rfl, h.1, constP_PR h.1, ih h.2⟩
    exact this _ h
  | tuple vs => simp [constOK, Value.oneCell'] at h
  | _ => simp only [constA]; refine constP_PR (v := _) ?_; rfl

theorem evs_TV {ev : Operand → Option AV} {a : Act} (hev : ∀ x v, ev x = some v → VR w X ι G v (a.eval x)) : ∀ (l : List Operand) (vs : List AV), evs ev l = some vs → TV w X ι G vs (l.map a.eval)
  | [], vs, h => by simp only [evs, Option.some.injEq] at h; subst h; simp [TV]
  | x :: l, vs, h => by
    simp only [evs] at h
    cases h1 : ev x <;> cases h2 : evs ev l <;> simp [h1, h2] at h
    subst h
    simp only [List.map_cons, TV]
    exact ⟨_, _, rfl, hev x _ h1, evs_TV hev l _ h2⟩
theorem TV_get : ∀ {cs : List AV} {vs : List Value}, TV w X ι G cs vs → ∀ {i : Nat} {c : AV}, cs[i]? = some c → ∃ u, vs[i]? = some u ∧ VR w X ι G c u
  | [], vs, h, i, c, hc => by simp at hc
  | c :: cs, vs, h, 0, c', hc => by
    simp only [TV] at h
    obtain ⟨u, us, rfl, h2, h3⟩ := h
    simp at hc; subst hc
    exact ⟨u, rfl, h2⟩
  | c :: cs, vs, h, i + 1, c', hc => by
    simp only [TV] at h
    obtain ⟨u, us, rfl, h2, h3⟩ := h
    exact TV_get h3 (i := i) (by simpa using hc)

theorem sound_index (hte : ∀ t, TDok P t (te t)) (hC : Conc w X ι G) {o : Oper} {a : Act} {t : TypeId} {ax aix : Operand} (ho : o.op = .index t ax aix) {x ix : AV}
    (hv : VR w X ι G x (a.eval ax)) (hi : VR w X ι G ix (a.eval aix)) {K : DK} (h : dIndex te t x ix K) : ∃ x u, K x u ∧ OpOut P o a w X ι G x u := by
  unfold dIndex at h
  have hU := (hte t).u
  cases hs : (te t).u <;> simp only [hs] at h
  rw [hs] at hU
  have hU' : P.underlying t = some .string := hU
  cases x with
  | pv p =>
    cases p <;> try exact h.elim
    cases ix with
    | pv q =>
      cases q <;> try exact h.elim
      rename_i s k i
      simp only at h
      obtain ⟨⟨h0, h1⟩, h⟩ := h
      simp only [VR, PR] at hv hi
      have hlt : i.toNat < s.size := by omega
      refine ⟨_, _, h, OpOut.same hC (v := .int .u8 (byteAt s i)) ?_ (by simp [VR, PR])⟩
      have hget : s[i.toNat]? = some (s[i.toNat]'hlt) := by simp [hlt]
      have hb : byteAt s i = ((s[i.toNat]'hlt).toNat : Int) := by
        unfold byteAt
        rw [Array.getElem?_eq_getElem (by exact hlt)]
        rfl
      simp [execOp, ho, Instr.index, hv, hi, asIntOf, run_underlying hU', h0, hget, hb]
    | _ => exact h.elim
  | _ => exact h.elim

theorem oev_out {ev : Operand → Option AV} {a : Act} (hev : ∀ x v, ev x = some v → VR w X ι G v (a.eval x)) {x : Option Operand} {K : Option AV → Prop} (h : oev ev x K) :
    (x = none ∧ K none) ∨ ∃ y v, x = some y ∧ VR w X ι G v (a.eval y) ∧ K (some v) := by
  unfold oev at h
  cases x with
  | none => exact .inl ⟨rfl, h⟩
  | some y =>
    simp only at h
    cases hy : ev y <;> simp only [hy] at h
    exact .inr ⟨y, _, rfl, hev y _ hy, h⟩
end
end Go.AM

namespace Go.AM
section
variable {P : Program} {te : TE} {w : World} {X : Nat → Prop} {ι : Io} {G : Own}

/-- A sub-slice, its elements. -/
theorem ER_take : ∀ {xs : List PV} {Y : Nat → Prop} {sz : Nat} {A : Option Addr} {k n : Nat}, ER w Y xs sz A k → ER w Y (xs.take n) sz A k
  | [], _, _, _, _, _, _ => by simp [ER]
  | x :: xs, Y, sz, A, k, 0, _ => by simp [ER]
  | x :: xs, Y, sz, A, k, n + 1, h => by
    simp only [ER, List.take_succ_cons] at h ⊢
    exact ⟨h.1, ER_take h.2⟩
theorem ER_drop : ∀ {xs : List PV} {Y : Nat → Prop} {sz : Nat} {A : Option Addr} {k n : Nat}, ER w Y xs sz A k → ER w Y (xs.drop n) sz A (k + n)
  | [], _, _, _, _, _, _ => by simp [ER]
  | x :: xs, Y, sz, A, k, 0, h => by simpa using h
  | x :: xs, Y, sz, A, k, n + 1, h => by
    simp only [ER] at h
    rw [List.drop_succ_cons]
    have := ER_drop (n := n) h.2
    rwa [show k + 1 + n = k + (n + 1) by omega] at this
theorem ER_shift : ∀ {xs : List PV} {Y : Nat → Prop} {sz : Nat} {A : Option Addr} {k n : Nat}, ER w Y xs sz A (k + n) → ER w Y xs sz (A.map (·.add (n * sz))) k
  | [], _, _, _, _, _, _ => by simp [ER]
  | x :: xs, Y, sz, A, k, n, h => by
    simp only [ER] at h ⊢
    obtain ⟨⟨ad, v, rfl, h1, h2, h3, h4, h5⟩, h6⟩ := h
    refine ⟨⟨ad.add (n * sz), v, rfl, by rw [add_block]; exact h1, by rw [add_block]; exact h2, h3, h4, fun j u hj => ?_⟩, ?_⟩
    · rw [add_add', show n * sz + (k * sz + j) = (k + n) * sz + j by rw [Nat.add_mul]; omega]
      exact h5 j u hj
    · rw [show k + n + 1 = (k + 1) + n by omega] at h6
      exact ER_shift h6

theorem PR_sub {sz l h : Nat} {xs : List PV} {Y : Nat → Prop} {A : Option Addr} {cap : Nat} (hle : xs.length ≤ cap) (hm : cap ≤ maxLen) (he : ER w Y xs sz A 0) (hl : l ≤ h) (hh : h ≤ xs.length) :
    PR w Y (.lst sz ((xs.take h).drop l)) (.slice (if cap = l then A else A.map (·.add (l * sz))) (h - l) (cap - l)) := by
  simp only [PR]
  have hlen : ((xs.take h).drop l).length = h - l := by simp; omega
  refine ⟨_, _, by rw [hlen], by rw [hlen]; omega, by omega, ?_⟩
  by_cases hc : cap = l
  · rw [if_pos hc]
    have : (xs.take h).drop l = [] := by apply List.eq_nil_of_length_eq_zero; omega
    rw [this]; simp [ER]
  · rw [if_neg hc]
    have := ER_drop (n := l) (ER_take (n := h) he)
    exact ER_shift (k := 0) (by simpa using this)

theorem sound_slice (hte : ∀ t, TDok P t (te t)) (hC : Conc w X ι G) {H : Heap} {o : Oper} {a : Act} {t : TypeId} {ax : Operand} {al ah : Option Operand} (ho : o.op = .slice t ax al ah none) {x : AV} {lo hi : Option AV} (hA : Agree H G x)
    (hv : VR w X ι G x (a.eval ax)) (hlo : (al = none ∧ lo = none) ∨ ∃ y v, al = some y ∧ lo = some v ∧ VR w X ι G v (a.eval y)) (hhi : (ah = none ∧ hi = none) ∨ ∃ y v, ah = some y ∧ hi = some v ∧ VR w X ι G v (a.eval y))
    {K : DK} (h : dSlice te H t x lo hi K) : ∃ x u, K x u ∧ OpOut P o a w X ι G x u := by
  unfold dSlice at h
  have hU := (hte t).u
  have fin : ∀ {v : Value} {y : AV}, (Instr.slice t (a.eval ax) (al.map a.eval) (ah.map a.eval) none).run P w = .ok v w → (∀ n e, P.underlying t ≠ some (.array n e)) → (∃ d, P.underlying t = some d) → VR w X ι G y v → OpOut P o a w X ι G y [] := by
    intro v y hr hna ⟨d, hd⟩ hy
    refine OpOut.same hC ?_ hy
    have : (Instr.sliceAt t (a.eval ax) (al.map a.eval) (ah.map a.eval) none).run P w = .ok v w := by
      simp only [Instr.sliceAt, Sem.run_bind, run_underlying hd, Result.andThen_ok]
      cases d <;> first | exact hr | exact absurd hd (hna _ _)
    simp only [execOp, ho, Option.map_none, Sem.run_bind, this]
    rfl
  cases hs : (te t).u <;> simp only [hs] at h
  · -- a string
    rw [hs] at hU
    have hU' : P.underlying t = some .string := hU
    cases x with
    | pv p =>
      cases p <;> try exact h.elim
      rename_i s
      simp only at h
      simp only [VR, PR] at hv
      have go : ∀ {l h' : Nat} {lv hv' : Option Value}, (Instr.sliceBounds false s.size s.size lv hv' none).run P w = .ok (l, h', s.size) w → al.map a.eval = lv → ah.map a.eval = hv' → OpOut P o a w X ι G (.pv (.str (s.extract l h'))) [] := by
        intro l h' lv hv' hb h1 h2
        refine fin (v := .string (s.extract l h')) ?_ (by simp [hU']) ⟨_, hU'⟩ (by simp [VR, PR])
        simp only [Instr.slice, Sem.run_bind, run_underlying hU', Result.andThen_ok, hv, h1, h2]
        simp [hb]
      rcases hlo with ⟨h1, rfl⟩ | ⟨y1, v1, h1, rfl, hv1⟩ <;> rcases hhi with ⟨h2, rfl⟩ | ⟨y2, v2, h2, rfl, hv2⟩
      · exact h.elim
      · cases v2 with
        | pv q =>
          cases q <;> try exact h.elim
          rename_i k2 n2
          obtain ⟨⟨a1, a2⟩, h⟩ := h
          simp only [VR, PR] at hv2
          exact ⟨_, _, h, go (lv := none) (hv' := some (.int k2 n2)) (by simp [Instr.sliceBounds, Instr.sliceBound, asIntOf, a1, a2]) (by simp [h1]) (by simp [h2, hv2])⟩
        | _ => exact h.elim
      · cases v1 with
        | pv q =>
          cases q <;> try exact h.elim
          rename_i k1 n1
          obtain ⟨⟨a1, a2⟩, h⟩ := h
          simp only [VR, PR] at hv1
          exact ⟨_, _, h, go (lv := some (.int k1 n1)) (hv' := none) (by simp [Instr.sliceBounds, Instr.sliceBound, asIntOf, a1, a2]) (by simp [h1, hv1]) (by simp [h2])⟩
        | _ => exact h.elim
      · cases v1 with
        | pv q1 =>
          cases q1 <;> try exact h.elim
          cases v2 with
          | pv q2 =>
            cases q2 <;> try exact h.elim
            rename_i k1 n1 k2 n2
            obtain ⟨⟨a1, a2, a3⟩, h⟩ := h
            simp only [VR, PR] at hv1 hv2
            have b1 : 0 ≤ n2 := by omega
            have b2 : n1 ≤ ((n2.toNat : Nat) : Int) := by omega
            exact ⟨_, _, h, go (lv := some (.int k1 n1)) (hv' := some (.int k2 n2)) (by simp [Instr.sliceBounds, Instr.sliceBound, asIntOf, a1, a3, b1]; omega) (by simp [h1, hv1]) (by simp [h2, hv2])⟩
          | _ => exact h.elim
        | _ => exact h.elim
    | _ => exact h.elim
  · rename_i e
    rw [hs] at hU
    have hU' : P.underlying t = some (.slice e) := hU
    cases x with
    | pv p =>
      cases p <;> try exact h.elim
      rename_i sz xs
      simp only at h
      simp only [VR, PR] at hv
      obtain ⟨A, cap, he, hle, hm, hev⟩ := hv
      cases hz : Nat.beq sz (te e).sz <;> cases hok : (te e).ok <;> simp only [hz, hok] at h
      obtain rfl := Nat.eq_of_beq_eq_true hz
      obtain ⟨inf, z, hi, hsz, _⟩ := (hte e).info hok
      have go : ∀ {l h' : Nat} {lv hv' : Option Value} {q : PV}, (Instr.sliceBounds true xs.length cap lv hv' none).run P w = .ok (l, h', cap) w → al.map a.eval = lv → ah.map a.eval = hv' → l ≤ h' → h' ≤ xs.length → q = .lst (te e).sz ((xs.take h').drop l) → OpOut P o a w X ι G (.pv q) [] := by
        intro l h' lv hv' q hb h1 h2 hl hh hq
        subst hq
        refine fin (v := .slice (if cap = l then A else A.map (·.add (l * (te e).sz))) (h' - l) (cap - l)) ?_ (by simp [hU']) ⟨_, hU'⟩ (by simp only [VR]; exact PR_sub hle hm hev hl hh)
        simp only [Instr.slice, Sem.run_bind, run_underlying hU', Result.andThen_ok, he, h1, h2]
        simp [hb, sizeOf, typeInfo, hi, hsz]
      rcases hlo with ⟨h1, rfl⟩ | ⟨y1, v1, h1, rfl, hv1⟩ <;> rcases hhi with ⟨h2, rfl⟩ | ⟨y2, v2, h2, rfl, hv2⟩
      · exact h.elim
      · cases v2 with
        | pv q =>
          cases q <;> try exact h.elim
          rename_i k2 n2
          obtain ⟨⟨a1, a2⟩, h⟩ := h
          simp only [VR, PR] at hv2
          have a3 : n2 ≤ (cap : Int) := by omega
          exact ⟨_, _, h, go (lv := none) (hv' := some (.int k2 n2)) (l := 0) (h' := n2.toNat) (by simp [Instr.sliceBounds, Instr.sliceBound, asIntOf, a1, a3]) (by simp [h1]) (by simp [h2, hv2]) (by omega) (by omega) (by simp)⟩
        | _ => exact h.elim
      · cases v1 with
        | pv q =>
          cases q <;> try exact h.elim
          rename_i k1 n1
          obtain ⟨⟨a1, a2⟩, h⟩ := h
          simp only [VR, PR] at hv1
          exact ⟨_, _, h, go (lv := some (.int k1 n1)) (hv' := none) (l := n1.toNat) (h' := xs.length) (by simp [Instr.sliceBounds, Instr.sliceBound, asIntOf, a1, a2]) (by simp [h1, hv1]) (by simp [h2]) (by omega) (by omega) (by simp)⟩
        | _ => exact h.elim
      · cases v1 with
        | pv q1 =>
          cases q1 <;> try exact h.elim
          cases v2 with
          | pv q2 =>
            cases q2 <;> try exact h.elim
            rename_i k1 n1 k2 n2
            obtain ⟨⟨a1, a2, a3⟩, h⟩ := h
            simp only [VR, PR] at hv1 hv2
            have b1 : 0 ≤ n2 := by omega
            have b2 : n1 ≤ ((n2.toNat : Nat) : Int) := by omega
            have b3 : n2 ≤ (cap : Int) := by omega
            exact ⟨_, _, h, go (lv := some (.int k1 n1)) (hv' := some (.int k2 n2)) (l := n1.toNat) (h' := n2.toNat) (by simp [Instr.sliceBounds, Instr.sliceBound, asIntOf, a1, b3, b1]; omega) (by simp [h1, hv1]) (by simp [h2, hv2]) (by omega) (by omega) rfl⟩
          | _ => exact h.elim
        | _ => exact h.elim
    | row id n =>
      simp only at h
      have hid := hA id (by simp [idsA])
      simp only [VR] at hv
      obtain ⟨hv1, hv2, hv3⟩ := hv
      cases hok : (te e).ok <;> cases hb : (hget H id).isRow <;> simp only [hok, hb] at h
      rw [← hid] at hb
      obtain ⟨he, hnc⟩ := hv2 hb
      obtain ⟨inf, z, hi, hsz, _⟩ := (hte e).info hok
      rcases hlo with ⟨h1, rfl⟩ | ⟨y1, v1, h1, rfl, hv1'⟩
      · rcases hhi with ⟨h2, rfl⟩ | ⟨y2, v2, h2, rfl, hv2'⟩
        · exact h.elim
        · cases v2 with
          | pv q =>
            cases q <;> try exact h.elim
            rename_i k2 n2
            obtain ⟨⟨a1, a2⟩, h⟩ := h
            simp only [VR, PR] at hv2'
            have a3 : n2 ≤ ((ι id).2 : Int) := by omega
            refine ⟨_, _, h, fin (v := .slice (some ⟨(ι id).1, 0, none⟩) n2.toNat (ι id).2) ?_ (by simp [hU']) ⟨_, hU'⟩ (by unfold VR; exact ⟨hv1, fun _ => ⟨rfl, by omega⟩, rfl⟩)⟩
            simp only [Instr.slice, Sem.run_bind, run_underlying hU', Result.andThen_ok, he, h1, h2]
            simp [Instr.sliceBounds, Instr.sliceBound, asIntOf, a1, a3, hv2', sizeOf, typeInfo, hi, Addr.add]
          | _ => exact h.elim
      · exact h.elim
    | _ => exact h.elim
theorem sound_slice3 (hte : ∀ t, TDok P t (te t)) (hC : Conc w X ι G) {o : Oper} {a : Act} {t : TypeId} {ax ah am : Operand} (ho : o.op = .slice t ax none (some ah) (some am)) {x hi mx : AV}
    (hv : VR w X ι G x (a.eval ax)) (hh : VR w X ι G hi (a.eval ah)) (hm : VR w X ι G mx (a.eval am)) {K : DK} (h : dSlice3 te t x hi mx K) : ∃ x u, K x u ∧ OpOut P o a w X ι G x u := by
  unfold dSlice3 at h
  have hU := (hte t).u
  cases hs : (te t).u <;> simp only [hs] at h
  rename_i e
  rw [hs] at hU
  have hU' : P.underlying t = some (.slice e) := hU
  cases x with
  | pv p =>
    cases p <;> try exact h.elim
    cases hi with
    | pv q =>
      cases q <;> try exact h.elim
      cases mx with
      | pv r =>
        cases r <;> try exact h.elim
        rename_i sz xs k1 n1 k2 n2
        simp only at h
        simp only [VR, PR] at hv hh hm
        obtain ⟨A, cap, he, hle, hmx, hev⟩ := hv
        cases hz : Nat.beq sz (te e).sz <;> cases hok : (te e).ok <;> simp only [hz, hok] at h
        obtain rfl := Nat.eq_of_beq_eq_true hz
        obtain ⟨inf, z, hi', hsz, _⟩ := (hte e).info hok
        obtain ⟨⟨a1, a2, a3⟩, h⟩ := h
        refine ⟨_, _, h, OpOut.same hC (v := .slice (if n2.toNat = 0 then A else A.map (·.add (0 * (te e).sz))) (n1.toNat - 0) (n2.toNat - 0)) ?_ ?_⟩
        · have b1 : 0 ≤ n2 := by omega
          have b2 : n2 ≤ (cap : Int) := by omega
          have b3 : n1 ≤ ((n2.toNat : Nat) : Int) := by omega
          have : (Instr.sliceAt t (a.eval ax) none (some (a.eval ah)) (some (a.eval am))).run P w = .ok (.slice (if n2.toNat = 0 then A else A.map (·.add (0 * (te e).sz))) (n1.toNat - 0) (n2.toNat - 0)) w := by
            simp only [Instr.sliceAt, Instr.slice, Sem.run_bind, run_underlying hU', Result.andThen_ok, he, hh, hm]
            simp [Instr.sliceBounds, Instr.sliceBound, asIntOf, a1, b1, b2, sizeOf, typeInfo, hi', hsz]
            intro h'
            omega
          simp only [execOp, ho, Option.map_none, Option.map_some, Sem.run_bind, this]
          rfl
        · simp only [VR, PR]
          refine ⟨_, _, by rw [List.length_take]; congr 1; omega, by rw [List.length_take]; omega, by omega, ?_⟩
          by_cases hc : n2.toNat = 0
          · rw [if_pos hc]
            exact ER_take hev
          · rw [if_neg hc]
            exact ER_shift (k := 0) (by simpa using ER_take hev)
      | _ => exact h.elim
    | _ => exact h.elim
  | _ => exact h.elim
end
end Go.AM

namespace Go.AM
open Go.MapKept
section
variable {P : Program} {te : TE} {w : World} {X : Nat → Prop} {ι : Io} {G : Own}

/-! ### Maps of strings to true -/
theorem ba_toList {a b : ByteArray} (h : a.toList = b.toList) : a = b := by
  have e : ∀ x : ByteArray, x.toList = x.data.toList := fun x => ByteArray.toList_eq x
  rw [e, e] at h
  cases a; cases b
  congr 1
  exact Array.toList_inj.1 h
theorem memS_iff {s : ByteArray} {ks : List ByteArray} : memS s ks = true ↔ s ∈ ks := by
  unfold memS
  simp only [List.any_eq_true, beq_iff_eq]
  constructor
  · rintro ⟨x, hx, h⟩; rw [ba_toList h]; exact hx
  · intro h; exact ⟨s, h, rfl⟩
theorem MapR.key {es : Array MapEntry} {ks : List ByteArray} (h : MapR es ks) : ∀ x ∈ es.toList, IsKey .string x.key := fun x hx => by
  obtain ⟨s, hs, _⟩ := h.1 x hx
  rw [hs]; simp [IsKey]

theorem sound_makeMap (hte : ∀ t, TDok P t (te t)) (hC : Conc w X ι G) {o : Oper} {a : Act} {t nid : Nat} (hn : (G nid).isNone = true) (ho : o.op = .makeMap t Option.none) {K : DK}
    (h : (match (te t).u with | .smap => K (.bp nid 0) [(nid, .smap [])] | _ => False)) : ∃ x u, K x u ∧ OpOut P o a w X ι G x u := by
  cases hu : (te t).u <;> simp only [hu] at h
  refine ⟨_, _, h, ?_⟩
  have hg := gr_new (w := w) (w' := w.alloc (.map #[] 0)) (ι := ι) (cap := 1) (ab := .smap []) hn (by simp) rfl rfl rfl (fun b hb => alloc_old w _ b hb)
  refine ⟨_, _, _, ioset ι nid (w.heap.size, 1), show _ = Result.ok (.value (.map (some w.heap.size))) (w.alloc (.map #[] 0)) by simp [execOp, ho]; rfl, .inl rfl, ?_, conc_new hC hn (by simp) rfl rfl rfl (fun b hb => alloc_old w _ b hb) ?_, hg⟩
  · simp only [VR, gupd, gset_self]
    exact ⟨rfl, fun _ => by simp [ioset, bval], rfl⟩
  · refine ⟨⟨#[], 0, ?_, ?_⟩, by simp [ioset]⟩
    · simp only [ioset, if_true]; exact alloc_heap w _
    · exact ⟨by simp, by simp⟩

theorem sound_lookup (hte : ∀ t, TDok P t (te t)) (hC : Conc w X ι G) {o : Oper} {a : Act} {t : Nat} {am ak : Operand} (ho : o.op = .lookup t am ak false) (hu : (te t).u = .smap)
    {id o' : Nat} {s : ByteArray} {ks : List ByteArray} (hid : G id = .smap ks) (hm : VR w X ι G (.bp id o') (a.eval am)) (hk : VR w X ι G (.pv (.str s)) (a.eval ak)) :
    OpOut P o a w X ι G (.pv (.bool (memS s ks))) [] := by
  have hU := (hte t).u
  rw [hu] at hU
  obtain ⟨k, e, h1, h2, h3, hz⟩ := hU
  simp only [VR] at hm
  have hbr := hC.br id
  rw [hid] at hbr
  obtain ⟨⟨es, clock, hh, hE⟩, h0⟩ := hbr
  have hm' := hm.2.1 (by rw [hid]; rfl)
  rw [bval_map h0] at hm'
  simp only [VR, PR] at hk
  refine OpOut.same hC (v := .bool (memS s ks)) ?_ (by simp only [VR, PR])
  have hkey : IsKey .string (.string s) := by simp [IsKey]
  rcases findNow_spec hkey es.toList 0 hE.key with ⟨f1, f2⟩ | ⟨j, e', f1, f2, f3⟩
  · have : memS s ks = false := by
      cases hb : memS s ks with
      | false => rfl
      | true =>
        obtain ⟨x, hx, hx'⟩ := (hE.2 s).1 (memS_iff.1 hb)
        exact absurd hx' (f2 x hx)
    rw [this]
    simp [execOp, ho, hm', hk, Instr.lookup, run_underlying h1, MapKept.run_getObj_map hh, run_checkKey h2 hkey, run_findKey h2 f1, hz, Result.andThen]
  · have : memS s ks = true := memS_iff.2 ((hE.2 s).2 ⟨e', List.mem_of_getElem? f2, f3⟩)
    rw [this]
    obtain ⟨s0, g1, g2⟩ := hE.1 e' (List.mem_of_getElem? f2)
    rw [g2] at f1
    simp [execOp, ho, hm', hk, Instr.lookup, run_underlying h1, MapKept.run_getObj_map hh, run_checkKey h2 hkey, run_findKey h2 f1, Result.andThen]

theorem sound_mapUpdate (hte : ∀ t, TDok P t (te t)) (hC : Conc w X ι G) {o : Oper} {a : Act} {t : Nat} {am ak ax : Operand} (ho : o.op = .mapUpdate t am ak ax) (hu : (te t).u = .smap)
    {id o' : Nat} {s : ByteArray} {ks : List ByteArray} (hid : G id = .smap ks) (hm : VR w X ι G (.bp id o') (a.eval am)) (hk : VR w X ι G (.pv (.str s)) (a.eval ak)) (hx : VR w X ι G (.pv (.bool true)) (a.eval ax)) :
    OpOut P o a w X ι G NV [(id, .smap (s :: ks))] := by
  have hU := (hte t).u
  rw [hu] at hU
  obtain ⟨k, e, h1, h2, h3, hz⟩ := hU
  simp only [VR] at hm
  have hbr := hC.br id
  rw [hid] at hbr
  obtain ⟨⟨es, clock, hh, hE⟩, h0⟩ := hbr
  have hm' := hm.2.1 (by rw [hid]; rfl)
  rw [bval_map h0] at hm'
  simp only [VR, PR] at hk hx
  have hkey : IsKey .string (.string s) := by simp [IsKey]
  have fin : ∀ (es' : Array MapEntry) (clock' : Nat), (execOp a.eval o).run P w = .ok .skip { w with heap := w.heap.setIfInBounds (ι id).1 (.map es' clock') } → MapR es' (s :: ks) → OpOut P o a w X ι G NV [(id, .smap (s :: ks))] := by
    intro es' clock' hr hE'
    obtain ⟨hs1, hs2⟩ := heap_set (o' := .map es' clock') hh
    refine ⟨.skip, undef, _, ι, hr, .inr ⟨rfl, rfl⟩, by simp [NV, VR, PR, TR, undef], ?_, ?_⟩
    · exact conc_write hC (by rw [hid]; rfl) rfl (fun _ => by rw [hid]; rfl) (fun h => by cases h) (by simp) rfl rfl rfl (fun b _ hne => hs2 b hne) ⟨⟨es', clock', hs1, hE'⟩, h0⟩
    · exact gr_write (by rw [hid]; rfl) rfl (fun _ => by rw [hid]; rfl) (fun h => by cases h) (by simp) rfl rfl rfl (fun b _ hne => hs2 b hne)
  rcases findNow_spec hkey es.toList 0 hE.key with ⟨f1, f2⟩ | ⟨j, e', f1, f2, f3⟩
  · refine fin (es.push { key := .string s, val := .bool true, born := clock }) (clock + 1) ?_ ⟨?_, ?_⟩
    · simp [execOp, ho, hm', hk, hx, Instr.mapUpdate, run_underlying h1, MapKept.run_getObj_map hh, run_checkKey h2 hkey, run_findKey h2 f1, run_setObj_map _ hh, Result.andThen]
    · intro x hx
      simp only [Array.toList_push, List.mem_append, List.mem_singleton] at hx
      rcases hx with hx | rfl
      · exact hE.1 x hx
      · exact ⟨s, rfl, rfl⟩
    · intro s'
      simp only [Array.toList_push, List.mem_append, List.mem_cons, List.not_mem_nil, or_false]
      constructor
      · rintro (rfl | h)
        · exact ⟨_, .inr rfl, rfl⟩
        · obtain ⟨x, hx, hx'⟩ := (hE.2 s').1 h
          exact ⟨x, .inl hx, hx'⟩
      · rintro ⟨x, hx | rfl, hx'⟩
        · exact .inr ((hE.2 s').2 ⟨x, hx, hx'⟩)
        · exact .inl (by injection hx' with h; exact h.symm)
  · have hj : es[j]? = some e' := by simpa using f2
    refine fin (es.modify j fun e => { e with key := .string s, val := .bool true }) clock ?_ ⟨?_, ?_⟩
    · simp [execOp, ho, hm', hk, hx, Instr.mapUpdate, run_underlying h1, MapKept.run_getObj_map hh, run_checkKey h2 hkey, run_findKey h2 f1, hj, f3, run_keyThatStays hkey, run_setObj_map _ hh, Result.andThen]
    · intro x hx
      obtain ⟨i, hi⟩ := List.mem_iff_getElem?.1 hx
      rw [Array.getElem?_toList, Array.getElem?_modify] at hi
      split at hi
      · subst_vars
        cases h : es[i]? with
        | none => rw [h] at hi; simp at hi
        | some y => rw [h] at hi; simp at hi; subst hi; exact ⟨s, rfl, rfl⟩
      · exact hE.1 x (List.mem_of_getElem? (by simpa using hi))
    · intro s'
      have hkeys : ∀ s', (∃ x ∈ (es.modify j fun e => { e with key := .string s, val := .bool true }).toList, x.key = .string s') ↔ ∃ x ∈ es.toList, x.key = .string s' := by
        intro s'
        have e : (es.modify j fun e => { e with key := .string s, val := .bool true }).toList.map (·.key) = es.toList.map (·.key) := by
          apply List.ext_getElem?
          intro i
          simp only [List.getElem?_map, Array.getElem?_toList, Array.getElem?_modify]
          split
          · subst_vars; rw [hj]; simp [f3]
          · rfl
        constructor
        · rintro ⟨x, hx, h⟩
          have : Value.string s' ∈ es.toList.map (·.key) := by rw [← e, ← h]; exact List.mem_map_of_mem (f := fun e : MapEntry => e.key) hx
          obtain ⟨y, hy, h'⟩ := List.mem_map.1 this
          exact ⟨y, hy, h'⟩
        · rintro ⟨x, hx, h⟩
          have : Value.string s' ∈ (es.modify j fun e => { e with key := .string s, val := .bool true }).toList.map (·.key) := by rw [e, ← h]; exact List.mem_map_of_mem (f := fun e : MapEntry => e.key) hx
          obtain ⟨y, hy, h'⟩ := List.mem_map.1 this
          exact ⟨y, hy, h'⟩
      rw [hkeys, ← hE.2 s']
      constructor
      · intro h
        rcases List.mem_cons.1 h with rfl | h
        · exact (hE.2 s').2 ⟨e', List.mem_of_getElem? f2, f3⟩
        · exact h
      · exact List.mem_cons_of_mem _
end
end Go.AM
