import Derived.Test.YtececigbpmaacaaGreatPkB
import Derived.Lib.AppendStr
import Derived.Laws.BytesString
set_option linter.all false
namespace Go.AM
section
variable {P : Program} {te : TE} {w : World} {X : Nat → Prop} {ι : Io} {G : Own}

theorem isU8_iff {k : IntKind} (h : isU8 k = true) : k = .u8 := by cases k <;> simp_all [isU8]
theorem isZ_iff {n : Int} (h : isZ n = true) : n = 0 := by
  cases n with
  | ofNat m => simp only [isZ] at h; rw [Nat.eq_of_beq_eq_true h]; rfl
  | negSucc m => simp [isZ] at h
theorem byteT_info (w : World) {e : TypeId} (hT : TDok P e (te e)) (h : byteT (te e) = true) : (te e).ok = true ∧ (te e).sz = 1 ∧ ∃ i, P.info? e = some i ∧ i.zero = some (.int .u8 0) ∧ i.size = 1 ∧ i.bytes = 1 := by
  simp only [byteT, Bool.and_eq_true, Bool.not_eq_true'] at h
  obtain ⟨⟨⟨⟨⟨hok, hag⟩, hu⟩, hs⟩, hb⟩, hz⟩ := h
  obtain ⟨i, z, h1, h2, h3, h4, h5⟩ := hT.info hok
  have hs := Nat.eq_of_beq_eq_true hs
  have hb := Nat.eq_of_beq_eq_true hb
  refine ⟨hok, hs, i, h1, ?_, by rw [h2, hs], by rw [h3, hb]⟩
  rw [h4]
  congr 1
  have hc := h5.cells w (fun _ => False)
  split at hz
  · rename_i k n hzz
    simp only [Bool.and_eq_true] at hz
    rw [hzz] at hc
    simp only [CR] at hc
    obtain ⟨u, us, e1, _, e2, e3⟩ := hc
    simp only [PR] at e2
    rw [oneCell_cells (h5.one hag)] at e1
    simp at e1
    rw [← e1.1] at e2
    rw [e2, isU8_iff hz.1, isZ_iff hz.2]
  · cases hz

theorem flat_one : ∀ (us : List Value), (∀ u ∈ us, u.cells = #[u]) → flat us = us
  | [], _ => rfl
  | u :: us, h => by
    simp only [flat]
    rw [h u (List.mem_cons_self ..), flat_one us fun v hv => h v (List.mem_cons_of_mem _ hv)]
    rfl
theorem strCells_cells (b : ByteArray) : ∀ u ∈ Lib.strCells b, u.cells = #[u] := fun u hu => oneCell_cells (Lib.strCells_oneCell b u hu)
theorem flat_str (b : ByteArray) : flat (Lib.strCells b) = Lib.strCells b := flat_one _ (strCells_cells b)
theorem bytesP_len (b : ByteArray) : (bytesP b).length = b.size := by
  rw [bytesP, List.length_map, Array.length_toList]
  rfl
theorem bytes_huu (b : ByteArray) : ∀ (i : Nat) (u : Value), (Lib.strCells b)[i]? = some u → ∃ y, (pvs (bytesP b))[i]? = some y ∧ VR w X ι G y u ∧ u.cells.size = 1 ∧ ∀ (j : Nat) (q : Value), u.cells[j]? = some q → q.oneCell' = true := fun i u hi => by
  have hm : u ∈ Lib.strCells b := List.mem_of_getElem? hi
  have hc := strCells_cells b u hm
  simp only [Lib.strCells, List.getElem?_map, Option.map_eq_some_iff] at hi
  obtain ⟨x, hx, rfl⟩ := hi
  refine ⟨.pv (.int .u8 x.toNat), ?_, by simp only [VR, PR], by rw [hc]; rfl, fun j q hq => ?_⟩
  · rw [pvs_get, bytesP, List.getElem?_map, hx]; rfl
  · rw [hc] at hq
    have := Array.mem_of_getElem? hq
    simp at this
    subst this
    rfl

theorem sound_appS (hte : ∀ t, TDok P t (te t)) (hC : Conc w X ι G) {H : Heap} {o : Oper} {a : Act} {t t' e nid : Nat} {aS ax : Operand} (hn : (G nid).isNone = true)
    (ho : o.op = .call { callee := .builtin .append, args := #[aS, ax], argTypes := #[t, t'] }) (hu : (te t).u = .slice e) (hu2 : (te t').u = .string) {s : AV} {b : ByteArray} (hAs : Agree H G s)
    (hs : VR w X ι G s (a.eval aS)) (hx : a.eval ax = .string b) {K : DK} (h : dAppS te H nid e s b K) : ∃ x u, K x u ∧ OpOut P o a w X ι G x u := by
  unfold dAppS at h
  have hU := (hte t).u
  rw [hu] at hU
  have hu' : P.underlying t = some (.slice e) := hU
  have hU2 := (hte t').u
  rw [hu2] at hU2
  have hu2' : P.underlying t' = some .string := hU2
  cases hbt : byteT (te e) <;> simp only [hbt] at h
  obtain ⟨hok, hsz1, inf, hi, hz, hi1, hi2⟩ := byteT_info w (hte e) hbt
  have fin : ∀ {v' : Value} {w' : World} {ι' : Io} {y : AV} {u : Upd}, (Builtin.append_ #[t, t'] o.type #[a.eval aS, a.eval ax]).run P w = .ok v' w' → VR w' X ι' (gupd G u) y v' → Conc w' X ι' (gupd G u) → Gr w ι G w' ι' (gupd G u) → OpOut P o a w X ι G y u := by
    intro v' w' ι' y u hr hv hC' hG'
    exact ⟨.value v', v', w', ι', by simp [execOp, ho, resolve, invoke, builtin, hr], .inl rfl, hv, hC', hG'⟩
  have hlen := Lib.strCells_length b
  cases s with
  | row id m =>
    simp only at h
    have hid := hAs id (by simp [idsA])
    simp only [VR] at hs
    cases hb : hget H id <;> simp only [hb] at h
    rename_i t0 sz xs
    rw [hb] at hid
    obtain ⟨he, hmc⟩ := hs.2.1 (by rw [hid]; rfl)
    have hbr := hC.br id
    rw [hid] at hbr
    obtain ⟨cells, hh, hcsz, hle, hmx, hev⟩ := hbr
    cases h1 : Nat.beq t0 e <;> cases h2 : Nat.beq sz 1 <;> simp only [h1, h2] at h
    obtain rfl := Nat.eq_of_beq_eq_true h1
    obtain rfl := Nat.eq_of_beq_eq_true h2
    obtain ⟨⟨hmx', hbytes⟩, h⟩ := h
    have hmsz : m * 1 ≤ cells.size := by rw [hcsz]; exact Nat.mul_le_mul_right _ hmc
    have hown : w.ownsRow 0 t0 1 (a.eval aS) m (cells.toList.take (m * 1)) :=
      ⟨by simp; omega, .inr ⟨(ι id).1, (ι id).2, cells, he, Nat.zero_le _, hh, hmc, hmx, hcsz, rfl⟩⟩
    have hlive : (G id).live = true := by rw [hid]; rfl
    obtain ⟨v', w', hr, ho', hg', hnil⟩ := Lib.run_append_own_string (P := P) w 0 t t' o.type t0 inf hu' hu2' hi hz hi1 hi2 (a.eval aS) m _ hown b (by simp only [maxLen]; omega) hbytes (Nat.zero_le _)
    have hnn : v' ≠ .slice none 0 0 := fun e => by have := hnil.1 e; rw [he] at this; simp at this
    have hat : v'.ownBlock = some (ι id).1 ∨ v'.ownBlock = some w.heap.size := by
      by_cases hroom : m + b.size ≤ (ι id).2
      · have := Lib.run_append_room_string (P := P) w t t' o.type t0 inf hu' hu2' hi hi1 (ι id).1 m (ι id).2 cells hh b hroom (by omega)
        rw [← he, hr] at this
        injection this with e1 e2
        rw [e1]; exact .inl rfl
      · have holds : ∀ j u, (cells.toList.take (m * 1))[j]? = some u → w.cell? ((⟨(ι id).1, 0, none⟩ : Addr).add j) = some u := hown.cells (g := (ι id).1) (by rw [he]; rfl)
        have := Lib.run_append_grow_string (P := P) w t t' o.type t0 inf (.int .u8 0) hu' hu2' hi hz ⟨(ι id).1, 0, none⟩ m (ι id).2 _ (by rw [hi1]; simp; omega) holds b (by omega) (by omega) (by rw [hi2]; exact growslice_fits (by omega) (by omega))
        rw [← he, hr] at this
        injection this with e1 e2
        rw [e1]; exact .inr rfl
    rcases ho'.2 with ⟨e1, _⟩ | ⟨g, cap, cur, rfl, _, hgh, hcl, hcm, hcs, htake⟩
    · exact absurd e1 hnn
    have hg : g = (ι id).1 ∨ g = w.heap.size := by
      rcases hat with hat | hat
      · simp [Value.ownBlock] at hat; exact .inl hat
      · simp [Value.ownBlock] at hat; exact .inr hat
    have hold : ∀ b, b < w.heap.size → b ≠ (ι id).1 → w'.heap[b]? = w.heap[b]? := fun b hb hne => hg'.block b hb (by rw [he]; simp [Value.ownBlock]; exact hne)
    have hgr := gr_append (w := w) (w' := w') (ι := ι) (cap := cap) (e := t0) (sz := 1) (zs := appL m xs b.size (pvs (bytesP b))) hlive hn hg'.size hg'.os hg'.tape hg'.output hold hg
    rw [hx] at fin
    refine ⟨_, _, h, fin hr ?_ (conc_append hC hlive hn hg'.size hg'.os hg'.tape hg'.output hold hg ?_) hgr⟩
    · simp only [VR, gupd, gset_self]
      exact ⟨rfl, fun _ => by simp [ioset, hcl], rfl⟩
    · refine ⟨cur, by simp only [ioset, if_true]; exact hgh, by simp only [ioset, if_true]; exact hcs, ?_, by simp only [ioset, if_true]; exact hcm, (EV_append hev hmx' hlen (bytes_huu b) (by rw [flat_str]; exact htake) hmsz).next (hgr.next X)⟩
      simp only [ioset, if_true, appL, List.length_append, List.length_take]
      omega
  | pv p =>
    cases p <;> simp only at h
    simp only [VR, PR] at hs
    obtain ⟨⟨hbytes, hk0⟩, h⟩ := h
    have hown : w.ownsRow 0 e 1 (a.eval aS) 0 [] := by rw [hs]; exact World.ownsRow_nil w 0 e _
    obtain ⟨v', w', hr, ho', hg', hnil⟩ := Lib.run_append_own_string (P := P) w 0 t t' o.type e inf hu' hu2' hi hz hi1 hi2 (a.eval aS) 0 _ hown b (by simp only [maxLen]; omega) (by omega) (Nat.zero_le _)
    have hat : v'.ownBlock = some w.heap.size := by
      have := run_append_nil_string (P := P) w t t' o.type e inf (.int .u8 0) hu' hu2' hi hz b (by omega) (by omega) (by rw [hi2]; omega)
      rw [← hs, hr] at this
      injection this with e1 e2
      rw [e1]; rfl
    rcases ho'.2 with ⟨e1, _⟩ | ⟨g, cap, cur, rfl, _, hgh, hcl, hcm, hcs, htake⟩
    · have := (hnil.1 e1).2; omega
    have hg : g = w.heap.size := by simpa [Value.ownBlock] using hat
    subst hg
    have hlt : w.heap.size < w'.heap.size := (Array.getElem?_eq_some_iff.1 hgh).1
    have hold : ∀ b, b < w.heap.size → w'.heap[b]? = w.heap[b]? := fun b hb => hg'.block b hb (by rw [hs]; simp [Value.ownBlock])
    have hgr := gr_new (w := w) (w' := w') (ι := ι) (cap := cap) (ab := .row e 1 (appL 0 [] b.size (pvs (bytesP b)))) hn hlt hg'.os hg'.tape hg'.output hold
    rw [hx] at fin
    refine ⟨_, _, h, fin hr ?_ (conc_new hC hn hlt hg'.os hg'.tape hg'.output hold ?_) hgr⟩
    · simp only [VR, gupd, gset_self]
      exact ⟨rfl, fun _ => by simp [ioset]; omega, rfl⟩
    · have hev0 : EV w X ι G (#[] : Array Value) 1 [] := fun i x hx => by simp at hx
      refine ⟨cur, by simp only [ioset, if_true]; exact hgh, by simp only [ioset, if_true]; exact hcs, ?_, by simp only [ioset, if_true]; exact hcm, ?_⟩
      · simp only [ioset, if_true, appL, List.length_append, List.length_take]
        simp
        omega
      · exact (EV_append (m := 0) (k := b.size) (us := Lib.strCells b) hev0 (Nat.zero_le _) hlen (bytes_huu b) (by rw [flat_str]; simpa using htake) (by simp)).next (hgr.next X)
  | _ => exact h.elim

/-! ### Bytes as a string -/
theorem strOf_get : ∀ {xs : List AV} {l : List UInt8}, strOf xs = some l → ∃ ns : List Int, xs = ns.map (fun n => AV.pv (.int .u8 n)) ∧ l = ns.map fun n => UInt8.ofNat n.toNat
  | [], l, h => by simp only [strOf, Option.some.injEq] at h; subst h; exact ⟨[], rfl, rfl⟩
  | x :: xs, l, h => by
    cases x with
    | pv p =>
      cases p with
      | int k n =>
        simp only [strOf] at h
        cases hk : isU8 k <;> cases hr : strOf xs <;> simp only [hk, hr] at h <;> try (cases h; done)
        rename_i r
        obtain ⟨ns, h1, h2⟩ := strOf_get hr
        cases h
        exact ⟨n :: ns, by rw [h1, isU8_iff hk]; rfl, by rw [h2]; rfl⟩
      | _ => simp [strOf] at h
    | _ => simp [strOf] at h
theorem push_all : ∀ (ns : List Int) (s : ByteArray), ns.foldl (fun r n => r.push (UInt8.ofNat n.toNat)) s = ⟨(s.data.toList ++ ns.map fun n => UInt8.ofNat n.toNat).toArray⟩
  | [], s => by simp
  | n :: ns, s => by
    simp only [List.foldl_cons]
    rw [push_all ns]
    simp [ByteArray.push]
theorem sound_convS (hte : ∀ t, TDok P t (te t)) (hC : Conc w X ι G) {H : Heap} {o : Oper} {a : Act} {src dst e id n sz t0 : Nat} {ax : Operand} (ho : o.op = .convert src dst ax) (hu : (te src).u = .slice e) (hu2 : (te dst).u = .string)
    (hb : byteT (te e) = true) {xs : List AV} (hg : hget H id = .row t0 sz xs) (hs1 : sz = 1) {l : List UInt8} (hl : strOf (xs.take n) = some l) (hn : n ≤ xs.length) (hA : Agree H G (.row id n)) (hx : VR w X ι G (.row id n) (a.eval ax)) :
    OpOut P o a w X ι G (.pv (.str ⟨l.toArray⟩)) [] := by
  subst hs1
  have hU := (hte src).u
  rw [hu] at hU
  have hu' : P.underlying src = some (.slice e) := hU
  have hU2 := (hte dst).u
  rw [hu2] at hU2
  have hu2' : P.underlying dst = some .string := hU2
  have hue : P.underlying e = some (.int .u8) := by
    have := (hte e).u
    simp only [byteT, Bool.and_eq_true] at hb
    have hk := hb.1.1.1.2
    split at hk
    · rename_i k hk2
      rw [hk2, isU8_iff hk] at this
      exact this
    · cases hk
  have hid := (hA id (by simp [idsA])).trans hg
  simp only [VR] at hx
  obtain ⟨he, hcap⟩ := hx.2.1 (by rw [hid]; rfl)
  have hbr := hC.br id
  rw [hid] at hbr
  obtain ⟨cells, hh, hcsz, hle, hmx, hev⟩ := hbr
  obtain ⟨ns, h1, h2⟩ := strOf_get hl
  have hnl : ns.length = n := by have := congrArg List.length h1; simp at this; omega
  have hcell : ∀ j v, (ns.map (Value.int .u8))[j]? = some v → w.cell? ((⟨(ι id).1, 0, none⟩ : Addr).add j) = some v := fun j v hj => by
    rw [List.getElem?_map, Option.map_eq_some_iff] at hj
    obtain ⟨m, hm, rfl⟩ := hj
    have hjn : j < n := by rw [← hnl]; exact (List.getElem?_eq_some_iff.1 hm).1
    have : xs[j]? = some (.pv (.int .u8 m)) := by
      have e : (xs.take n)[j]? = some (.pv (.int .u8 m)) := by rw [h1, List.getElem?_map, hm]; rfl
      rwa [List.getElem?_take, if_pos hjn] at e
    obtain ⟨v, hv1, hv2, hv3⟩ := hev j _ this
    simp only [VR, PR] at hv1
    subst hv1
    have : cells[j * 1 + 0]? = some (Value.int .u8 m) := (hv3 0 _ rfl).1
    rw [Nat.mul_one, Nat.add_zero] at this
    rw [add_mk, Nat.zero_add, cell_mk hh]
    exact this
  have hr := run_bytesToString (P := P) w ⟨(ι id).1, 0, none⟩ n (ι id).2 ns (by have := run_loadCells_list (P := P) w ⟨(ι id).1, 0, none⟩ (ns.map (Value.int .u8)) hcell; rwa [List.length_map, hnl] at this)
  refine OpOut.same hC (v := .string ⟨l.toArray⟩) ?_ (by simp only [VR, PR])
  rw [push_all] at hr
  have e0 : (ByteArray.empty.data.toList ++ ns.map fun n => UInt8.ofNat n.toNat) = l := by rw [h2]; rfl
  rw [e0] at hr
  simp [execOp, ho, convert, run_underlying hu', run_underlying hu2', run_underlying hue, he, hr]
end
end Go.AM

namespace Go.AM
section
variable {P : Program} {te : TE} {w : World} {X : Nat → Prop} {ι : Io} {G : Own}

theorem agree_none {H : Heap} {p : PV} : Agree H G (.pv p) := fun id h => by simp [idsA] at h

/-- Operations that only compute: the value. -/
theorem same_move {o : Oper} {a : Act} {ax : Operand} (hC : Conc w X ι G) (ho : o.op = .move ax ∨ o.op = .assign ax) {x : AV} (hx : VR w X ι G x (a.eval ax)) : OpOut P o a w X ι G x [] :=
  OpOut.same hC (by rcases ho with ho | ho <;> simp only [execOp, ho] <;> rfl) hx

/-- EVERY OPERATION THAT IS NO CALL OF A FUNCTION. -/
theorem sound_dop (hte : ∀ t, TDok P t (te t)) (hC : Conc w X ι G) {H : Heap} {nid : Nat} (hn : (G nid).isNone = true) {o : Oper} {a : Act} {ev : Operand → Option AV}
    (hev : ∀ x v, ev x = some v → VR w X ι G v (a.eval x)) (hA : ∀ x ∈ lookOf o.op, ∀ v, ev x = some v → Agree H G v) {K : DK} (h : dop te ev H nid o.op K) :
    ∃ x u, K x u ∧ OpOut P o a w X ι G x u := by
  obtain ⟨dst, op, type, pos, after, guard⟩ := o
  simp only at h hA
  cases op <;> try exact h.elim
  case move ax =>
    simp only [dop] at h
    cases hx : ev ax <;> simp only [hx] at h
    exact ⟨_, _, h, same_move hC (.inl rfl) (hev _ _ hx)⟩
  case assign ax =>
    simp only [dop] at h
    cases hx : ev ax <;> simp only [hx] at h
    exact ⟨_, _, h, same_move hC (.inr rfl) (hev _ _ hx)⟩
  case pick c aa ab =>
    simp only [dop] at h
    cases hc : ev c with
    | none => simp [hc] at h
    | some cv =>
      rw [hc] at h
      cases cv with
      | pv p =>
        cases p <;> try exact h.elim
        rename_i bc
        simp only at h
        have hcv := hev _ _ hc
        simp only [VR, PR] at hcv
        cases bc with
        | true =>
          simp only [br, W] at h
          cases hx : ev aa <;> simp only [hx] at h
          exact ⟨_, _, h, OpOut.same hC (by simp only [execOp, hcv, asBool]; rfl) (hev _ _ hx)⟩
        | false =>
          simp only [br, W] at h
          cases hx : ev ab <;> simp only [hx] at h
          exact ⟨_, _, h, OpOut.same hC (by simp only [execOp, hcv, asBool]; rfl) (hev _ _ hx)⟩
      | _ => exact h.elim
  case alloc t => exact sound_alloc hte hC hn rfl h
  case box t ax =>
    simp only [dop] at h
    cases hx : ev ax <;> simp only [hx] at h
    exact sound_box hC hn rfl (hev _ _ hx) h
  case build t parts =>
    simp only [dop] at h
    cases hu : (te t).u <;> cases hok : (te t).ok <;> cases hp : evParts ev parts.toList <;> simp only [hu, hok, hp] at h
    rename_i fs ps
    cases hw : ps.all (fun p => withCellsB p.2) <;> cases hf : fillF fs (pvs (te t).zero) ps <;> simp only [hw, hf] at h
    exact ⟨_, _, h, sound_build hte hC rfl (evParts_vs hev _ _ hp) hu hok hw hf⟩
  case buildSlice t len parts =>
    cases len with
    | zero =>
      simp only [dop] at h
      cases hu : (te t).u <;> cases hp : parts.toList <;> simp only [hu, hp] at h
      rename_i e
      cases hok : (Nat.blt 0 (te e).sz && (te e).ok) <;> simp only [hok] at h
      exact ⟨_, _, h, sound_build0 hte hC hn rfl hp hu hok⟩
    | succ len =>
    simp only [dop] at h
    cases hu : (te t).u <;> cases hp : evParts ev parts.toList <;> simp only [hu, hp] at h
    rename_i e ps
    cases hw : ps.all (fun p => withCellsB p.2 && Nat.beq (lenL (cellsA p.2)) (te e).sz) <;> cases hd : (dense ps 0 && Nat.beq (lenL ps) (len + 1) && Nat.blt 0 (len + 1)) <;> cases hl : Nat.ble ((len + 1) * (te e).sz) 16777216 <;> cases hok : (Nat.blt 0 (te e).sz && (te e).ok) <;> simp only [hw, hd, hl, hok] at h
    exact ⟨_, _, h, sound_buildSlice hte hC hn rfl (evParts_vs hev _ _ hp) hu hw hd hl hok⟩
  case load t aa =>
    simp only [dop] at h
    cases hx : ev aa <;> simp only [hx] at h
    exact sound_load hte hC rfl (hA aa (by simp [lookOf]) _ hx) (hev _ _ hx) h
  case store t aa ax =>
    simp only [dop] at h
    cases h1 : ev aa <;> cases h2 : ev ax <;> simp only [h1, h2] at h
    exact sound_store hte hC rfl (hA aa (by simp [lookOf]) _ h1) (hev _ _ h1) (hev _ _ h2) h
  case nilCheck ax =>
    simp only [dop] at h
    cases hx : ev ax with
    | none => simp [hx] at h
    | some v =>
      rw [hx] at h
      have hv := hev _ _ hx
      have hag := hA ax (by simp [lookOf]) _ hx
      cases v with
      | bp id off =>
        have hid := hag id (by simp [idsA])
        simp only at h
        cases hb : (hget H id).isCell <;> simp only [hb] at h
        rw [← hid] at hb
        obtain ⟨hb, h0⟩ := (hC.br id).cell hb
        have hv' := hv
        simp only [VR, bval_box h0] at hv'
        exact ⟨_, _, h, OpOut.same hC (v := a.eval ax) (by simp only [execOp, hv'.2.1 hb]; rfl) hv⟩
      | rp id i off =>
        have hid := hag id (by simp [idsA])
        simp only at h
        cases hb : (hget H id).isRow <;> simp only [hb] at h
        rw [← hid] at hb
        have hv' := hv
        simp only [VR] at hv'
        exact ⟨_, _, h, OpOut.same hC (v := a.eval ax) (by simp only [execOp, hv'.2.1 hb]; rfl) hv⟩
      | pv p =>
        cases p <;> try exact h.elim
        · have hv' := hv
          simp only [VR, PR] at hv'
          obtain ⟨ad, vs, he, _⟩ := hv'
          exact ⟨_, _, h, OpOut.same hC (v := a.eval ax) (by simp only [execOp, he]; rfl) hv⟩
        · have hv' := hv
          simp only [VR, PR] at hv'
          obtain ⟨vs, he, _⟩ := hv'
          exact ⟨_, _, h, OpOut.same hC (v := a.eval ax) (by simp only [execOp, he]; rfl) hv⟩
      | fn f cs =>
        have hv' := hv
        simp only [VR] at hv'
        obtain ⟨vs, he, _⟩ := hv'
        exact ⟨_, _, h, OpOut.same hC (v := a.eval ax) (by simp only [execOp, he]; rfl) hv⟩
      | _ => exact h.elim
  case binOp op t x y yt =>
    simp only [dop] at h
    cases h1 : ev x <;> cases h2 : ev y <;> simp only [h1, h2] at h
    exact sound_bin hte hC rfl (hev _ _ h1) (hev _ _ h2) h
  case unOp op t x =>
    simp only [dop] at h
    cases hx : ev x with
    | none => cases op <;> simp [hx] at h
    | some v =>
      rw [hx] at h
      have hv := hev _ _ hx
      cases v with
      | pv p =>
        simp only [VR] at hv
        cases op <;> cases p <;> try exact h.elim
        · simp only [PR] at hv
          exact ⟨_, _, h, OpOut.same hC (v := .int _ _) (by simp only [execOp, hv, Op.unary, Op.intArith]; rfl) (by simp only [VR, PR])⟩
        · simp only [PR] at hv
          exact ⟨_, _, h, OpOut.same hC (v := .bool _) (by simp only [execOp, hv, Op.unary]; rfl) (by simp only [VR, PR])⟩
      | _ => cases op <;> exact h.elim
  case convert src dst x =>
    simp only [dop] at h
    have hU1 := (hte src).u
    have hU2 := (hte dst).u
    cases h1 : (te src).u <;> cases h2 : (te dst).u <;> simp only [h1, h2] at h
    rotate_left
    · rename_i e
      cases hx : ev x with
      | none => simp [hx] at h
      | some v =>
        rw [hx] at h
        cases v with
        | row id n =>
          simp only at h
          cases hb : byteT (te e) <;> simp only [hb] at h
          cases hg : hget H id <;> simp only [hg] at h
          rename_i t0 sz xs
          cases hs : Nat.beq sz 1 <;> cases hl : strOf (takeL n xs) <;> simp only [hs, hl] at h
          rw [takeL_eq] at hl
          exact ⟨_, _, h.2, sound_convS hte hC rfl h1 h2 hb hg (Nat.eq_of_beq_eq_true hs) hl h.1 (hA x (by simp [lookOf]) _ hx) (hev _ _ hx)⟩
        | _ => exact h.elim
    rw [h1] at hU1
    rw [h2] at hU2
    rename_i k1 k2
    cases hx : ev x with
    | none => simp [hx] at h
    | some v =>
      rw [hx] at h
      have hv := hev _ _ hx
      cases v with
      | pv p =>
        cases p <;> try exact h.elim
        rename_i k3 n
        simp only [VR, PR] at hv
        refine ⟨_, _, h, OpOut.same hC (v := .int k2 (k2.wrap n)) ?_ (by simp only [VR, PR])⟩
        have e1 : P.underlying src = some (.int k1) := hU1
        have e2 : P.underlying dst = some (.int k2) := hU2
        simp [execOp, hv, convert, run_underlying e1, run_underlying e2, Conv.intToInt]
      | _ => exact h.elim
  case makeFunc fn first caps =>
    simp only [dop] at h
    cases fn <;> try exact h.elim
    rename_i g
    simp only at h
    cases h1 : first.toList <;> cases h2 : evs ev caps.toList <;> simp only [h1, h2] at h
    have he : first = #[] := by simpa using h1
    subst he
    refine ⟨_, _, h, OpOut.same hC (v := .func (.func g) #[] (caps.map a.eval)) (by simp [execOp, Instr.makeFunc]) ?_⟩
    have := VR_fn (f := g) (evs_TV hev _ _ h2)
    have e : (caps.toList.map a.eval).toArray = caps.map a.eval := by rw [← Array.toList_map]
    rwa [e] at this
  case makeMap t r =>
    cases r with
    | some _ => exact h.elim
    | none => exact sound_makeMap hte hC hn rfl h
  case lookup t m k ok =>
    cases ok with
    | true => exact h.elim
    | false =>
      simp only [dop] at h
      split at h
      · rename_i id o' s hu hm hk
        split at h
        · rename_i ks hb
          exact ⟨_, _, h, sound_lookup hte hC rfl hu (by rw [hA m (by simp [lookOf]) _ hm id (by simp [idsA]), hb]) (hev _ _ hm) (hev _ _ hk)⟩
        · exact h.elim
      · exact h.elim
  case mapUpdate t m k x =>
    simp only [dop] at h
    split at h
    · rename_i id o' s hu hm hk hx
      split at h
      · rename_i ks hb
        exact ⟨_, _, h, sound_mapUpdate hte hC rfl hu (by rw [hA m (by simp [lookOf]) _ hm id (by simp [idsA]), hb]) (hev _ _ hm) (hev _ _ hk) (hev _ _ hx)⟩
      · exact h.elim
    · exact h.elim
  case makeSlice t l c =>
    simp only [dop] at h
    cases h1 : ev l <;> cases h2 : ev c <;> simp only [h1, h2] at h
    exact sound_make hte hC hn rfl (hev _ _ h1) (hev _ _ h2) h
  case slice t x lo hi mx =>
    cases mx with
    | some m =>
      cases lo <;> cases hi <;> simp only [dop] at h
      rename_i hi
      cases h1 : ev x <;> cases h2 : ev hi <;> cases h3 : ev m <;> simp only [h1, h2, h3] at h
      exact sound_slice3 hte hC rfl (hev _ _ h1) (hev _ _ h2) (hev _ _ h3) h
    | none =>
      simp only [dop] at h
      cases hx : ev x <;> simp only [hx] at h
      rcases oev_out hev h with ⟨h1, h⟩ | ⟨y1, v1, h1, hv1, h⟩ <;> rcases oev_out hev h with ⟨h2, h⟩ | ⟨y2, v2, h2, hv2, h⟩
      · exact sound_slice hte hC rfl (hA x (by simp [lookOf]) _ hx) (hev _ _ hx) (.inl ⟨h1, rfl⟩) (.inl ⟨h2, rfl⟩) h
      · exact sound_slice hte hC rfl (hA x (by simp [lookOf]) _ hx) (hev _ _ hx) (.inl ⟨h1, rfl⟩) (.inr ⟨y2, v2, h2, rfl, hv2⟩) h
      · exact sound_slice hte hC rfl (hA x (by simp [lookOf]) _ hx) (hev _ _ hx) (.inr ⟨y1, v1, h1, rfl, hv1⟩) (.inl ⟨h2, rfl⟩) h
      · exact sound_slice hte hC rfl (hA x (by simp [lookOf]) _ hx) (hev _ _ hx) (.inr ⟨y1, v1, h1, rfl, hv1⟩) (.inr ⟨y2, v2, h2, rfl, hv2⟩) h
  case fieldAddr s ax f =>
    simp only [dop] at h
    cases hx : ev ax <;> simp only [hx] at h
    exact sound_field hte hC rfl (hA ax (by simp [lookOf]) _ hx) (hev _ _ hx) h
  case field t x f =>
    simp only [dop] at h
    have hU := (hte t).u
    cases hu : (te t).u <;> simp only [hu] at h
    rename_i fs
    rw [hu] at hU
    obtain ⟨fields, hund, hF⟩ := hU
    cases hx : ev x with
    | none => simp [hx] at h
    | some v =>
      rw [hx] at h
      have hv := hev _ _ hx
      cases v with
      | pv p =>
        cases p <;> try exact h.elim
        rename_i cs
        simp only at h
        rw [nthO_eq] at h
        cases hn' : fs[f]? with
        | none => simp [hn'] at h
        | some q =>
          obtain ⟨off, sz, ag⟩ := q
          simp only [hn'] at h
          obtain ⟨fd, hfd, hoff, ⟨i, hi, hisz⟩, hnz, hag⟩ := FOk_get hF hn'
          have hfd' : fields[f]? = some fd := by simpa using hfd
          simp only [VR, PR] at hv
          obtain ⟨vs, he, hcr⟩ := hv
          have hcv := CR_CV.1 hcr
          cases ag with
          | false =>
            simp only at h
            rw [nthO_eq] at h
            cases hc : cs[off]? with
            | none => simp [hc] at h
            | some c =>
              simp only [hc] at h
              obtain ⟨u, hu1, hu2, hu3⟩ := CV_get hcv (i := off) (c := .pv c) (by rw [pvs_get, hc]; rfl)
              refine ⟨_, _, h, OpOut.same hC (v := u) ?_ hu3⟩
              simp [execOp, Instr.field, run_underlying hund, hfd', he, asAgg, Go.part, hag, hoff, hu1]
          | true =>
            simp only at h
            rw [takeL_eq, dropL_eq] at h
            refine ⟨_, _, h, OpOut.same hC (v := .agg (vs.toArray.extract off (off + sz))) ?_ ?_⟩
            · simp [execOp, Instr.field, run_underlying hund, hfd', he, asAgg, Go.part, hag, hoff, sizeOf, typeInfo, hi, hisz]
            · simp only [VR, PR]
              refine ⟨(vs.drop off).take sz, ?_, ?_⟩
              · congr 1
                simp
              · have := CV_take sz (CV_drop off hcv)
                have e : ∀ (n : Nat) (l : List PV), (pvs l).drop n = pvs (l.drop n) := by
                  intro n
                  induction n with
                  | zero => intro l; simp
                  | succ n ih => intro l; cases l with
                    | nil => simp [pvs]
                    | cons q l => simpa [pvs] using ih l
                have e2 : ∀ (n : Nat) (l : List PV), (pvs l).take n = pvs (l.take n) := by
                  intro n
                  induction n with
                  | zero => intro l; simp [pvs]
                  | succ n ih => intro l; cases l with
                    | nil => simp [pvs]
                    | cons q l => simpa [pvs] using ih l
                rw [e, e2] at this
                exact CR_CV.2 this
      | _ => exact h.elim
  case indexAddr t x ix =>
    simp only [dop] at h
    cases h1 : ev x <;> cases h2 : ev ix <;> simp only [h1, h2] at h
    exact sound_indexAddr hte hC rfl (hA x (by simp [lookOf]) _ h1) (hev _ _ h1) (hev _ _ h2) h
  case index t x ix =>
    simp only [dop] at h
    cases h1 : ev x <;> cases h2 : ev ix <;> simp only [h1, h2] at h
    exact sound_index hte hC rfl (hev _ _ h1) (hev _ _ h2) h
  case extract x i =>
    simp only [dop] at h
    cases hx : ev x with
    | none => simp [hx] at h
    | some v =>
      rw [hx] at h
      have hv := hev _ _ hx
      cases v with
      | pv p =>
        cases p <;> try exact h.elim
        rename_i vs
        simp only at h
        rw [nthO_eq] at h
        cases hc : vs[i]? with
        | none => simp [hc] at h
        | some c =>
          simp only [hc] at h
          simp only [VR, PR] at hv
          obtain ⟨us, he, hT⟩ := hv
          obtain ⟨u, hu1, hu2⟩ := TV_get (TR_TV.1 hT) (i := i) (c := .pv c) (by rw [pvs_get, hc]; rfl)
          exact ⟨_, _, h, OpOut.same hC (v := u) (by simp [execOp, he, Instr.extract, hu1]) hu2⟩
      | tup vs =>
        simp only at h
        rw [nthO_eq] at h
        cases hc : vs[i]? with
        | none => simp [hc] at h
        | some c =>
          simp only [hc] at h
          simp only [VR] at hv
          obtain ⟨us, he, hT⟩ := hv
          obtain ⟨u, hu1, hu2⟩ := TV_get hT hc
          exact ⟨_, _, h, OpOut.same hC (v := u) (by simp [execOp, he, Instr.extract, hu1]) hu2⟩
      | _ => exact h.elim
  case call c =>
    obtain ⟨callee, args, argTypes⟩ := c
    cases callee <;> try exact h.elim
    rename_i b
    have arr1 : ∀ {α : Type} {l : Array α} {x : α}, l.toList = [x] → l = #[x] := fun {α l x} h => by cases l; simpa using h
    have arr2 : ∀ {α : Type} {l : Array α} {x y : α}, l.toList = [x, y] → l = #[x, y] := fun {α l x y} h => by cases l; simpa using h
    simp only [dop, dBuiltin] at h
    split at h
    · rename_i x t h1 h2
      obtain rfl := arr1 h1
      obtain rfl := arr1 h2
      cases hx : ev x <;> simp only [hx] at h
      exact sound_len hte hC rfl (hA x (by simp [lookOf]) _ hx) (hev _ _ hx) h
    · rename_i x y t1 t2 h1 h2
      obtain rfl := arr2 h1
      obtain rfl := arr2 h2
      split at h
      · rename_i k m k' n hx hy
        obtain rfl := (kSame_iff.1 h).1
        replace h := (kSame_iff.1 h).2
        have hx := hev _ _ hx
        have hy := hev _ _ hy
        simp only [VR, PR] at hx hy
        exact ⟨_, _, h, OpOut.same hC (v := .int k (if n < m then n else m)) (by simp [execOp, resolve, invoke, builtin, Builtin.min_, Builtin.min2, hx, hy]) (by simp only [VR, PR])⟩
      · exact h.elim
    · rename_i x y t1 t2 h1 h2
      obtain rfl := arr2 h1
      obtain rfl := arr2 h2
      split at h
      · rename_i k m k' n hx hy
        obtain rfl := (kSame_iff.1 h).1
        replace h := (kSame_iff.1 h).2
        have hx := hev _ _ hx
        have hy := hev _ _ hy
        simp only [VR, PR] at hx hy
        exact ⟨_, _, h, OpOut.same hC (v := .int k (if m < n then n else m)) (by simp [execOp, resolve, invoke, builtin, Builtin.max_, Builtin.max2, hx, hy]) (by simp only [VR, PR])⟩
      · exact h.elim
    · rename_i s x t1 t2 h1 h2
      obtain rfl := arr2 h1
      obtain rfl := arr2 h2
      cases ht : Nat.beq t1 t2 <;> simp only [ht] at h
      · split at h
        · rename_i h1 h2 hs hx
          have hx' := hev _ _ hx
          simp only [VR, PR] at hx'
          exact sound_appS hte hC hn rfl h1 h2 (hA s (by simp [lookOf]) _ hs) (hev _ _ hs) hx' h
        · exact h.elim
      obtain rfl := Nat.eq_of_beq_eq_true ht
      split at h
      · rename_i s' x' hs hx
        exact sound_append hte hC hn rfl (hA s (by simp [lookOf]) _ hs) (hA x (by simp [lookOf]) _ hx) (hev _ _ hs) (hev _ _ hx) h
      · exact h.elim
    · exact h.elim
end
end Go.AM

namespace Go.AM

inductive Ex where
  | normal
  | exit (id : Nat)
  | ret
abbrev Post := Fr → Heap → Prop

/-- What is proved of: the program, its types' table, how many blocks came in. -/
structure Env where
  P : Program
  te : TE
  hte : ∀ t, TDok P t (te t)
  m : Nat

abbrev Fn := Nat → Option AV
def fnset (F : Fn) (d : Option Nat) (v : AV) : Fn := match d with | some d => fun e => if e = d then some v else F e | Option.none => F
def fput (fr : Fr) (d : Option Nat) (v : AV) : Fr := match d with | some d => (d, v) :: fr | Option.none => fr

/-- A call told outright: its result, what becomes of the blocks; T: the blocks it looks at or writes. -/
structure ADet (P : Program) (f : FuncId) (vs : List AV) (H : Heap) (x : AV) (u : Upd) (T : List Nat) : Prop where
  enters : Go.Proofs.Enters P f
  ids : ∀ p ∈ u, p.1 ∈ T
  calls : ∀ w X ι G (us : List Value), Conc w X ι G → (∀ id ∈ T, G id = hget H id) → TV w X ι G vs us →
    Calls P f us.toArray w fun e w' => ∃ v ι', e = .returned v ∧ VR w' X ι' (gupd G u) x v ∧ Conc w' X ι' (gupd G u) ∧ Gr w ι G w' ι' (gupd G u)

inductive ACall (P : Program) (g : FuncId) (vs : List AV) (H : Heap) (K : AV → Upd → List Nat → Prop) : Prop
  | mk (x : AV) (u : Upd) (T : List Nat) (h : ADet P g vs H x u T) (k : K x u T)

def uids : Upd → List Nat
  | [] => []
  | (i, _) :: u => i :: uids u
def appN : List Nat → List Nat → List Nat
  | [], l => l
  | a :: k, l => a :: appN k l
def touchL (ev : Operand → Option AV) : List Operand → List Nat
  | [] => []
  | x :: l => match ev x with | some v => appN (idsA v) (touchL ev l) | Option.none => touchL ev l
def opersOf : Op → List Operand
  | .move x | .assign x | .box _ x | .load _ x | .nilCheck x | .unOp _ _ x | .convert _ _ x | .fieldAddr _ x _ | .field _ x _ | .extract x _ => [x]
  | .pick c a b => [c, a, b]
  | .build _ ps | .buildSlice _ _ ps => ps.toList.map (·.2)
  | .store _ a v | .binOp _ _ a v _ | .makeSlice _ a v | .indexAddr _ a v | .index _ a v => [a, v]
  | .makeFunc _ first captured => first.toList ++ captured.toList
  | .slice _ x l h m => [x] ++ l.toList ++ h.toList ++ m.toList
  | .lookup _ m k _ => [m, k]
  | .mapUpdate _ m k x => [m, k, x]
  | .call { callee := .builtin _, args, .. } => args.toList
  | .call { callee := .value f, args, .. } => f :: args.toList
  | _ => []

/-- Does it make a block? -/
def usesNid : Op → Bool
  | .alloc _ | .box _ _ | .buildSlice .. | .makeSlice .. | .makeMap .. | .call { callee := .builtin .append, .. } => true
  | _ => false
def aop (E : Env) (ev : Operand → Option AV) (H : Heap) (o : Op) (K : AV → Upd → List Nat → Prop) : Prop :=
  match o with
  | .call { callee := .value f, args, .. } => match ev f, evs ev args.toList with
    | some (.pv (.fn g caps)), some vs => ACall E.P g (vs ++ pvs caps) H K
    | some (.fn g caps), some vs => ACall E.P g (vs ++ caps) H K
    | _, _ => False
  | o => dop E.te ev H (hlen H) o fun x u => K x u (match usesNid o with | true => hlen H :: appN (uids u) (touchL ev (lookOf o)) | false => appN (uids u) (touchL ev (lookOf o)))

/-- Is the operation wanted? The guard's slot is then known. -/
def vguard (ops : List Oper) (o : Oper) (fr : Fr) (Y N : Fr → Prop) : Prop :=
  match o.guard with
  | Option.none => Y fr
  | some (g, want) => match nthO ops g with
    | some og => match og.dst with
      | some d => match fget fr d with
        | some (.pv (.bool b)) => (match want with
          | true => br b (Y ((d, .pv (.bool true)) :: fr)) (N ((d, .pv (.bool false)) :: fr))
          | false => br b (N ((d, .pv (.bool true)) :: fr)) (Y ((d, .pv (.bool false)) :: fr)))
        | some (.pv (.tuple [])) => N fr
        | _ => False
      | Option.none => False
    | Option.none => False

abbrev Trace := List (List Nat × List Nat)

def vops (E : Env) (ops : List Oper) : List Oper → Trace → (Trace → Post) → Post
  | [], tr, K => fun fr H => K tr fr H
  | o :: rest, tr, K => fun fr H => vguard ops o fr
      (fun fr => aop E (opd fr) H o.op fun x u T => vops E ops rest ((T, uids u) :: tr) K (fput fr o.dst x) (hupd H u))
      (fun fr => vops E ops rest (([], []) :: tr) K (fput fr o.dst NV) H)

def memN (a : Nat) : List Nat → Bool
  | [] => false
  | b :: l => match Nat.beq a b with | true => true | false => memN a l
def meetN : List Nat → List Nat → Bool
  | [], _ => false
  | a :: l, k => match memN a k with | true => true | false => meetN l k
def revL {α : Type} : List α → List α → List α
  | [], k => k
  | a :: l, k => revL l (a :: k)

/-- The edges that bind. -/
def bindsE (e : Edge) : Bool := match e.ground with | .textOnly _ => false | .gcOnly _ => false | _ => true
/-- What comes before, of the operations so far (newest first, n of them): for each the list of those surely before it. -/
def ancE (anc : List (List Nat)) (n : Nat) : List Edge → List Nat
  | [] => []
  | e :: l => match bindsE e with
    | true => e.on :: appN (match nthO anc (Nat.sub n (Nat.succ e.on)) with | some k => k | Option.none => []) (ancE anc n l)
    | false => ancE anc n l
def edgesLt (n : Nat) : List Edge → Bool
  | [] => true
  | e :: l => match bindsE e with
    | true => (match Nat.blt e.on n with | true => edgesLt n l | false => false)
    | false => edgesLt n l
def tmpsL : List Operand → List Nat
  | [] => []
  | .tmp t :: l => t :: tmpsL l
  | _ :: l => tmpsL l
def lookL (ops : List Oper) (o : Oper) : List Nat :=
  match o.guard with
  | Option.none => tmpsL (opersOf o.op)
  | some (g, _) => match nthO ops g with
    | some og => (match og.dst with | some d => d :: tmpsL (opersOf o.op) | Option.none => tmpsL (opersOf o.op))
    | Option.none => tmpsL (opersOf o.op)
def dstL (o : Oper) : List Nat := match o.dst with | some d => [d] | Option.none => []

structure OpI where
  look : List Nat
  dst : List Nat
  T : List Nat
  U : List Nat
def clash (x y : OpI) : Bool :=
  meetN x.dst y.look || meetN x.dst y.dst || meetN y.dst x.look || meetN x.U y.T || meetN x.U y.U || meetN y.U x.T
/-- The earlier ones (newest first, the newest has the number n - 1): whichever clashes is surely before. -/
def okPast (y : OpI) (anc : List Nat) : List OpI → Bool
  | [] => true
  | x :: past => match clash x y with
    | true => (match memN (lenL past) anc with | true => okPast y anc past | false => false)
    | false => okPast y anc past
def okDrawGo (ops : List Oper) : List Oper → Trace → List OpI → List (List Nat) → Bool
  | [], _, _, _ => true
  | o :: rest, tr, past, ancs => match tr with
    | [] => false
    | (T, U) :: tr =>
      (match edgesLt (lenL past) o.after.toList, okPast ⟨lookL ops o, dstL o, T, U⟩ (ancE ancs (lenL past) o.after.toList) past with
       | true, true => okDrawGo ops rest tr (⟨lookL ops o, dstL o, T, U⟩ :: past) (ancE ancs (lenL past) o.after.toList :: ancs)
       | _, _ => false)
def okDraw (ops : List Oper) (tr : Trace) : Bool := okDrawGo ops ops (revL tr []) [] []

/-! ### The same, with sets as bits: quick to check -/
def mkM : List Nat → Nat
  | [] => 0
  | a :: l => Nat.lor (Nat.pow 2 a) (mkM l)
theorem testBit_mkM : ∀ (l : List Nat) (a : Nat), (mkM l).testBit a = memN a l
  | [], a => by simp [mkM, memN]
  | b :: l, a => by
    have e : mkM (b :: l) = 2 ^ b ||| mkM l := rfl
    rw [e, Nat.testBit_or, testBit_mkM l a, Nat.testBit_two_pow]
    simp only [memN]
    cases hb : Nat.beq a b with
    | true => have := Nat.eq_of_beq_eq_true hb; subst this; simp
    | false =>
      have hne : ¬ b = a := fun h => by subst h; simp at hb
      simp [hne]
def meetM (x y : Nat) : Bool := match Nat.beq (Nat.land x y) 0 with | true => false | false => true
theorem meetM_eq (l k : List Nat) : meetM (mkM l) (mkM k) = meetN l k := by
  have key : meetN l k = true ↔ ∃ a, memN a l = true ∧ memN a k = true := by
    induction l with
    | nil => simp [meetN, memN]
    | cons b l ih =>
      simp only [meetN]
      cases hb : memN b k with
      | true => simp only [true_iff]; exact ⟨b, by simp [memN], hb⟩
      | false =>
        simp only [ih]
        constructor
        · rintro ⟨a, h1, h2⟩
          refine ⟨a, ?_, h2⟩
          simp only [memN]; split <;> first | rfl | exact h1
        · rintro ⟨a, h1, h2⟩
          refine ⟨a, ?_, h2⟩
          simp only [memN] at h1
          split at h1
          · rename_i he; have := Nat.eq_of_beq_eq_true he; subst this; rw [hb] at h2; cases h2
          · exact h1
  unfold meetM
  cases h : Nat.beq (Nat.land (mkM l) (mkM k)) 0 with
  | true =>
    have h0 : mkM l &&& mkM k = 0 := Nat.eq_of_beq_eq_true h
    cases hm : meetN l k with
    | false => rfl
    | true =>
      obtain ⟨a, h1, h2⟩ := key.1 hm
      have := congrArg (fun n => Nat.testBit n a) h0
      simp [Nat.testBit_and, testBit_mkM, h1, h2] at this
  | false =>
    cases hm : meetN l k with
    | true => rfl
    | false =>
      exfalso
      have : mkM l &&& mkM k = 0 := by
        apply Nat.eq_of_testBit_eq
        intro a
        rw [Nat.testBit_and, testBit_mkM, testBit_mkM, Nat.zero_testBit]
        cases h1 : memN a l <;> cases h2 : memN a k <;> try rfl
        have := key.2 ⟨a, h1, h2⟩
        rw [hm] at this; cases this
      have h' : Nat.beq (Nat.land (mkM l) (mkM k)) 0 = true := by
        have e : Nat.land (mkM l) (mkM k) = 0 := this
        rw [e]; rfl
      rw [h] at h'; cases h'
def hasM (x a : Nat) : Bool := match Nat.beq (Nat.mod (Nat.div x (Nat.pow 2 a)) 2) 0 with | true => false | false => true
theorem hasM_eq (l : List Nat) (a : Nat) : hasM (mkM l) a = memN a l := by
  rw [← testBit_mkM]
  unfold hasM
  have e : (mkM l).testBit a = decide (mkM l / 2 ^ a % 2 = 1) := Nat.testBit_eq_decide_div_mod_eq
  rw [e]
  have h2 : mkM l / 2 ^ a % 2 = 0 ∨ mkM l / 2 ^ a % 2 = 1 := by omega
  have e3 : Nat.mod (Nat.div (mkM l) (Nat.pow 2 a)) 2 = mkM l / 2 ^ a % 2 := rfl
  rw [e3]
  rcases h2 with h | h <;> rw [h] <;> rfl
structure OpM where
  look : Nat
  dst : Nat
  T : Nat
  U : Nat
def OpI.m (x : OpI) : OpM := ⟨mkM x.look, mkM x.dst, mkM x.T, mkM x.U⟩
def clashM (x y : OpM) : Bool :=
  meetM x.dst y.look || meetM x.dst y.dst || meetM y.dst x.look || meetM x.U y.T || meetM x.U y.U || meetM y.U x.T
theorem clashM_eq (x y : OpI) : clashM x.m y.m = clash x y := by simp only [clashM, clash, OpI.m, meetM_eq]
def okPastM (y : OpM) (anc : Nat) : List OpM → Nat → Bool
  | [], _ => true
  | x :: past, n => match clashM x y with
    | true => (match hasM anc (Nat.pred n) with | true => okPastM y anc past (Nat.pred n) | false => false)
    | false => okPastM y anc past (Nat.pred n)
theorem lenL_map {α β : Type} (f : α → β) : ∀ l : List α, lenL (l.map f) = lenL l
  | [] => rfl
  | _ :: l => by simp only [List.map_cons, lenL, lenL_map f l]
theorem okPastM_eq (y : OpI) (anc : List Nat) : ∀ past : List OpI, okPastM y.m (mkM anc) (past.map OpI.m) (lenL past) = okPast y anc past
  | [] => rfl
  | x :: past => by
    simp only [List.map_cons, okPastM, okPast, clashM_eq, lenL, Nat.pred_succ, hasM_eq, okPastM_eq y anc past]
def ancM (anc : List Nat) (n : Nat) : List Edge → Nat
  | [] => 0
  | e :: l => match bindsE e with
    | true => Nat.lor (Nat.pow 2 e.on) (Nat.lor (match nthO anc (Nat.sub n (Nat.succ e.on)) with | some k => k | Option.none => 0) (ancM anc n l))
    | false => ancM anc n l
theorem mkM_app : ∀ l k : List Nat, mkM (appN l k) = Nat.lor (mkM l) (mkM k)
  | [], k => by show mkM k = 0 ||| mkM k; simp
  | a :: l, k => by
    show 2 ^ a ||| mkM (appN l k) = (2 ^ a ||| mkM l) ||| mkM k
    rw [mkM_app l k, Nat.or_assoc]; rfl
theorem nthO_map {α β : Type} (f : α → β) : ∀ (l : List α) (i : Nat), nthO (l.map f) i = (match nthO l i with | some x => some (f x) | Option.none => Option.none)
  | [], _ => rfl
  | _ :: _, 0 => rfl
  | _ :: l, i + 1 => by simp only [List.map_cons, nthO, nthO_map f l i]
theorem ancM_eq (ancs : List (List Nat)) (n : Nat) : ∀ l : List Edge, ancM (ancs.map mkM) n l = mkM (ancE ancs n l)
  | [] => rfl
  | e :: l => by
    simp only [ancM, ancE]
    cases bindsE e with
    | false => exact ancM_eq ancs n l
    | true =>
      simp only [mkM, mkM_app, ancM_eq ancs n l, nthO_map]
      cases nthO ancs (Nat.sub n (Nat.succ e.on)) <;> rfl
def okDrawGoM (ops : List Oper) : List Oper → Trace → List OpM → List Nat → Nat → Bool
  | [], _, _, _, _ => true
  | o :: rest, tr, past, ancs, n => match tr with
    | [] => false
    | (T, U) :: tr =>
      (match edgesLt n o.after.toList, okPastM ⟨mkM (lookL ops o), mkM (dstL o), mkM T, mkM U⟩ (ancM ancs n o.after.toList) past n with
       | true, true => okDrawGoM ops rest tr (⟨mkM (lookL ops o), mkM (dstL o), mkM T, mkM U⟩ :: past) (ancM ancs n o.after.toList :: ancs) (Nat.succ n)
       | _, _ => false)
theorem okDrawGoM_eq (ops : List Oper) : ∀ (rest : List Oper) (tr : Trace) (past : List OpI) (ancs : List (List Nat)), okDrawGoM ops rest tr (past.map OpI.m) (ancs.map mkM) (lenL past) = okDrawGo ops rest tr past ancs
  | [], _, _, _ => rfl
  | o :: rest, tr, past, ancs => by
    cases tr with
    | nil => rfl
    | cons p tr =>
      obtain ⟨T, U⟩ := p
      simp only [okDrawGoM, okDrawGo]
      have e := okPastM_eq ⟨lookL ops o, dstL o, T, U⟩ (ancE ancs (lenL past) o.after.toList) past
      simp only [OpI.m] at e
      rw [ancM_eq, e]
      cases edgesLt (lenL past) o.after.toList <;> cases okPast ⟨lookL ops o, dstL o, T, U⟩ (ancE ancs (lenL past) o.after.toList) past <;> try rfl
      simp only
      rw [← okDrawGoM_eq ops rest tr (⟨lookL ops o, dstL o, T, U⟩ :: past) (ancE ancs (lenL past) o.after.toList :: ancs)]
      simp only [List.map_cons, OpI.m, lenL]
def okDrawM (ops : List Oper) (tr : Trace) : Bool := okDrawGoM ops ops (revL tr []) [] [] 0
theorem okDrawM_eq (ops : List Oper) (tr : Trace) : okDrawM ops tr = okDraw ops tr := okDrawGoM_eq ops ops (revL tr []) [] []

/-! ### The states -/
structure St (X : Nat → Prop) (w0 : World) (ι0 : Io) (G0 : Own) (n : Nat) (F : Fn) (G : Own) (a : Act) (w : World) (ι : Io) : Prop where
  conc : Conc w X ι G
  slots : ∀ d v, F d = some v → VR w X ι G v (a.tmps.getD d undef)
  size : a.tmps.size = n
  nodef : a.defers = []
  gr : Gr w0 ι0 G0 w ι G

/-- One state is told by another. -/
structure Weak (m : Nat) (fr : Fr) (H : Heap) (fr' : Fr) (H' : Heap) : Prop where
  run : ∀ X w0 ι0 G0 n a w ι, (∀ id, m ≤ id → (G0 id).isNone = true) → St X w0 ι0 G0 n (fget fr) (hget H) a w ι → ∃ ι', St X w0 ι0 G0 n (fget fr') (hget H') a w ι'

inductive vloop (m : Nat) (body : (Ex → Post) → Post) (K : Ex → Post) (fr : Fr) (H : Heap) : Prop
  | mk (σ : Type) (I : σ → Prop) (S : σ → Fr × Heap) (μ : σ → Nat) (x0 : σ) (i0 : I x0) (h0 : Weak m fr H (S x0).1 (S x0).2)
    (h : ∀ x, I x → body (fun ex fr' H' => match ex with
      | .normal => ∃ x', I x' ∧ Weak m fr' H' (S x').1 (S x').2 ∧ μ x' < μ x
      | .exit id => K (.exit id) fr' H'
      | .ret => K .ret fr' H') (S x).1 (S x).2)

/-- The trace, told in numerals. -/
def forceN : Nat → (Nat → Prop) → Prop
  | 0, F => F 0
  | n + 1, F => forceN n fun m => F (Nat.succ m)
def forceL : List Nat → (List Nat → Prop) → Prop
  | [], F => F []
  | a :: l, F => forceN a fun a => forceL l fun l => F (a :: l)
def forceT : Trace → (Trace → Prop) → Prop
  | [], F => F []
  | (T, U) :: l, F => forceL T fun T => forceL U fun U => forceT l fun l => F ((T, U) :: l)
theorem forceN_eq : ∀ (n : Nat) (F : Nat → Prop), forceN n F = F n
  | 0, F => rfl
  | n + 1, F => forceN_eq n fun m => F (Nat.succ m)
theorem forceL_eq : ∀ (l : List Nat) (F : List Nat → Prop), forceL l F = F l
  | [], F => rfl
  | a :: l, F => by simp only [forceL, forceN_eq, forceL_eq l]
theorem forceT_eq : ∀ (l : Trace) (F : Trace → Prop), forceT l F = F l
  | [], F => rfl
  | (T, U) :: l, F => by simp only [forceT, forceL_eq, forceT_eq l]
/-- The end of a region that draws: at a long one the check is left to the kernel. -/
def drawn (ops : List Oper) (tr : Trace) (K : Post) : Post := fun fr H => forceT tr fun tr => match Nat.ble (lenL ops) 30 with
  | true => (match okDrawM ops tr with | true => K fr H | false => False)
  | false => okDrawM ops tr = true ∧ K fr H
theorem drawn_out {ops : List Oper} {tr : Trace} {K : Post} {fr : Fr} {H : Heap} (h : drawn ops tr K fr H) : okDraw ops tr = true ∧ K fr H := by
  unfold drawn at h
  rw [forceT_eq, okDrawM_eq] at h
  cases hb : Nat.ble (lenL ops) 30 with
  | true =>
    rw [hb] at h
    cases ho : okDraw ops tr with
    | true => rw [ho] at h; exact ⟨rfl, h⟩
    | false => rw [ho] at h; exact h.elim
  | false => rw [hb] at h; exact h

def vc (E : Env) : Code → (Ex → Post) → Post
  | .skip, K => K .normal
  | .label _, K => K .normal
  | .ret, K => K .ret
  | .exit id, K => K (.exit id)
  | .seq a b, K => vc E a fun ex => match ex with
    | .normal => vc E b K
    | .exit id => K (.exit id)
    | .ret => K .ret
  | .cond c x y, K => fun fr H => match c with
    | .tmp d => match fget fr d with
      | some (.pv (.bool b)) => br b (vc E x K ((d, .pv (.bool true)) :: fr) H) (vc E y K ((d, .pv (.bool false)) :: fr) H)
      | _ => False
    | .const (.bool b) => br b (vc E x K fr H) (vc E y K fr H)
    | _ => False
  | .block id c, K => vc E c fun ex => match ex with
    | .normal => K .normal
    | .exit id' => (match Nat.beq id' id with | true => K .normal | false => K (.exit id'))
    | .ret => K .ret
  | .loop c, K => vloop E.m (vc E c) K
  | .scope c, K => vc E c K
  | .region _ ops draw, K => vops E ops.toList ops.toList [] fun tr => match draw with
    | false => K .normal
    | true => drawn ops.toList tr (K .normal)
  | _, _ => fun _ _ => False

/-- Every slot written is one of the frame's. -/
def dstsLt (n : Nat) : Code → Bool
  | .seq a b => dstsLt n a && dstsLt n b
  | .cond _ a b => dstsLt n a && dstsLt n b
  | .block _ c => dstsLt n c
  | .loop c => dstsLt n c
  | .scope c => dstsLt n c
  | .region _ ops _ => ops.toList.all fun o => match o.dst with | some d => Nat.blt d n | Option.none => true
  | _ => true

/-! ### Laws of the small functions -/
theorem hget_nil (i : Nat) : hget [] i = .none := by cases i <;> rfl
theorem hget_hlen : ∀ (H : Heap), hget H (hlen H) = .none
  | [] => rfl
  | _ :: H => by simp only [hlen, Nat.succ_eq_add_one, hget]; exact hget_hlen H

theorem fget_cons (d : Nat) (v : AV) (fr : Fr) (e : Nat) : fget ((d, v) :: fr) e = if d = e then some v else fget fr e := by
  simp only [fget]
  by_cases h : d = e
  · subst h; simp
  · have : Nat.beq d e = false := by cases hb : Nat.beq d e with
      | false => rfl
      | true => exact absurd (Nat.eq_of_beq_eq_true hb) h
    simp [this, h]
theorem fget_fput (fr : Fr) (d : Option Nat) (v : AV) : fget (fput fr d v) = fnset (fget fr) d v := by
  funext e
  cases d with
  | none => rfl
  | some d =>
    simp only [fput, fnset, fget_cons]
    by_cases h : d = e
    · simp [h]
    · have : ¬ e = d := fun h' => h h'.symm
      simp [h, this]
/-- A slot that is told again what it holds. -/
theorem fget_same {fr : Fr} {d : Nat} {v : AV} (h : fget fr d = some v) : fget ((d, v) :: fr) = fget fr := by
  funext e; rw [fget_cons]; split
  · rename_i he; subst he; exact h.symm
  · rfl

def opdF (F : Fn) : Operand → Option AV
  | .tmp t => F t
  | .const v => (match constOK v with | true => some (.pv (constA v)) | false => Option.none)
  | .func f => some (.pv (.fn f []))
  | .global _ => Option.none
theorem opd_eq (fr : Fr) : opd fr = opdF (fget fr) := by funext x; cases x <;> rfl

end Go.AM

namespace Go.AM

/-- An operation's outcome is one. -/
def Pk (D : DK → Prop) : Prop := ∀ K, D K → ∃ x u, K x u ∧ D (fun x' u' => x' = x ∧ u' = u)

theorem pk_leaf (x : AV) (u : Upd) : Pk (fun K => K x u) := fun K h => ⟨x, u, h, rfl, rfl⟩
theorem pk_false : Pk (fun _ => False) := fun K h => h.elim
theorem pk_and {p : Prop} {D : DK → Prop} (h : Pk D) : Pk (fun K => p ∧ D K) := fun K ⟨hp, hd⟩ => let ⟨x, u, hk, hd'⟩ := h K hd; ⟨x, u, hk, hp, hd'⟩
theorem pk_ex {α : Sort _} {D : α → DK → Prop} (h : ∀ y, Pk (D y)) : Pk (fun K => ∃ y, D y K) := fun K ⟨y, hd⟩ => let ⟨x, u, hk, hd'⟩ := h y K hd; ⟨x, u, hk, y, hd'⟩
theorem pk_of {D D' : DK → Prop} (h : D = D') (k : Pk D') : Pk D := h ▸ k
theorem pk_br {b : Bool} {D D' : DK → Prop} (h : Pk D) (h' : Pk D') : Pk (fun K => br b (D K) (D' K)) := by cases b; exact h'; exact h
theorem pk_kSame {k k' : IntKind} {D : DK → Prop} (h : Pk D) : Pk (fun K => kSame k k' (D K)) := fun K hk => by
  obtain ⟨rfl, hd⟩ := kSame_iff.1 hk
  obtain ⟨x, u, h1, h2⟩ := h K hd
  exact ⟨x, u, h1, kSame_iff.2 ⟨rfl, h2⟩⟩
theorem pk_part (T : TD) (cs : List AV) (off : Nat) : Pk (fun K => part T cs off fun v => K v []) := by
  unfold part
  cases T.ok
  · exact pk_false
  · cases T.agg
    · cases nthO cs off
      · exact pk_false
      · exact pk_leaf _ _
    · cases Nat.ble (off + T.sz) (lenL cs)
      · exact pk_false
      · exact pk_leaf _ _
theorem pk_withCells {x : AV} {D : List AV → DK → Prop} (h : ∀ c, Pk (D c)) : Pk (fun K => withCells x fun c => D c K) := by
  unfold withCells
  split
  · exact pk_false
  · exact pk_false
  · exact h _
theorem pk_load (te : TE) (H : Heap) (t : TypeId) (a : AV) : Pk (dLoad te H t a) := by
  unfold dLoad
  (try dsimp only)
  cases a <;> try exact pk_false
  case pv p => (try dsimp only); cases p <;> first | exact pk_part _ _ _ | exact pk_false
  case bp id off =>
    (try dsimp only)
    cases hget H id <;> first | exact pk_part _ _ _ | exact pk_false
  case rp id i off =>
    (try dsimp only)
    cases hget H id <;> try exact pk_false
    · (try dsimp only)
      exact pk_ex fun x => pk_and (pk_withCells fun c => pk_part _ _ _)
    · (try dsimp only)
      exact pk_ex fun x => pk_and (pk_withCells fun c => pk_part _ _ _)
theorem pk_store (te : TE) (H : Heap) (t : TypeId) (a x : AV) : Pk (dStore te H t a x) := by
  unfold dStore
  (try dsimp only)
  refine pk_withCells fun cx => ?_
  (try dsimp only)
  cases a <;> try exact pk_false
  case bp id off =>
    (try dsimp only)
    cases hget H id <;> try exact pk_false
    rename_i t' cs
    (try dsimp only)
    cases Nat.beq (lenL cx) (te t).sz <;> cases Nat.ble (off + (te t).sz) (lenL cs) <;> cases (te t).ok <;> first | exact pk_false | exact pk_leaf _ _
  case rp id i off =>
    (try dsimp only)
    cases hget H id <;> try exact pk_false
    rename_i t' sz xs
    (try dsimp only)
    refine pk_ex fun y => pk_and (pk_and ?_)
    (try dsimp only)
    cases Nat.beq (lenL cx) (te t).sz <;> cases Nat.beq (te t).sz sz <;> cases Nat.beq off 0 <;> (try exact pk_false) <;> (try exact pk_leaf _ _) <;>
    · (try dsimp only)
      refine pk_withCells fun cy => ?_
      (try dsimp only)
      cases Nat.ble (off + (te t).sz) (lenL cy) <;> first | exact pk_false | exact pk_leaf _ _
theorem pk_fieldAddr (te : TE) (H : Heap) (s : TypeId) (a : AV) (f : Nat) : Pk (dFieldAddr te H s a f) := by
  unfold dFieldAddr
  (try dsimp only)
  cases (te s).u <;> try exact pk_false
  rename_i fs
  (try dsimp only)
  cases nthO fs f <;> try exact pk_false
  rename_i q
  obtain ⟨o, q1, q2⟩ := q
  (try dsimp only)
  cases a <;> try exact pk_false
  case pv p => (try dsimp only); cases p <;> first | exact pk_leaf _ _ | exact pk_false
  case bp id off => (try dsimp only); cases (hget H id).isCell <;> first | exact pk_false | exact pk_leaf _ _
  case rp id i off => (try dsimp only); cases (hget H id).isRow <;> first | exact pk_false | exact pk_leaf _ _
theorem pk_indexAddr (te : TE) (H : Heap) (t : TypeId) (x ix : AV) : Pk (dIndexAddr te H t x ix) := by
  unfold dIndexAddr
  (try dsimp only)
  cases (te t).u <;> try exact pk_false
  rename_i e
  (try dsimp only)
  cases ix <;> try exact pk_false
  rename_i p
  (try dsimp only)
  cases p <;> try exact pk_false
  rename_i k i
  (try dsimp only)
  cases x <;> try exact pk_false
  case pv p =>
    (try dsimp only)
    cases p <;> try exact pk_false
    rename_i sz xs
    (try dsimp only)
    refine pk_ex fun y => pk_and (pk_withCells fun c => ?_)
    (try dsimp only)
    cases Nat.beq sz (te e).sz <;> cases (te e).ok <;> first | exact pk_false | exact pk_leaf _ _
  case row id n =>
    (try dsimp only)
    cases (hget H id).isRow <;> cases Nat.beq (hget H id).sz (te e).sz <;> cases (te e).ok <;> first | exact pk_false | exact pk_and (pk_leaf _ _)
theorem pk_index (te : TE) (t : TypeId) (x ix : AV) : Pk (dIndex te t x ix) := by
  unfold dIndex
  (try dsimp only)
  cases (te t).u <;> try exact pk_false
  (try dsimp only)
  cases x <;> try exact pk_false
  rename_i p
  (try dsimp only)
  cases p <;> try exact pk_false
  (try dsimp only)
  cases ix <;> try exact pk_false
  rename_i p
  (try dsimp only)
  cases p <;> first | exact pk_false | exact pk_and (pk_leaf _ _)
theorem pk_len (te : TE) (H : Heap) (t : TypeId) (x : AV) : Pk (dLen te H t x) := by
  unfold dLen
  (try dsimp only)
  cases (te t).u <;> try exact pk_false
  · (try dsimp only)
    cases x <;> try exact pk_false
    rename_i p
    (try dsimp only)
    cases p <;> first | exact pk_false | exact pk_leaf _ _
  · (try dsimp only)
    cases x <;> try exact pk_false
    · rename_i p
      (try dsimp only)
      cases p <;> first | exact pk_false | exact pk_leaf _ _
    · rename_i id n
      (try dsimp only)
      cases (hget H id).isRow <;> first | exact pk_false | exact pk_leaf _ _
theorem pk_bin (te : TE) (t : TypeId) (op : BinOp) (x y : AV) : Pk (dBin te t op x y) := by
  unfold dBin
  (try dsimp only)
  cases x <;> try exact pk_false
  rename_i p
  (try dsimp only)
  cases y <;> try (cases p <;> exact pk_false)
  rename_i q
  (try dsimp only)
  cases p <;> try (cases q <;> exact pk_false)
  · (try dsimp only)
    cases q <;> try exact pk_false
    (try dsimp only)
    refine pk_kSame ?_
    (try dsimp only)
    cases op <;> first | exact pk_false | exact pk_leaf _ _ | exact pk_and (pk_leaf _ _)
  · (try dsimp only)
    cases q <;> try exact pk_false
    (try dsimp only)
    cases op <;> cases (te t).u <;> first | exact pk_false | exact pk_leaf _ _
  · (try dsimp only)
    cases q <;> try exact pk_false
    (try dsimp only)
    cases op <;> first | exact pk_false | exact pk_leaf _ _ | exact pk_and (pk_leaf _ _)
  · (try dsimp only)
    cases q <;> try exact pk_false
    (try dsimp only)
    cases op <;> cases (te t).u <;> first | exact pk_false | exact pk_leaf _ _ | exact pk_and (pk_leaf _ _)
  · (try dsimp only)
    cases q <;> try exact pk_false
    (try dsimp only)
    cases op <;> cases (te t).u <;> first | exact pk_false | exact pk_leaf _ _ | exact pk_and (pk_leaf _ _)
theorem pk_append (te : TE) (H : Heap) (nid : Nat) (t : TypeId) (s x : AV) : Pk (dAppend te H nid t s x) := by
  unfold dAppend
  (try dsimp only)
  cases (te t).u <;> try exact pk_false
  rename_i e
  have main : ∀ (k : Nat) (ys : List AV), Pk (fun K => match s with
    | .row id m => match hget H id with
      | .row t0 sz xs => (match Nat.beq t0 e, Nat.beq sz (te e).sz, Nat.beq (te e).sz 0, (te e).ok with
        | true, true, false, true => ((m ≤ xs.length ∧ m + k ≤ 9223372036854775807) ∧ (m + k) * (te e).bytes ≤ 140737488355328) ∧ K (.row nid (m + k)) [(id, .dead), (nid, .row e (te e).sz (appL m xs k ys))]
        | _, _, _, _ => False)
      | _ => False
    | .pv .nils => (match Nat.beq (te e).sz 0, (te e).ok with
        | false, true => ((k ≤ 9223372036854775807 ∧ k * (te e).bytes ≤ 140737488355328) ∧ 0 < k) ∧ K (.row nid k) [(nid, .row e (te e).sz (appL 0 [] k ys))]
        | _, _ => False)
    | _ => False) := by
    intro k ys
    (try dsimp only)
    cases s <;> try exact pk_false
    · rename_i p
      (try dsimp only)
      cases p <;> try exact pk_false
      (try dsimp only)
      cases Nat.beq (te e).sz 0 <;> cases (te e).ok <;> first | exact pk_false | exact pk_and (pk_leaf _ _)
    · rename_i id m
      (try dsimp only)
      cases hget H id <;> try exact pk_false
      rename_i t0 sz xs
      (try dsimp only)
      cases Nat.beq t0 e <;> cases Nat.beq sz (te e).sz <;> cases Nat.beq (te e).sz 0 <;> cases (te e).ok <;> first | exact pk_false | exact pk_and (pk_leaf _ _)
  unfold appX
  (try dsimp only)
  cases x <;> try exact pk_false
  · rename_i p
    (try dsimp only)
    cases p <;> try exact pk_false
    · rename_i sz' ys
      (try dsimp only)
      cases Nat.beq sz' (te e).sz <;> first | exact pk_false | exact main _ _
    · (try dsimp only)
      exact main _ _
  · rename_i id k
    (try dsimp only)
    cases hget H id <;> try exact pk_false
    · rename_i t0 sz' ys
      (try dsimp only)
      cases Nat.beq sz' (te e).sz <;> first | exact pk_false | exact pk_and (main _ _)
    · rename_i sz' ys
      (try dsimp only)
      cases Nat.beq sz' (te e).sz <;> first | exact pk_false | exact pk_and (main _ _)
theorem pk_appS (te : TE) (H : Heap) (nid e : Nat) (s : AV) (b : ByteArray) : Pk (dAppS te H nid e s b) := by
  intro K h
  unfold dAppS at h ⊢
  cases hb : byteT (te e) <;> simp only [hb] at h ⊢
  cases s <;> try exact h.elim
  · rename_i p
    cases p <;> first | exact h.elim | exact ⟨_, _, h.2, h.1, rfl, rfl⟩
  · rename_i id m
    simp only at h ⊢
    cases hg : hget H id <;> simp only [hg] at h ⊢
    rename_i t0 sz xs
    cases h1 : Nat.beq t0 e <;> cases h2 : Nat.beq sz 1 <;> simp only [h1, h2] at h ⊢
    exact ⟨_, _, h.2, h.1, rfl, rfl⟩
theorem pk_make (te : TE) (nid : Nat) (t : TypeId) (l c : AV) : Pk (dMake te nid t l c) := by
  unfold dMake
  (try dsimp only)
  cases (te t).u <;> try exact pk_false
  rename_i e
  (try dsimp only)
  cases l <;> try exact pk_false
  rename_i p
  (try dsimp only)
  cases p <;> try exact pk_false
  (try dsimp only)
  cases c <;> try exact pk_false
  rename_i p
  (try dsimp only)
  cases p <;> try exact pk_false
  (try dsimp only)
  cases (te e).ok <;> first | exact pk_false | exact pk_and (pk_leaf _ _)
theorem pk_slice (te : TE) (H : Heap) (t : TypeId) (x : AV) (lo hi : Option AV) : Pk (dSlice te H t x lo hi) := by
  intro K h
  unfold dSlice at h ⊢
  split at h
  · split at h <;> first | exact h.elim | exact ⟨_, _, h.2, h.1, rfl, rfl⟩
  · split at h
    · split at h <;> first | exact h.elim | exact ⟨_, _, h.2, h.1, rfl, rfl⟩
    · exact h.elim
  · split at h <;> first | exact h.elim | exact ⟨_, _, h.2, h.1, rfl, rfl⟩
  · exact h.elim
theorem pk_slice3 (te : TE) (t : TypeId) (x hi mx : AV) : Pk (dSlice3 te t x hi mx) := by
  intro K h
  unfold dSlice3 at h ⊢
  split at h
  · split at h <;> first | exact h.elim | exact ⟨_, _, h.2, h.1, rfl, rfl⟩
  · exact h.elim
theorem pk_oev {ev : Operand → Option AV} {x : Option Operand} {D : Option AV → DK → Prop} (h : ∀ c, Pk (D c)) : Pk (fun K => oev ev x fun c => D c K) := by
  unfold oev
  (try dsimp only)
  cases x
  · exact h _
  · rename_i x
    (try dsimp only)
    cases ev x
    · exact pk_false
    · exact h _
theorem pk_builtin (te : TE) (ev : Operand → Option AV) (H : Heap) (nid : Nat) (b : Builtin) (args : List Operand) (ts : List TypeId) : Pk (dBuiltin te ev H nid b args ts) := by
  intro K h
  unfold dBuiltin at h ⊢
  split at h
  · rename_i x t
    (try dsimp only)
    cases hx : ev x <;> simp only [hx] at h ⊢
    exact pk_len _ _ _ _ K h
  · split at h
    · rename_i h1 h2; simp only [h1, h2]; exact ⟨_, _, (kSame_iff.1 h).2, kSame_iff.2 ⟨(kSame_iff.1 h).1, rfl, rfl⟩⟩
    · exact h.elim
  · split at h
    · rename_i h1 h2; simp only [h1, h2]; exact ⟨_, _, (kSame_iff.1 h).2, kSame_iff.2 ⟨(kSame_iff.1 h).1, rfl, rfl⟩⟩
    · exact h.elim
  · rename_i s x t t'
    (try dsimp only)
    cases hb : Nat.beq t t' <;> simp only [hb] at h ⊢
    · cases h1 : (te t).u <;> simp only [h1] at h ⊢
      cases h2 : (te t').u <;> simp only [h2] at h ⊢
      cases h3 : ev s <;> simp only [h3] at h ⊢
      cases h4 : ev x with
      | none => simp only [h4] at h
      | some v =>
        simp only [h4] at h ⊢
        cases v <;> try exact h.elim
        rename_i p
        cases p <;> try exact h.elim
        exact pk_appS _ _ _ _ _ _ K h
    (try dsimp only)
    cases hs : ev s <;> cases hx : ev x <;> simp only [hs, hx] at h ⊢
    exact pk_append _ _ _ _ _ _ K h
  · exact h.elim

theorem pk_dop (te : TE) (ev : Operand → Option AV) (H : Heap) (nid : Nat) (o : Op) : Pk (dop te ev H nid o) := by
  unfold dop
  (try dsimp only)
  cases o <;> try exact pk_false
  case move x => simp only; cases ev x <;> first | exact pk_false | exact pk_leaf _ _
  case assign x => simp only; cases ev x <;> first | exact pk_false | exact pk_leaf _ _
  case pick c a b =>
    simp only
    (try dsimp only)
    cases ev c <;> try exact pk_false
    rename_i v
    (try dsimp only)
    cases v <;> try exact pk_false
    rename_i p
    (try dsimp only)
    cases p <;> try exact pk_false
    (try dsimp only)
    refine pk_br ?_ ?_
    · (try dsimp only)
      cases ev a <;> first | exact pk_false | exact pk_leaf _ _
    · (try dsimp only)
      cases ev b <;> first | exact pk_false | exact pk_leaf _ _
  case alloc t => simp only; cases (te t).ok <;> first | exact pk_false | exact pk_leaf _ _
  case box t x =>
    simp only
    (try dsimp only)
    cases ev x <;> try exact pk_false
    (try dsimp only)
    exact pk_withCells fun c => pk_leaf _ _
  case build t ps =>
    intro K h
    (try simp only at h ⊢)
    split at h
    · rename_i h1 h2 h3
      (try simp only [h1, h2, h3])
      (try simp only at h ⊢)
      split at h
      · rename_i h4 h5; (try simp only [h4, h5]); exact ⟨_, _, h, rfl, rfl⟩
      · exact h.elim
    · exact h.elim
  case buildSlice t n ps =>
    cases n with
    | zero =>
      intro K h
      (try simp only at h ⊢)
      split at h
      · rename_i h1 h2
        (try simp only [h1, h2])
        (try simp only at h ⊢)
        split at h
        · rename_i h4; (try simp only [h4]); exact ⟨_, _, h, rfl, rfl⟩
        · exact h.elim
      · exact h.elim
    | succ n =>
    intro K h
    (try simp only at h ⊢)
    split at h
    · rename_i h1 h2
      (try simp only [h1, h2])
      (try simp only at h ⊢)
      split at h
      · rename_i h4 h5 h6 h7; (try simp only [h4, h5, h6, h7]); exact ⟨_, _, h, rfl, rfl⟩
      · exact h.elim
    · exact h.elim
  case load t a => simp only; cases ev a <;> first | exact pk_false | exact pk_load _ _ _ _
  case store t a x => simp only; cases ev a <;> cases ev x <;> first | exact pk_false | exact pk_store _ _ _ _ _
  case fieldAddr s a f => simp only; cases ev a <;> first | exact pk_false | exact pk_fieldAddr _ _ _ _ _
  case field t x f =>
    intro K h
    (try simp only at h ⊢)
    split at h
    · rename_i h1 h2
      (try simp only [h1, h2])
      (try simp only at h ⊢)
      split at h
      · rename_i h3
        (try simp only [h3])
        (try simp only at h ⊢)
        split at h
        · rename_i h4; (try simp only [h4]); exact ⟨_, _, h, rfl, rfl⟩
        · exact h.elim
      · rename_i h3; (try simp only [h3]); exact ⟨_, _, h, rfl, rfl⟩
      · exact h.elim
    · exact h.elim
  case indexAddr t x ix => simp only; cases ev x <;> cases ev ix <;> first | exact pk_false | exact pk_indexAddr _ _ _ _ _
  case index t x ix => simp only; cases ev x <;> cases ev ix <;> first | exact pk_false | exact pk_index _ _ _ _
  case slice t x lo hi mx =>
    cases mx with
    | some m =>
      cases lo <;> cases hi <;> (try dsimp only) <;> try exact pk_false
      rename_i hi
      (try dsimp only)
      cases ev x <;> cases ev hi <;> cases ev m <;> first | exact pk_false | exact pk_slice3 _ _ _ _ _
    | none =>
    simp only
    (try dsimp only)
    cases ev x <;> try exact pk_false
    (try dsimp only)
    exact pk_oev fun lo => pk_oev fun hi => pk_slice _ _ _ _ _ _
  case binOp op t x y t' => simp only; cases ev x <;> cases ev y <;> first | exact pk_false | exact pk_bin _ _ _ _ _
  case unOp op t x =>
    intro K h
    (try simp only at h ⊢)
    split at h <;> first | exact h.elim | (rename_i h1; (try simp only [h1]); exact ⟨_, _, h, rfl, rfl⟩)
  case convert s d x =>
    intro K h
    (try simp only at h ⊢)
    split at h
    · rename_i h1 h2 h3; (try simp only [h1, h2, h3]); exact ⟨_, _, h, rfl, rfl⟩
    · rename_i e id n h1 h2 h3
      (try simp only [h1, h2, h3])
      cases hb : byteT (te e) <;> simp only [hb] at h ⊢
      cases hg : hget H id <;> simp only [hg] at h ⊢
      rename_i t0 sz xs
      cases hs : Nat.beq sz 1 <;> cases hl : strOf (takeL n xs) <;> simp only [hs, hl] at h ⊢
      exact ⟨_, _, h.2, h.1, rfl, rfl⟩
    · exact h.elim
  case nilCheck x =>
    intro K h
    (try simp only at h ⊢)
    split at h
    · rename_i id o h1; (try simp only [h1]); (try simp only at h ⊢); cases hb : (hget H id).isCell <;> simp only [hb] at h ⊢; exact ⟨_, _, h, rfl, rfl⟩
    · rename_i id i o h1; (try simp only [h1]); (try simp only at h ⊢); cases hb : (hget H id).isRow <;> simp only [hb] at h ⊢; exact ⟨_, _, h, rfl, rfl⟩
    · rename_i h1; (try simp only [h1]); exact ⟨_, _, h, rfl, rfl⟩
    · rename_i h1; (try simp only [h1]); exact ⟨_, _, h, rfl, rfl⟩
    · rename_i h1; (try simp only [h1]); exact ⟨_, _, h, rfl, rfl⟩
    · exact h.elim
  case makeMap t r =>
    (try dsimp only)
    cases r with
    | some _ => exact pk_false
    | none => (try dsimp only); cases (te t).u <;> first | exact pk_false | exact pk_leaf _ _
  case lookup t m k ok =>
    (try dsimp only)
    cases ok with
    | true => exact pk_false
    | false =>
      intro K h
      (try simp only at h ⊢)
      split at h
      · rename_i h1 h2 h3; (try simp only [h1, h2, h3]); (try simp only at h ⊢)
        split at h
        · rename_i h4; (try simp only [h4]); exact ⟨_, _, h, rfl, rfl⟩
        · exact h.elim
      · exact h.elim
  case mapUpdate t m k x =>
    intro K h
    (try simp only at h ⊢)
    split at h
    · rename_i h1 h2 h3 h4; (try simp only [h1, h2, h3, h4]); (try simp only at h ⊢)
      split at h
      · rename_i h5; (try simp only [h5]); exact ⟨_, _, h, rfl, rfl⟩
      · exact h.elim
    · exact h.elim
  case makeSlice t l c => simp only; cases ev l <;> cases ev c <;> first | exact pk_false | exact pk_make _ _ _ _ _
  case makeFunc fn first caps =>
    (try dsimp only)
    cases fn <;> try exact pk_false
    intro K h
    (try simp only at h ⊢)
    split at h
    · rename_i h1 h2; (try simp only [h1, h2]); exact ⟨_, _, h, rfl, rfl⟩
    · exact h.elim
  case extract x i =>
    intro K h
    (try simp only at h ⊢)
    split at h
    · rename_i h1; (try simp only [h1]); (try simp only at h ⊢)
      split at h
      · rename_i h2; (try simp only [h2]); exact ⟨_, _, h, rfl, rfl⟩
      · exact h.elim
    · rename_i h1; (try simp only [h1]); (try simp only at h ⊢)
      split at h
      · rename_i h2; (try simp only [h2]); exact ⟨_, _, h, rfl, rfl⟩
      · exact h.elim
    · exact h.elim
  case call c =>
    obtain ⟨callee, args, ts⟩ := c
    (try dsimp only)
    cases callee <;> try exact pk_false
    exact pk_builtin _ _ _ _ _ _ _

/-- Only the operands count. -/
theorem evs_congr {ev ev' : Operand → Option AV} : ∀ (l : List Operand), (∀ x ∈ l, ev x = ev' x) → evs ev l = evs ev' l
  | [], _ => rfl
  | x :: l, h => by
    simp only [evs]
    rw [h x (by simp), evs_congr l fun y hy => h y (by simp [hy])]
theorem evParts_congr {ev ev' : Operand → Option AV} : ∀ (l : List (Nat × Operand)), (∀ x ∈ l.map (·.2), ev x = ev' x) → evParts ev l = evParts ev' l
  | [], _ => rfl
  | (i, x) :: l, h => by
    simp only [evParts]
    rw [h x (by simp), evParts_congr l fun y hy => h y (by simp only [List.map_cons, List.mem_cons]; exact .inr hy)]
theorem dop_congr {te : TE} {ev ev' : Operand → Option AV} {H : Heap} {nid : Nat} {o : Op} (h : ∀ x ∈ opersOf o, ev x = ev' x) : dop te ev H nid o = dop te ev' H nid o := by
  funext K
  cases o
  case slice t x lo hi mx =>
    cases mx <;> cases lo <;> cases hi <;> simp_all [opersOf, dop, oev]
  case makeMap t r => cases r <;> rfl
  case lookup t m k ok =>
    cases ok with
    | true => rfl
    | false => simp only [dop]; rw [h m (by simp [opersOf]), h k (by simp [opersOf])]
  case mapUpdate t m k x => simp only [dop]; rw [h m (by simp [opersOf]), h k (by simp [opersOf]), h x (by simp [opersOf])]
  case build t ps => simp only [dop]; rw [evParts_congr ps.toList h]
  case buildSlice t n ps => cases n <;> simp only [dop]; rw [evParts_congr ps.toList h]
  case makeFunc fn first caps =>
    cases fn <;> try rfl
    simp only [dop]
    rw [evs_congr caps.toList fun x hx => h x (by simp only [opersOf]; exact List.mem_append_right _ hx)]
  case call c =>
    obtain ⟨callee, args, ts⟩ := c
    cases callee <;> try rfl
    simp only [dop, opersOf] at h ⊢
    unfold dBuiltin
    generalize hl : args.toList = l at *
    generalize ts.toList = k
    split
    · rename_i x t; rw [h x (by simp)]
    · rename_i x y _ _; rw [h x (by simp), h y (by simp)]
    · rename_i x y _ _; rw [h x (by simp), h y (by simp)]
    · rename_i x y _ _; rw [h x (by simp), h y (by simp)]
    · rfl
  all_goals (first | rfl | (simp only [opersOf, List.mem_cons, List.not_mem_nil, or_false, forall_eq, forall_eq_or_imp] at h; simp_all [dop]; done))
end Go.AM

namespace Go.AM

/-- One operation, its outcome told. -/
def AStep (P : Program) (F : Fn) (H : Heap) (o : Oper) (x : AV) (u : Upd) (T : List Nat) : Prop :=
  (∀ p ∈ u, p.1 ∈ T) ∧ ∀ X w ι G a, Conc w X ι G → (∃ k, (G k).isNone = true) → (∀ id ∈ T, G id = hget H id) →
    (∀ t ∈ tmpsL (opersOf o.op), ∀ v, F t = some v → VR w X ι G v (a.tmps.getD t undef)) →
    ∀ (Kw : Act → World → Prop) (Q : Exit → Act → World → Prop),
      (∀ v w' ι', VR w' X ι' (gupd G u) x v → Conc w' X ι' (gupd G u) → Gr w ι G w' ι' (gupd G u) → Kw (a.put o.dst v) w') → o.wp P a w Kw Q

theorem mem_appN : ∀ {k l : List Nat} {a : Nat}, a ∈ appN k l ↔ a ∈ k ∨ a ∈ l
  | [], l, a => by simp [appN]
  | b :: k, l, a => by simp [appN, mem_appN, or_assoc]
theorem mem_uids : ∀ {u : Upd} {i : Nat}, i ∈ uids u ↔ ∃ b, (i, b) ∈ u
  | [], i => by simp [uids]
  | (j, b) :: u, i => by
    simp only [uids, List.mem_cons, mem_uids, Prod.mk.injEq]
    constructor
    · rintro (rfl | ⟨c, h⟩)
      · exact ⟨b, .inl ⟨rfl, rfl⟩⟩
      · exact ⟨c, .inr h⟩
    · rintro ⟨c, ⟨rfl, rfl⟩ | h⟩
      · exact .inl rfl
      · exact .inr ⟨c, h⟩
theorem mem_touchL {ev : Operand → Option AV} : ∀ {l : List Operand} {x : Operand} {v : AV} {i : Nat}, x ∈ l → ev x = some v → i ∈ idsA v → i ∈ touchL ev l
  | [], _, _, _, h, _, _ => by simp at h
  | y :: l, x, v, i, h, hv, hi => by
    simp only [touchL]
    rcases List.mem_cons.1 h with rfl | h
    · rw [hv]; exact mem_appN.2 (.inl hi)
    · have := mem_touchL h hv hi
      cases ev y
      · exact this
      · exact mem_appN.2 (.inr this)
theorem mem_tmpsL : ∀ {l : List Operand} {t : Nat}, .tmp t ∈ l → t ∈ tmpsL l
  | [], _, h => by simp at h
  | y :: l, t, h => by
    rcases List.mem_cons.1 h with h | h
    · subst h; simp [tmpsL]
    · have := mem_tmpsL h
      cases y <;> simp [tmpsL, this]

theorem dop_nid {te : TE} {ev : Operand → Option AV} {H : Heap} {nid nid' : Nat} {o : Op} (h : usesNid o = false) : dop te ev H nid o = dop te ev H nid' o := by
  funext K
  cases o <;> first | rfl | (simp [usesNid] at h; done) | skip
  case makeFunc fn _ _ => cases fn <;> rfl
  case lookup _ _ _ ok => cases ok <;> rfl
  case slice _ _ lo hi mx => cases mx <;> cases lo <;> cases hi <;> rfl
  case call c =>
    obtain ⟨callee, args, ts⟩ := c
    cases callee <;> first | rfl | skip
    case builtin b => cases b <;> first | rfl | (simp [usesNid] at h; done) | (simp only [dop, dBuiltin]; done) | (simp only [dop]; unfold dBuiltin; split <;> simp_all)

open Classical in
/-- The operands' values alone. -/
noncomputable def evOn (o : Op) (F : Fn) : Operand → Option AV := fun x => if x ∈ opersOf o then opdF F x else Option.none

theorem astep_dop {E : Env} {F : Fn} {H : Heap} {o : Oper} {K : AV → Upd → List Nat → Prop}
    (h : dop E.te (opdF F) H (hlen H) o.op fun x u => K x u (match usesNid o.op with | true => hlen H :: appN (uids u) (touchL (opdF F) (lookOf o.op)) | false => appN (uids u) (touchL (opdF F) (lookOf o.op)))) :
    ∃ x u T, K x u T ∧ AStep E.P F H o x u T := by
  obtain ⟨x, u, hK, hd⟩ := pk_dop _ _ _ _ _ _ h
  refine ⟨x, u, _, hK, fun p hp => ?_, fun X w ι G a hC hk hT hF Kw Q hKw => ?_⟩
  · have := mem_uids.2 ⟨p.2, hp⟩
    split
    · exact List.mem_cons_of_mem _ (mem_appN.2 (.inl this))
    · exact mem_appN.2 (.inl this)
  · have hT' : ∀ id, id ∈ touchL (opdF F) (lookOf o.op) → G id = hget H id := fun id hid => hT id (by
      split
      · exact List.mem_cons_of_mem _ (mem_appN.2 (.inr hid))
      · exact mem_appN.2 (.inr hid))
    have hnid : ∃ k, (G k).isNone = true ∧ dop E.te (opdF F) H k o.op (fun x' u' => x' = x ∧ u' = u) := by
      cases hu : usesNid o.op with
      | true => exact ⟨hlen H, by rw [hT (hlen H) (by simp [hu]), hget_hlen]; rfl, hd⟩
      | false => obtain ⟨k, hk⟩ := hk; exact ⟨k, hk, by rw [← dop_nid hu]; exact hd⟩
    obtain ⟨k, hk, hd⟩ := hnid
    rw [dop_congr (ev' := evOn o.op F) fun y hy => by simp [evOn, hy]] at hd
    obtain ⟨x', u', ⟨rfl, rfl⟩, r, v, w', ι', hr, hrv, hv, hC', hG⟩ := sound_dop E.hte hC hk (a := a) (fun y v hy => by
        unfold evOn at hy
        split at hy
        · rename_i hm
          cases y with
          | tmp t => exact hF t (mem_tmpsL hm) v hy
          | const c =>
            simp only [opdF] at hy
            cases hc : constOK c <;> simp only [hc, reduceCtorEq, Option.some.injEq] at hy
            subst hy
            exact const_VR hc
          | func f =>
            simp only [opdF, Option.some.injEq] at hy
            subst hy
            simp only [VR, PR]
            exact ⟨[], rfl, by simp [TR]⟩
          | global g => simp [opdF] at hy
        · simp at hy) (fun y hy v hv => by
        unfold evOn at hv
        split at hv
        · rename_i hm
          exact fun id hid => hT' id (mem_touchL hy hv hid)
        · simp at hv) hd
    unfold Oper.wp
    rw [hr]
    rcases hrv with rfl | ⟨rfl, rfl⟩
    · exact hKw v w' ι' hv hC' hG
    · exact hKw undef w' ι' hv hC' hG

theorem TV_append {w : World} {X : Nat → Prop} {ι : Io} {G : Own} : ∀ {xs : List AV} {us : List Value} {ys : List AV} {vs : List Value}, TV w X ι G xs us → TV w X ι G ys vs → TV w X ι G (xs ++ ys) (us ++ vs)
  | [], us, ys, vs, h, k => by simp only [TV] at h; subst h; exact k
  | x :: xs, us, ys, vs, h, k => by
    simp only [TV] at h
    obtain ⟨u, us, rfl, h1, h2⟩ := h
    simp only [List.cons_append, TV]
    exact ⟨u, _, rfl, h1, TV_append h2 k⟩
theorem TV_pvs {w : World} {X : Nat → Prop} {ι : Io} {G : Own} : ∀ {ps : List PV} {us : List Value}, TV w X ι G (pvs ps) us ↔ TR w (off X ι G) ps us
  | [], us => by simp [pvs, TV, TR]
  | p :: ps, us => by simp only [pvs, TV, TR, VR, TV_pvs]

theorem astep_call {E : Env} {F : Fn} {H : Heap} {o : Oper} {f : Operand} {args : Array Operand} {ts : Array TypeId} (ho : o.op = .call ⟨.value f, args, ts⟩) {K : AV → Upd → List Nat → Prop}
    {g : FuncId} {fv : AV} {caps vs : List AV} (hf : opdF F f = some fv) (hfv : ∀ w X ι G v, VR w X ι G fv v → ∃ cs : List Value, v = .func (.func g) #[] cs.toArray ∧ TV w X ι G caps cs)
    (hvs : evs (opdF F) args.toList = some vs) (h : ACall E.P g (vs ++ caps) H K) : ∃ x u T, K x u T ∧ AStep E.P F H o x u T := by
  obtain ⟨x, u, T, hA, hK⟩ := h
  refine ⟨x, u, T, hK, hA.ids, fun X w ι G a hC _ hT hF Kw Q hKw => ?_⟩
  have hev : ∀ y v, evOn o.op F y = some v → VR w X ι G v (a.eval y) := fun y v hy => by
    unfold evOn at hy
    split at hy
    · rename_i hm
      cases y with
      | tmp t => exact hF t (mem_tmpsL hm) v hy
      | const c =>
        simp only [opdF] at hy
        cases hc : constOK c <;> simp only [hc, reduceCtorEq, Option.some.injEq] at hy
        subst hy
        exact const_VR hc
      | func f =>
        simp only [opdF, Option.some.injEq] at hy
        subst hy
        simp only [VR, PR]
        exact ⟨[], rfl, by simp [TR]⟩
      | global g => simp [opdF] at hy
    · simp at hy
  have hm : ∀ y, y = f ∨ y ∈ args.toList → y ∈ opersOf o.op := fun y hy => by rw [ho]; simpa [opersOf] using hy
  have h1 := hev f fv (by simp only [evOn, hm f (.inl rfl), if_true]; exact hf)
  obtain ⟨cs, hcs, hTc⟩ := hfv _ _ _ _ _ h1
  have h2 := evs_TV hev args.toList vs (by rw [← hvs]; exact evs_congr _ fun y hy => by simp [evOn, hm y (.inr hy)])
  unfold Oper.wp
  have hrun : (execOp a.eval o).run E.P w = .ok (.enter g (args.map a.eval ++ cs.toArray)) w := by
    simp only [execOp, ho, resolve, hcs, Deferred.ofValue]
    simpa [invoke] using hA.enters (args.map a.eval ++ cs.toArray) w
  rw [hrun]
  simp only [Oper.upon]
  have e1 : args.map a.eval ++ cs.toArray = (args.toList.map a.eval ++ cs).toArray := by
    apply Array.toList_inj.1; simp
  rw [e1]
  refine Calls.mono (hA.calls w X ι G _ hC hT (TV_append h2 hTc)) ?_
  rintro e w' ⟨v, ι', rfl, hv, hC', hG⟩
  exact hKw v w' ι' hv hC' hG

theorem astep_of {E : Env} {F : Fn} {H : Heap} {o : Oper} {K : AV → Upd → List Nat → Prop} (h : aop E (opdF F) H o.op K) : ∃ x u T, K x u T ∧ AStep E.P F H o x u T := by
  obtain ⟨dst, op, type, pos, after, guard⟩ := o
  cases op <;> try exact astep_dop h
  case call c =>
    obtain ⟨callee, args, ts⟩ := c
    cases callee <;> try exact astep_dop h
    rename_i f
    simp only [aop] at h
    split at h
    · rename_i g caps vs hf hvs
      exact astep_call rfl hf (caps := pvs caps) (fun w X ι G v hv => by
        simp only [VR, PR] at hv
        obtain ⟨us, he, hT⟩ := hv
        exact ⟨us, he, TV_pvs.2 hT⟩) hvs h
    · rename_i g caps vs hf hvs
      exact astep_call rfl hf (fun w X ι G v hv => by simpa only [VR] using hv) hvs h
    · exact h.elim
end Go.AM
