import Derived.Test.YtelmconnpdmjhaaGreatDoorPkK
import Derived.Test.YtelmconnpdmjhaaGreatDoorRows
import Derived.LaidMore
import Derived.OpenShut
import Derived.Stop.Joined
import Derived.Lib.Builder
import Derived.Lib.UnsafeStr
import Derived.Shelf.RegionOpenPlain
import Derived.Shelf.Strings.OnBuilder
import Derived.Test.YtelmconnpdmjhaaGreatDoorProg
set_option linter.all false
namespace Go.Proofs.YtelmconnpdmjhaaGreatDoor
open Go.ChangeShapes Go.WideShapes Go.ChangeAt Go.RowKit

/-! ### The door's own heap meets the condition -/
def laid3 : List (String × DataW Unit) := [("math/bits.deBruijn32tab", Rows.laid_math_bits_deBruijn32tab), ("math/bits.deBruijn64tab", Rows.laid_math_bits_deBruijn64tab), ("internal/strconv.uint64pow10", Rows.laid_internal_strconv_uint64pow10)]
theorem laidOut : laidOutB Tryz.prog = true := by kernel_rfl
theorem own : ownKnob Tryz.prog.godebug = none := by kernel_rfl
set_option maxRecDepth 100000 in
theorem door_met (os : Os) (args : Array Value) : laidMetH Tryz.prog laid3 ((World.doorLaid Tryz.prog 400 os).forCall (fun _ _ => 0) ⟨#[], args, []⟩).memory :=
  laidMetH_of_parts3 (fuel := 8) (laidMet_of_run' 8 (by kernel_rfl) (by kernel_rfl)) (by kernel_rfl) (by kernel_rfl)
end Go.Proofs.YtelmconnpdmjhaaGreatDoor

set_option linter.all false
set_option maxRecDepth 100000
set_option maxHeartbeats 4000000
namespace Go.AM
open Go.Proofs

/-! ### strings.Builder, its own cells at the head of a struct -/
theorem bld_info : ∃ j, Tryz.prog.info? 61 = some j ∧ j.size = 2 := Option.map_eq_some_iff.1 (show (Tryz.prog.info? 61).map (·.size) = some 2 by kernel_rfl)
theorem bld_fresh (b n T : Nat) (w : World) (h0 : w.cell? ⟨b, 0, none⟩ = some (.pointer none)) (hn : 0 < n) (hsh : w.shape? b = some (T, n)) (hfz : w.frozen? ⟨b, 0, none⟩ = false)
    (hl : liesAt Tryz.prog Tryz.prog.depth T (n / Tryz.prog.cellsOf T) 0 61 1 = true) :
    Calls Tryz.prog 99 #[.pointer (some ⟨b, 0, none⟩)] w fun e w' => e = .returned (.tuple #[]) ∧ w' = w.setCell ⟨b, 0, none⟩ (.pointer (some ⟨b, 0, none⟩)) := by
  obtain ⟨j, hj, hjs⟩ := bld_info
  go_enter Tryz.func99, Tryz.ntmps99
  go_wp2
  rw [Lib.run_to_unsafe w ⟨b, 0, none⟩ Tryz.underlying58 Tryz.underlying143 hj (by rw [hjs]; decide) hsh hn]
  simp only [Result.andThen]
  rw [Oper.upon_value]
  go_wp2
  rw [run_callFunc_extern Tryz.func129 (by kernel_rfl) (by kernel_rfl) (by kernel_rfl) (e := Extern.AbiNoEscape.same) (by kernel_rfl)]
  rw [Lib.run_noEscape]
  simp only [Result.andThen]
  rw [Oper.upon_value]
  go_wp2
  rw [Lib.run_from_unsafe w ⟨b, 0, none⟩ Tryz.underlying143 Tryz.underlying58 hj hsh hl]
  simp only [Result.andThen]
  rw [Oper.upon_value]
  go_wp2
  go_end0
  exact ⟨rfl, rfl⟩
theorem bld_used (b : Nat) (w : World) (h0 : w.cell? ⟨b, 0, none⟩ = some (.pointer (some ⟨b, 0, none⟩))) :
    Calls Tryz.prog 99 #[.pointer (some ⟨b, 0, none⟩)] w fun e w' => e = .returned (.tuple #[]) ∧ w' = w := by
  obtain ⟨j, hj, hjs⟩ := bld_info
  go_enter Tryz.func99, Tryz.ntmps99
  go_wp2
  rw [Lib.run_neq_ptr_same w _ Tryz.underlying58 hj]
  go_wp2
  go_end0
  exact ⟨rfl, rfl⟩
end Go.AM

set_option linter.all false
set_option maxRecDepth 100000
set_option maxHeartbeats 4000000
namespace Go.AM
open Go.Proofs

theorem raw_nil {w : World} {X : Nat → Prop} {ι : Io} {G : Own} {u : Value} (h : VR w X ι G (.pv (.raw (.pointer none))) u) : u = .pointer none := by
  simp only [VR, PR] at h; exact h.1
theorem TV_one {w : World} {X : Nat → Prop} {ι : Io} {G : Own} {x : AV} {us : List Value} (h : TV w X ι G [x] us) : ∃ u, us = [u] ∧ VR w X ι G x u := by
  simp only [TV] at h
  obtain ⟨u, us', rfl, h1, rfl⟩ := h
  exact ⟨u, rfl, h1⟩
theorem adet_copyCheck {H : Heap} {i T : Nat} {a : AV} {cs : List AV} (hH : hget H i = .box T (a :: cs)) (ha : a = .pv (.raw (.pointer none)) ∨ a = .bp i 0)
    (hl : liesAt Tryz.prog Tryz.prog.depth T ((cs.length + 1) / Tryz.prog.cellsOf T) 0 61 1 = true) :
    ADet Tryz.prog 99 [.bp i 0] H NV [(i, .box T (.bp i 0 :: cs))] [i] where
  enters := enters_of Tryz.func99 (by kernel_rfl) rfl
  ids := fun p hp => by simp at hp; subst hp; simp
  calls := fun w X ι G us hC hT hTV => by
    have hGi : G i = .box T (a :: cs) := (hT i (by simp)).trans hH
    obtain ⟨v, rfl, hv⟩ := TV_one hTV
    have hbr := hC.br i
    rw [hGi] at hbr
    obtain ⟨⟨vs, hh, hcv⟩, h0⟩ := hbr
    simp only [CV] at hcv
    obtain ⟨u, us, rfl, hu1, hu, hcs⟩ := hcv
    have hlive : (G i).live = true := by rw [hGi]; rfl
    have hbx : (G i).isBox = true := by rw [hGi]; rfl
    have hv' : v = .pointer (some ⟨(ι i).1, 0, none⟩) := by
      simp only [VR] at hv
      rw [hv.2.1 hbx, bval_box h0]
    subst hv'
    have hlen : (u :: us).toArray.size = cs.length + 1 := by have := CV_len hcs; simp [this]
    have main : Calls Tryz.prog 99 #[.pointer (some ⟨(ι i).1, 0, none⟩)] w fun e w' => e = .returned (.tuple #[]) ∧ w'.heap.size = w.heap.size ∧ w'.os = w.os ∧ w'.tape = w.tape ∧ w'.output = w.output ∧
        (∀ k, k ≠ (ι i).1 → w'.heap[k]? = w.heap[k]?) ∧ w'.heap[(ι i).1]? = some (.cells (.pointer (some ⟨(ι i).1, 0, none⟩) :: us).toArray T (0, 0)) := by
      rcases ha with rfl | rfl
      · obtain rfl := raw_nil hu
        refine (bld_fresh (ι i).1 (cs.length + 1) T w (by rw [Lib.cell_of_heap hh]; rfl) (by omega) (by simp only [World.shape?, hh]; rw [hlen]) (by simp [World.frozen?, hh]) hl).mono ?_
        rintro e w' ⟨rfl, rfl⟩
        refine ⟨rfl, by simp, rfl, rfl, rfl, fun k hk => heap_setCell_other _ _ _ _ hk, ?_⟩
        rw [heap_setCell_same _ _ _ _ _ _ hh]
        simp
      · have hu' : u = .pointer (some ⟨(ι i).1, 0, none⟩) := by
          simp only [VR] at hu
          rw [hu.2.1 hbx, bval_box h0]
        subst hu'
        refine (bld_used (ι i).1 w (by rw [Lib.cell_of_heap hh]; rfl)).mono ?_
        rintro e w' ⟨rfl, rfl⟩
        exact ⟨rfl, rfl, rfl, rfl, rfl, fun _ _ => rfl, hh⟩
    refine Calls.mono main ?_
    rintro e w' ⟨rfl, h1, h2, h3, h4, h5, h6⟩
    have hg : Gr w ι G w' ι (gset G i (.box T (.bp i 0 :: cs))) := gr_write hlive rfl (fun _ => hbx) (fun h => by cases h) (by omega) h2 h3 h4 (fun k _ hk => h5 k hk)
    refine ⟨_, ι, rfl, by simp [NV, VR, PR, TR], conc_write hC hlive rfl (fun _ => hbx) (fun h => by cases h) (by omega) h2 h3 h4 (fun k _ hk => h5 k hk) ?_, hg⟩
    refine ⟨⟨_, h6, ?_⟩, h0⟩
    simp only [CV]
    refine ⟨_, _, rfl, rfl, ?_, CV.next (hg.next X) _ _ hcs⟩
    simp only [VR]
    rw [gset_self]
    exact ⟨rfl, fun _ => (bval_box h0).symm, rfl⟩

/-! ### String -/
theorem bld_str (b g cap T : Nat) (p : Value) (rest : List Value) (cur : Array Value) (l : List UInt8) (w : World) (hb : w.heap[b]? = some (.cells (p :: .slice (some ⟨g, 0, none⟩) l.length cap :: rest).toArray T (0, 0)))
    (hg : w.heap[g]? = some (.cells cur 5 (0, 0))) (hnc : l.length ≤ cap) (hcm : cap ≤ maxLen) (hcs : cur.size = cap) (htake : cur.toList.take l.length = Lib.byteCells l) (h0 : l ≠ []) :
    Calls Tryz.prog 38 #[.pointer (some ⟨b, 0, none⟩)] w fun e w' => e = .returned (.string ⟨l.toArray⟩) ∧ w' = w.drew.freeze ⟨g, 0, none⟩ l.length := by
  have hl0 : l.length ≠ 0 := by simpa using h0
  have c1 : w.drew.cell? ⟨b, 1, none⟩ = some (.slice (some ⟨g, 0, none⟩) l.length cap) := by
    have : w.drew.heap[b]? = some (.cells (p :: .slice (some ⟨g, 0, none⟩) l.length cap :: rest).toArray T (0, 0)) := hb
    rw [Lib.cell_of_heap this]; rfl
  have hSD : (Builtin.unsafeSliceData_ #[59] 94 #[.slice (some ⟨g, 0, none⟩) l.length cap]).run Tryz.prog w.drew = .ok (.pointer (some ⟨g, 0, none⟩)) w.drew :=
    Lib.run_unsafeSliceData_row _ _ _ _ _ _ (by omega)
  have hUS : (Builtin.unsafeString_ #[94, 3] 9 #[.pointer (some ⟨g, 0, none⟩), .int .i64 l.length]).run Tryz.prog w.drew = .ok (.string ⟨l.toArray⟩) (w.drew.freeze ⟨g, 0, none⟩ l.length) := by
    refine Lib.run_unsafeString_row w.drew 94 3 9 5 Tryz.underlying94 (by kernel_rfl) g cur.size (by have hg' : w.drew.heap[g]? = some (.cells cur 5 (0, 0)) := hg; simp [World.shape?, hg']) l h0 (by omega) (by unfold maxLen at hcm; omega) ?_
    intro j x hx
    rw [add_mk, Nat.zero_add, Lib.cell_of_heap (show w.drew.heap[g]? = some (.cells cur 5 (0, 0)) from hg)]
    have : (Lib.byteCells l)[j]? = some (.int .u8 x.toNat) := by simp [Lib.byteCells, hx]
    rw [← htake, List.getElem?_take] at this
    split at this
    · simpa using this
    · cases this
  go_enter Tryz.func38, Tryz.ntmps38
  go_wp2
  go_region
  all_goals (go_wp2; go_ret; exact ⟨rfl, rfl⟩)
end Go.AM

set_option linter.all false
namespace Go.Proofs
open Go.Shelf
def Tryz.lays156_ren : Go.Shelf.Ren := ⟨fun | 156 => 80 | 165 => 104 | 166 => 64 | 169 => 38 | 240 => 99 | 241 => 134 | 276 => 129 | 277 => 154 | n => n, fun | 31 => 82 | 9 => 9 | 3 => 3 | 4 => 4 | 0 => 0 | 20 => 20 | 72 => 61 | 76 => 88 | 70 => 58 | 37 => 59 | 75 => 87 | 127 => 94 | 164 => 143 | 5 => 5 | 80 => 65 | n => n, fun | n => n⟩
theorem Tryz.lays156 : Go.Proofs.Lays.n156 Tryz.prog Tryz.lays156_ren := {
  mixed := by kernel_rfl
  f156 := Tryz.func80.trans (congrArg some (by kernel_rfl))
  f165 := Tryz.func104.trans (congrArg some (by kernel_rfl))
  f166 := Tryz.func64.trans (congrArg some (by kernel_rfl))
  f169 := Tryz.func38.trans (congrArg some (by kernel_rfl))
  f240 := Tryz.func99.trans (congrArg some (by kernel_rfl))
  f241 := Tryz.func134.trans (congrArg some (by kernel_rfl))
  f276 := Tryz.func129.trans (congrArg some (by kernel_rfl))
  f277 := Tryz.func154.trans (congrArg some (by kernel_rfl))
  t0 := Tryz.underlying0
  a0 := Tryz.isAgg0
  z0 := Tryz.sizeOf0
  v0 := Tryz.zeroValue0
  t3 := Tryz.underlying3
  a3 := Tryz.isAgg3
  z3 := Tryz.sizeOf3
  v3 := Tryz.zeroValue3
  t4 := Tryz.underlying4
  a4 := Tryz.isAgg4
  z4 := Tryz.sizeOf4
  v4 := Tryz.zeroValue4
  t9 := Tryz.underlying9
  a9 := Tryz.isAgg9
  z9 := Tryz.sizeOf9
  v9 := Tryz.zeroValue9
  t20 := Tryz.underlying20
  a20 := Tryz.isAgg20
  z20 := Tryz.sizeOf20
  v20 := Tryz.zeroValue20
  t31 := Tryz.underlying82
  a31 := Tryz.isAgg82
  z31 := Tryz.sizeOf82
  v31 := Tryz.zeroValue82
  t37 := Tryz.underlying59
  a37 := Tryz.isAgg59
  z37 := Tryz.sizeOf59
  v37 := Tryz.zeroValue59
  t70 := Tryz.underlying58
  a70 := Tryz.isAgg58
  z70 := Tryz.sizeOf58
  v70 := Tryz.zeroValue58
  t72 := Tryz.underlying61
  a72 := Tryz.isAgg61
  z72 := Tryz.sizeOf61
  v72 := Tryz.zeroValue61
  t75 := Tryz.underlying87
  a75 := Tryz.isAgg87
  z75 := Tryz.sizeOf87
  v75 := Tryz.zeroValue87
  t76 := Tryz.underlying88
  a76 := Tryz.isAgg88
  z76 := Tryz.sizeOf88
  v76 := Tryz.zeroValue88
  t127 := Tryz.underlying94
  a127 := Tryz.isAgg94
  z127 := Tryz.sizeOf94
  v127 := Tryz.zeroValue94
  t164 := Tryz.underlying143
  a164 := Tryz.isAgg143
  z164 := Tryz.sizeOf143
  v164 := Tryz.zeroValue143 }
theorem Tryz.Builder_Extra_156 : Builder.Extra Tryz.prog Tryz.lays156_ren := {
  sizeBuilder := by kernel_rfl
  liesBuilder := by kernel_rfl
  t5 := Tryz.underlying5
  a5 := Tryz.isAgg5
  z5 := Tryz.sizeOf5
  v5 := Tryz.zeroValue5
  infoByte := by kernel_rfl
  cellsByte := by kernel_rfl
  sizeByte := by kernel_rfl
  neB5 := by decide }
open Go.RowKit in
/-- No element: the empty string; the world is as it was. (Whatever the slice's address and capacity: a nil slice too.) (LAID: no walk: one application.) -/
theorem Tryz.strings_Join_none (a : Option Addr) (c : Nat) (sep : ByteArray) (w : World) :
    Calls Tryz.prog 80 #[.slice a 0 c, .string sep] w fun e w' => e = .returned (.string ⟨#[]⟩) ∧ w' = w := Any.strings_Join_none Tryz.lays156 Tryz.Builder_Extra_156 a c sep w
open Go.RowKit in
/-- strings.Join: "Join concatenates the elements of its first argument to create a single string. The separator string sep is placed between elements in the resulting string.": HOWEVER MANY ELEMENTS. Below the heap's end the world is as it was. (LAID: no walk: one application.) -/
theorem Tryz.strings_Join (bk o c : Nat) (xs : List ByteArray) (sep : ByteArray) (w : World) (hcells : ∀ (j : Nat) x, xs[j]? = some x → w.cell? ⟨bk, o + j, none⟩ = some (.string x)) (hbk : bk < w.heap.size) (hN : xs.length ≤ 140737488355328) (hcap : xs.length ≤ c) (hlen : (Lib.join (xs.map (·.data.toList)) sep.data.toList).length ≤ 140737488355328) :
    Calls Tryz.prog 80 #[.slice (some ⟨bk, o, none⟩) xs.length c, .string sep] w fun e w' => e = .returned (.string ⟨(Lib.join (xs.map (·.data.toList)) sep.data.toList).toArray⟩) ∧ Below w.heap.size w w' := Any.strings_Join Tryz.lays156 Tryz.Builder_Extra_156 bk o c xs sep w hcells hbk hN hcap hlen
end Go.Proofs

set_option linter.all false
set_option maxRecDepth 100000
set_option maxHeartbeats 4000000
namespace Go.AM
open Go.Proofs

def strsP' (xs : List ByteArray) : List PV := xs.map .str
def joinB (xs : List ByteArray) (sep : ByteArray) : ByteArray := ⟨(Lib.join (xs.map (·.data.toList)) sep.data.toList).toArray⟩
theorem adet_join {H : Heap} {k t n : Nat} {xs : List ByteArray} {sep : ByteArray} (hK : hget H k = .row t 1 (pvs (strsP' xs))) (hn : n = xs.length) (hb : (joinB xs sep).size ≤ 140737488355328) (hx : xs.length ≤ 140737488355328) :
    ADet Tryz.prog 80 [.row k n, .pv (.str sep)] H (.pv (.str (joinB xs sep))) [] [k] where
  enters := enters_of Tryz.func80 (by kernel_rfl) rfl
  ids := fun p hp => by simp at hp
  calls := fun w X ι G us hC hT hTV => by
    subst hn
    have hGk : G k = .row t 1 (pvs (strsP' xs)) := (hT k (by simp)).trans hK
    simp only [TV] at hTV
    obtain ⟨v, us, rfl, hv, s, us, rfl, hs, rfl⟩ := hTV
    simp only [VR, PR] at hs
    subst hs
    have hbk := hC.br k
    rw [hGk] at hbk
    have hlt := BR.lt hbk rfl
    obtain ⟨cur, hg, hcsz, hle, hmx, hev⟩ := hbk
    simp only [VR] at hv
    obtain ⟨rfl, hnc⟩ := hv.2.1 (by rw [hGk]; rfl)
    have hlen : (Lib.join (xs.map (·.data.toList)) sep.data.toList).length ≤ 140737488355328 := hb
    refine Calls.mono (Tryz.strings_Join (ι k).1 0 (ι k).2 xs sep w (fun j x hj => ?_) hlt hx hnc hlen) ?_
    · obtain ⟨v, h1, h2, h3⟩ := hev j (.pv (.str x)) (by rw [pvs_get, strsP', List.getElem?_map, hj]; rfl)
      simp only [VR, PR] at h1
      subst h1
      have : cur[j * 1 + 0]? = some (Value.string x) := (h3 0 _ rfl).1
      rw [Nat.mul_one, Nat.add_zero] at this
      rw [Nat.zero_add, Lib.cell_of_heap hg]
      exact this
    · rintro e w' ⟨rfl, hB⟩
      have hP : Pres w w' := { size := hB.size, os := hB.os, tape := hB.tape, output := hB.output, heap := fun b hb => hB.block b hb }
      exact ⟨_, ι, rfl, by simp only [VR, PR]; rfl, hP.conc hC, hP.gr⟩
theorem adet_join0 {H : Heap} {sep : ByteArray} : ADet Tryz.prog 80 [.pv .nils, .pv (.str sep)] H (.pv (.str ⟨#[]⟩)) [] [] where
  enters := enters_of Tryz.func80 (by kernel_rfl) rfl
  ids := fun p hp => by simp at hp
  calls := fun w X ι G us hC hT hTV => by
    simp only [TV] at hTV
    obtain ⟨v, us, rfl, hv, s, us, rfl, hs, rfl⟩ := hTV
    simp only [VR, PR] at hs hv
    subst hs hv
    refine Calls.mono (Tryz.strings_Join_none none 0 sep w) ?_
    rintro e w' ⟨rfl, rfl⟩
    exact ⟨_, ι, rfl, by simp only [VR, PR], hC, Gr.refl _ _ _⟩
end Go.AM

set_option linter.all false
set_option maxRecDepth 20000
set_option maxHeartbeats 8000000
namespace Go.AM
open Go.Proofs

theorem jt_data (sep : ByteArray) : ∀ (r : List ByteArray) (acc : ByteArray), (jt sep acc r).data.toList = acc.data.toList ++ Lib.joinTail sep.data.toList (r.map (·.data.toList))
  | [], acc => by unfold jt; simp [Lib.joinTail]
  | y :: r, acc => by
    unfold jt
    rw [jt_data sep r]
    simp [Lib.joinTail, ByteArray.toList_data_append, List.append_assoc]
theorem joinB_jn (xs : List ByteArray) (sep : ByteArray) : joinB xs sep = jn sep xs := by
  unfold joinB jn
  cases xs with
  | nil => rfl
  | cons x r =>
    rw [List.map_cons, Lib.join_cons, ← jt_data sep r x]
/-- strings.Join of what was appended. -/
theorem acall_join {xs : List ByteArray} {H : Heap} {k t : Nat} {K : AV → Upd → List Nat → Prop} {x : ByteArray} {v : AV} (hv : v = lsV k (strsP' (x :: xs))) (hK : hget H k = .row t 1 (pvs (strsP' (x :: xs)))) (hb : szs (x :: xs) ≤ 100000000)
    (h : K (.pv (.str (jn sepB (x :: xs)))) [] [k]) : ACall Tryz.prog 80 [v, .pv (.str sepB)] H K := by
  have e : v = .row k (xs.length + 1) := by rw [hv]; simp [strsP', lsV]
  subst e
  have h2 := jn_size sepB rfl (x :: xs)
  have h3 : ∀ l : List ByteArray, l.length ≤ szs l := fun l => by
    induction l with
    | nil => exact Nat.zero_le _
    | cons a l ih => rw [szs_cons, List.length_cons]; omega
  have h4 := h3 (x :: xs)
  refine acall_intro (adet_join (xs := x :: xs) hK rfl (by rw [joinB_jn]; omega) (by omega)) ?_
  rw [joinB_jn]
  exact h
theorem strsQ_nil : strsP' [] = [] := rfl
theorem strsQ_cons (x : ByteArray) (l : List ByteArray) : strsP' (x :: l) = .str x :: strsP' l := rfl
theorem strsQ_snoc (l : List ByteArray) (x : ByteArray) : strsP' (l ++ [x]) = strsP' l ++ [.str x] := by simp [strsP']
theorem texts_of {D : List Dt} (hN : DN D) (l : List Ix) (us : List V) (hlen : l.length = us.length) (hc : Ix.cntL l ≤ 1000) (hq : ∀ (j : Nat) i u, l[j]? = some i → us[j]? = some u → Det Tryz.prog 50 [.lst 3 (Dt.pvL D), u.pv, i.pv] (.str (Ix.txt D i u))) :
    Det Tryz.prog 78 [.lst 3 (Dt.pvL D), .lst 3 (V.pvL us), .lst 2 (Ix.pvL l)] (.str (par (jn sepB (Ix.txtL D l us)))) := by
  have hsz := Ix.txtL_size hN l us
  have hll := Ix.len_cntL l
  generalize hT : Ix.txtL D l us = T at hsz
  refine det_of_vc' (E := S.E 0) rfl fol Tryz.func78 rfl rfl (slots := [6]) rfl rfl fun hw => ?_
  have hl : l.length ≤ 9223372036854775807 := by omega
  set_option smartUnfolding false in conv => whnf
  refine vloop_intro (σ := Nat × List PV) (fun x => x.1 ≤ l.length ∧ x.2 ++ strsP' (Ix.txtL D (l.drop x.1) (us.drop x.1)) = strsP' T ∧ x.2.length = x.1) (fun x => [(0, .pv (.lst 3 (Dt.pvL D))), (1, .pv (.lst 3 (V.pvL us))), (7, lsV 0 x.2), (10, .pv (.lst 2 (Ix.pvL l))), (11, .pv (.int .i64 (Ix.pvL l).length)), (12, .pv (.int .i64 x.1))])
    (fun x => [lsB 9 1 x.2]) (fun x => l.length - x.1) (0, []) ⟨by simp, by simp [hT], rfl⟩ (weak_ren [0] 1 (by kernel_rfl) (blkD trivial) ⟨(by kernel_rfl), (by kernel_rfl), (by kernel_rfl), (by kernel_rfl), (by kernel_rfl), (by kernel_rfl), trivial⟩) ?_
  rintro ⟨i, ps⟩ ⟨hi, hs, hpl⟩
  simp only at hi hs hpl
  set_option smartUnfolding false in conv => whnf
  refine br_intro (fun h => ?_) (fun h => ?_) <;> set_option smartUnfolding false in conv => whnf
  · replace h : i < l.length := by have := dT h; rw [Ix.pvL_len] at this; simpa using this
    refine Ix.get_elim h fun n1 es1 hv hg hg0 hd => ?_
    refine V.get_elim (l := us) (i := i) (by omega) fun k2 n2 ks2 hv2 hg2 hg02 hd2 => ?_
    have hdet := hq i _ _ hg0 hg02
    rw [Ix.pv_mk, V.pv_mk] at hdet
    rw [hd, hd2, Ix.txtL_cons, strsQ_cons] at hs
    generalize Ix.txt D (.mk n1 es1) (.mk k2 n2 ks2) = s at hdet hs
    refine ⟨Ix.ag n1 es1, ⟨by simp, by simpa using hg⟩, ?_⟩
    set_option smartUnfolding false in conv => whnf
    refine ⟨V.ag k2 n2 ks2, ⟨by simp, by simpa using hg2⟩, ?_⟩
    set_option smartUnfolding false in conv => whnf
    refine acall_det (ps := [.lst 3 (Dt.pvL D), V.ag k2 n2 ks2, Ix.ag n1 es1]) hdet ?_
    set_option smartUnfolding false in conv => whnf
    refine ⟨Nat.le_refl 1, ?_⟩
    set_option smartUnfolding false in conv => whnf
    cases ps with
    | nil =>
      set_option smartUnfolding false in conv => whnf
      refine ⟨⟨⟨by decide, by decide⟩, by decide⟩, ?_⟩
      set_option smartUnfolding false in conv => whnf
      exact ⟨(i + 1, [] ++ [.str s]), ⟨h, by rw [← hs]; simp, by simp at hpl ⊢; omega⟩, weak_ren [3] 4 (by kernel_rfl) (blk (by kernel_rfl) trivial) ⟨(by kernel_rfl), (by kernel_rfl), (by kernel_rfl), (by kernel_rfl), (by kernel_rfl), sUp h hl, trivial⟩, subUp h⟩
    | cons p ps =>
      set_option smartUnfolding false in conv => whnf
      simp only [List.length_cons] at hpl
      refine ⟨⟨⟨by simp [pvs_len], by simp only [Nat.succ_eq_add_one]; omega⟩, by rw [show ((S.E 0).te 9).bytes = 16 from rfl]; simp only [Nat.succ_eq_add_one]; omega⟩, ?_⟩
      set_option smartUnfolding false in conv => whnf
      exact ⟨(i + 1, (p :: ps) ++ [.str s]), ⟨h, by rw [← hs]; simp, by simp; omega⟩, weak_ren [3] 4 (by kernel_rfl) (blkR_snoc (by kernel_rfl) trivial) ⟨(by kernel_rfl), (by kernel_rfl), by simp only [lsV_snoc]; kernel_rfl, (by kernel_rfl), (by kernel_rfl), sUp h hl, trivial⟩, subUp h⟩
  · replace h : ¬ i < l.length := by have := dF h; rw [Ix.pvL_len] at this; simpa using this
    rw [List.drop_of_length_le (by omega), Ix.txtL_nil, strsQ_nil, List.append_nil] at hs
    subst hs
    cases T with
    | nil =>
      set_option smartUnfolding false in conv => whnf
      refine acall_intro adet_join0 ?_
      set_option smartUnfolding false in conv => whnf
      refine ⟨by decide, ?_⟩
      set_option smartUnfolding false in conv => whnf
      refine ⟨by decide, ?_⟩
      set_option smartUnfolding false in conv => whnf
      exact rdP (by rw [jn_nil]; rfl)
    | cons x xs =>
      have h2 := jn_size sepB rfl (x :: xs)
      have hlen : (strsP' xs).length = xs.length := by simp [strsP']
      set_option smartUnfolding false in conv => whnf
      refine acall_join (k := 0) (x := x) (xs := xs) rfl rfl (by omega) ?_
      set_option smartUnfolding false in conv => whnf
      generalize jn sepB (x :: xs) = j at h2
      refine ⟨by show 1 + j.size ≤ _; omega, ?_⟩
      set_option smartUnfolding false in conv => whnf
      refine ⟨by rw [ByteArray.size_append]; show 1 + j.size + 1 ≤ _; omega, ?_⟩
      set_option smartUnfolding false in conv => whnf
      exact rdP (.refl _)
end Go.AM

set_option linter.all false
set_option maxRecDepth 20000
set_option maxHeartbeats 8000000
namespace Go.AM
open Go.Proofs

theorem con_of_pay {D : List Dt} {tn c : Int} {ts us : List V} (h : payS D (.mk 5 tn ts) c = some us) : 0 ≤ tn ∧ 0 ≤ c ∧ ∃ x y, D[tn.toNat]? = some x ∧ x.cons[c.toNat]? = some y := by
  cases hf : fieldsS D (.mk 5 tn ts) c with
  | none => rw [payS_none hf] at h; cases h
  | some fs =>
    unfold fieldsS at hf
    cases hc : conOf D (.mk 5 tn ts) c with
    | none => rw [hc] at hf; cases hf
    | some y =>
      unfold conOf at hc
      simp only at hc
      by_cases hk : True ∧ 0 ≤ tn ∧ 0 ≤ c
      · rw [if_pos hk] at hc
        cases hx : D[tn.toNat]? with
        | none => rw [hx] at hc; cases hc
        | some x =>
          rw [hx] at hc
          simp only at hc
          by_cases hl : (ts.length : Int) = x.vars
          · rw [if_pos hl] at hc
            exact ⟨hk.2.1, hk.2.2, x, y, rfl, hc⟩
          · rw [if_neg hl] at hc; cases hc
      · rw [if_neg hk] at hc; cases hc
theorem text_det {D : List Dt} (hD : DOK D) (hN : DN D) (hv : dvalid D = true) (i : Ix) : ∀ t d, Good D t → i.cnt ≤ 1000 → Ix.deg D i t = some d → Det Tryz.prog 50 [.lst 3 (Dt.pvL D), t.pv, i.pv] (.str (Ix.txt D i t)) := by
  refine Ix.rec2 (p := fun i => ∀ t d, Good D t → i.cnt ≤ 1000 → Ix.deg D i t = some d → Det Tryz.prog 50 [.lst 3 (Dt.pvL D), t.pv, i.pv] (.str (Ix.txt D i t))) (fun n ks ih ih2 t d hg hc hdeg => ?_) i
  obtain ⟨tk, tn, ts⟩ := t
  rw [Ix.cnt_mk] at hc
  have hT : ∀ us : List V, (∀ u ∈ us, Good D u) → ∀ a d, Ix.degL D a ks us = some d → Det Tryz.prog 78 [.lst 3 (Dt.pvL D), .lst 3 (V.pvL us), .lst 2 (Ix.pvL ks)] (.str (par (jn sepB (Ix.txtL D ks us)))) := fun us hus a d hL =>
    texts_of hN ks us (Ix.degL_len hL) (by omega) fun j e u h1 h2 => by
      obtain ⟨x, hx⟩ := Ix.degL_get hL j e u h1 h2
      have hm := List.mem_of_getElem? h1
      exact ih e hm u x (hus u (List.mem_of_getElem? h2)) (by have := Ix.cnt_mem hm; omega) hx
  have hT2 : ∀ c es, Ix.mk c es ∈ ks → ∀ us : List V, (∀ u ∈ us, Good D u) → ∀ a d, Ix.degL D a es us = some d → Det Tryz.prog 78 [.lst 3 (Dt.pvL D), .lst 3 (V.pvL us), .lst 2 (Ix.pvL es)] (.str (par (jn sepB (Ix.txtL D es us)))) := fun c es he us hus a d hL => by
    have hce := Ix.cnt_mem he
    rw [Ix.cnt_mk] at hce
    exact texts_of hN es us (Ix.degL_len hL) (by omega) fun j e u h1 h2 => by
      obtain ⟨x, hx⟩ := Ix.degL_get hL j e u h1 h2
      have hm := List.mem_of_getElem? h1
      exact ih2 c es he e hm u x (hus u (List.mem_of_getElem? h2)) (by have := Ix.cnt_mem hm; omega) hx
  clear ih ih2
  rw [Ix.deg_mk] at hdeg
  rw [Ix.txt_mk, V.pv_mk, Ix.pv_mk]
  refine det_of_vc' (E := S.E 0) rfl fol Tryz.func50 rfl rfl (slots := [6]) rfl rfl fun hw => ?_
  have hll := Ix.len_cntL ks
  have hl : ks.length ≤ 9223372036854775807 := by omega
  set_option smartUnfolding false in conv => whnf
  refine br_intro (fun h1 => ?_) (fun h1 => ?_) <;> set_option smartUnfolding false in conv => whnf
  · have h1 : tk = 6 := by simpa using h1
    rw [if_pos h1] at hdeg ⊢
    by_cases hn : n = 0
    · rw [if_pos hn] at hdeg
      refine acall_det (ps := [.lst 3 (Dt.pvL D), .lst 3 (V.pvL ts), .lst 2 (Ix.pvL ks)]) (hT ts (fun u hu => hg.kid hu) 0 d hdeg) ?_
      set_option smartUnfolding false in conv => whnf
      exact rdP (.refl _)
    · rw [if_neg hn] at hdeg; cases hdeg
  have h1 : ¬ tk = 6 := by simpa using h1
  rw [if_neg h1] at hdeg ⊢
  refine br_intro (fun h2 => ?_) (fun h2 => ?_) <;> set_option smartUnfolding false in conv => whnf
  · have h2 : tk = 7 := by simpa using h2
    rw [if_pos h2] at hdeg ⊢
    by_cases hn : 0 ≤ n ∧ n ≤ 6 ∧ ks.length = 0
    · refine acall_det (ps := [.int .i64 n]) (itoaD_det n hn.1 (by omega)) ?_
      set_option smartUnfolding false in conv => whnf
      exact rdP (.refl _)
    · rw [if_neg hn] at hdeg; cases hdeg
  have h2 : ¬ tk = 7 := by simpa using h2
  rw [if_neg h2] at hdeg ⊢
  refine br_intro (fun h3 => ?_) (fun h3 => ?_) <;> set_option smartUnfolding false in conv => whnf
  · have h3 : tk = 5 := by simpa using h3
    subst h3
    rw [if_pos rfl] at hdeg ⊢
    by_cases hn : n = 0 ∧ ks.length ≤ 6
    rotate_left
    · rw [if_neg hn] at hdeg; cases hdeg
    rw [if_pos hn] at hdeg
    have hK := Ix.degE_get hdeg
    have hsz := Ix.txtE_size hN (.mk 5 tn ts) ks
    generalize hTT : Ix.txtE D (.mk 5 tn ts) ks = T at hsz
    refine vloop_intro (σ := Nat × List PV) (fun x => x.1 ≤ ks.length ∧ x.2 ++ strsP' (Ix.txtE D (.mk 5 tn ts) (ks.drop x.1)) = strsP' T ∧ x.2.length = x.1) (fun x => [(0, .pv (.lst 3 (Dt.pvL D))), (4, .bp 0 0), (7, lsV 1 x.2), (31, .pv (.lst 2 (Ix.pvL ks))), (32, .pv (.int .i64 (Ix.pvL ks).length)), (33, .pv (.int .i64 x.1))])
      (fun x => [.box 28 [.pv (.int .i64 5), .pv (.int .i64 tn), .pv (.lst 3 (V.pvL ts))], lsB 9 1 x.2]) (fun x => ks.length - x.1) (0, []) ⟨by simp, by simp [hTT], rfl⟩ (weak_ren [0, 2] 3 (by kernel_rfl) (blk (by kernel_rfl) (blkD trivial)) ⟨(by kernel_rfl), (by kernel_rfl), (by kernel_rfl), (by kernel_rfl), (by kernel_rfl), (by kernel_rfl), trivial⟩) ?_
    rintro ⟨i, ps⟩ ⟨hi, hs, hpl⟩
    simp only at hi hs hpl
    set_option smartUnfolding false in conv => whnf
    refine br_intro (fun h => ?_) (fun h => ?_) <;> set_option smartUnfolding false in conv => whnf
    · replace h : i < ks.length := by have := dT h; rw [Ix.pvL_len] at this; simpa using this
      refine Ix.get_elim h fun c1 es1 hv1 hg1 hg0 hd => ?_
      have hce := Ix.cnt_mem hv1
      rw [Ix.cnt_mk] at hce
      obtain ⟨x1, hx1⟩ := hK _ hv1
      have hx1' := hx1
      rw [Ix.degK_mk] at hx1
      cases hp : payS D (.mk 5 tn ts) c1 with
      | none => rw [hp] at hx1; cases hx1
      | some us =>
        rw [hp] at hx1
        simp only at hx1
        have hpay := payloads_t hD tn ts hg c1
        rw [hp, V.pv_mk, optP_some, List.nil_append] at hpay
        obtain ⟨ht0, hc0, xd, yc, hxd, hyc⟩ := con_of_pay hp
        have hnm : cnam D (.mk 5 tn ts) c1 = yc.name := by
          unfold cnam V.num
          rw [hxd]; simp only; rw [hyc]
        have htx := hT2 c1 es1 hv1 us (payS_good hv hg hp) 0 x1 hx1
        have hts := Ix.txtL_size hN es1 us
        have hjs := jn_size sepB rfl (Ix.txtL D es1 us)
        have hps := par_size (jn sepB (Ix.txtL D es1 us))
        have hns := cnam_size hN (.mk 5 tn ts) c1
        rw [hd, Ix.txtE_cons, strsQ_cons, Ix.txtK_mk, hp] at hs
        simp only at hs
        rw [hnm] at hs hns
        generalize par (jn sepB (Ix.txtL D es1 us)) = tx at htx hps hs
        have hD1 := (List.getElem?_eq_some_iff.1 hxd).1
        have hC1 := (List.getElem?_eq_some_iff.1 hyc).1
        refine Dt.get_elim (l := D) (i := tn.toNat) hD1 fun nm vs cs hmem hdg hdg2 _ => ?_
        rw [hxd] at hdg2
        obtain rfl : xd = ⟨nm, vs, cs⟩ := Option.some.inj hdg2
        refine Cn.get_elim (l := cs) (i := c1.toNat) hC1 fun cn cas hcm hcg hcg2 _ => ?_
        simp only at hyc
        rw [hyc] at hcg2
        obtain rfl : yc = ⟨cn, cas⟩ := Option.some.inj hcg2
        simp only at hs hns
        refine ⟨Ix.ag c1 es1, ⟨by simp, by simpa using hg1⟩, ?_⟩
        set_option smartUnfolding false in conv => whnf
        refine ⟨Dt.ag nm vs cs, ⟨ht0, hdg⟩, ?_⟩
        set_option smartUnfolding false in conv => whnf
        refine ⟨Cn.ag cn cas, ⟨hc0, hcg⟩, ?_⟩
        set_option smartUnfolding false in conv => whnf
        refine br_intro (fun g => ?_) (fun g => ?_) <;> set_option smartUnfolding false in conv => whnf
        · have g := dT g
          rw [Ix.pvL_len] at g
          rw [if_neg (by omega)] at hs
          refine acall_det (ps := [.lst 3 (Dt.pvL D), V.ag 5 tn ts, .int .i64 c1]) hpay ?_
          set_option smartUnfolding false in conv => whnf
          refine acall_det (ps := [.lst 3 (Dt.pvL D), .lst 3 (V.pvL us), .lst 2 (Ix.pvL es1)]) htx ?_
          set_option smartUnfolding false in conv => whnf
          refine ⟨by omega, ?_⟩
          set_option smartUnfolding false in conv => whnf
          refine ⟨Nat.le_refl 1, ?_⟩
          set_option smartUnfolding false in conv => whnf
          cases ps with
          | nil =>
            set_option smartUnfolding false in conv => whnf
            refine ⟨⟨⟨by decide, by decide⟩, by decide⟩, ?_⟩
            set_option smartUnfolding false in conv => whnf
            exact ⟨(i + 1, [] ++ [.str (cn ++ tx)]), ⟨h, by rw [← hs]; simp, by simp at hpl ⊢; omega⟩, weak_ren [0, 4] 5 (by kernel_rfl) (blk (by kernel_rfl) (blk (by kernel_rfl) trivial)) ⟨(by kernel_rfl), (by kernel_rfl), (by kernel_rfl), (by kernel_rfl), (by kernel_rfl), sUp h hl, trivial⟩, subUp h⟩
          | cons p ps =>
            set_option smartUnfolding false in conv => whnf
            simp only [List.length_cons] at hpl
            refine ⟨⟨⟨by simp [pvs_len], by simp only [Nat.succ_eq_add_one]; omega⟩, by rw [show ((S.E 0).te 9).bytes = 16 from rfl]; simp only [Nat.succ_eq_add_one]; omega⟩, ?_⟩
            set_option smartUnfolding false in conv => whnf
            exact ⟨(i + 1, (p :: ps) ++ [.str (cn ++ tx)]), ⟨h, by rw [← hs]; simp, by simp; omega⟩, weak_ren [0, 4] 5 (by kernel_rfl) (blk (by kernel_rfl) (blkR_snoc (by kernel_rfl) trivial)) ⟨(by kernel_rfl), (by kernel_rfl), by simp only [lsV_snoc]; kernel_rfl, (by kernel_rfl), (by kernel_rfl), sUp h hl, trivial⟩, subUp h⟩
        · have g := dF g
          rw [Ix.pvL_len] at g
          rw [if_pos (by omega)] at hs
          refine ⟨Nat.le_refl 1, ?_⟩
          set_option smartUnfolding false in conv => whnf
          cases ps with
          | nil =>
            set_option smartUnfolding false in conv => whnf
            refine ⟨⟨⟨by decide, by decide⟩, by decide⟩, ?_⟩
            set_option smartUnfolding false in conv => whnf
            exact ⟨(i + 1, [] ++ [.str cn]), ⟨h, by rw [← hs]; simp, by simp at hpl ⊢; omega⟩, weak_ren [0, 4] 5 (by kernel_rfl) (blk (by kernel_rfl) (blk (by kernel_rfl) trivial)) ⟨(by kernel_rfl), (by kernel_rfl), (by kernel_rfl), (by kernel_rfl), (by kernel_rfl), sUp h hl, trivial⟩, subUp h⟩
          | cons p ps =>
            set_option smartUnfolding false in conv => whnf
            simp only [List.length_cons] at hpl
            refine ⟨⟨⟨by simp [pvs_len], by simp only [Nat.succ_eq_add_one]; omega⟩, by rw [show ((S.E 0).te 9).bytes = 16 from rfl]; simp only [Nat.succ_eq_add_one]; omega⟩, ?_⟩
            set_option smartUnfolding false in conv => whnf
            exact ⟨(i + 1, (p :: ps) ++ [.str cn]), ⟨h, by rw [← hs]; simp, by simp; omega⟩, weak_ren [0, 4] 5 (by kernel_rfl) (blk (by kernel_rfl) (blkR_snoc (by kernel_rfl) trivial)) ⟨(by kernel_rfl), (by kernel_rfl), by simp only [lsV_snoc]; kernel_rfl, (by kernel_rfl), (by kernel_rfl), sUp h hl, trivial⟩, subUp h⟩
    · replace h : ¬ i < ks.length := by have := dF h; rw [Ix.pvL_len] at this; simpa using this
      rw [List.drop_of_length_le (by omega), Ix.txtE_nil, strsQ_nil, List.append_nil] at hs
      subst hs
      cases T with
      | nil =>
        set_option smartUnfolding false in conv => whnf
        refine acall_intro adet_join0 ?_
        set_option smartUnfolding false in conv => whnf
        refine ⟨by decide, ?_⟩
        set_option smartUnfolding false in conv => whnf
        refine ⟨by decide, ?_⟩
        set_option smartUnfolding false in conv => whnf
        exact rdP (by rw [jn_nil]; rfl)
      | cons x xs =>
        have h2 := jn_size sepB rfl (x :: xs)
        set_option smartUnfolding false in conv => whnf
        refine acall_join (k := 1) (x := x) (xs := xs) rfl rfl (by omega) ?_
        set_option smartUnfolding false in conv => whnf
        generalize jn sepB (x :: xs) = j at h2
        refine ⟨by show 1 + j.size ≤ _; omega, ?_⟩
        set_option smartUnfolding false in conv => whnf
        refine ⟨by rw [ByteArray.size_append]; show 1 + j.size + 1 ≤ _; omega, ?_⟩
        set_option smartUnfolding false in conv => whnf
        exact rdP (.refl _)
  have h3 : ¬ tk = 5 := by simpa using h3
  rw [if_neg h3] at hdeg ⊢
  exact rdP (.refl _)
end Go.AM

set_option linter.all false
set_option maxRecDepth 20000
set_option maxHeartbeats 8000000
namespace Go.AM
open Go.Proofs

theorem rformat_det {D : List Dt} (hD : DOK D) (hN : DN D) (hv : dvalid D = true) (i : Ix) : ∀ t d, Good D t → i.cnt ≤ 1000 → Ix.deg D i t = some d → Det Tryz.prog 51 [.lst 3 (Dt.pvL D), t.pv, i.pv] (.str (Ix.txt D i t)) := by
  refine Ix.rec2 (p := fun i => ∀ t d, Good D t → i.cnt ≤ 1000 → Ix.deg D i t = some d → Det Tryz.prog 51 [.lst 3 (Dt.pvL D), t.pv, i.pv] (.str (Ix.txt D i t))) (fun n ks ih ih2 t d hg hc hdeg => ?_) i
  obtain ⟨tk, tn, ts⟩ := t
  rw [Ix.cnt_mk] at hc
  have hgc := hg.cnt
  have hT : ∀ us : List V, (∀ u ∈ us, Good D u) → ∀ a d, Ix.degL D a ks us = some d → Det Tryz.prog 81 [.lst 3 (Dt.pvL D), .lst 3 (V.pvL us), .lst 2 (Ix.pvL ks)] (.str (jn sepB (Ix.txtL D ks us))) := fun us hus a d hL =>
    list_of15 hN ks us (Ix.degL_len hL) (by omega) fun j e u h1 h2 => by
      obtain ⟨x, hx⟩ := Ix.degL_get hL j e u h1 h2
      have hm := List.mem_of_getElem? h1
      exact ih e hm u x (hus u (List.mem_of_getElem? h2)) (by have := Ix.cnt_mem hm; omega) hx
  have hT2 : ∀ c es, Ix.mk c es ∈ ks → ∀ us : List V, (∀ u ∈ us, Good D u) → ∀ a d, Ix.degL D a es us = some d → Det Tryz.prog 81 [.lst 3 (Dt.pvL D), .lst 3 (V.pvL us), .lst 2 (Ix.pvL es)] (.str (jn sepB (Ix.txtL D es us))) := fun c es he us hus a d hL => by
    have hce := Ix.cnt_mem he
    rw [Ix.cnt_mk] at hce
    exact list_of15 hN es us (Ix.degL_len hL) (by omega) fun j e u h1 h2 => by
      obtain ⟨x, hx⟩ := Ix.degL_get hL j e u h1 h2
      have hm := List.mem_of_getElem? h1
      exact ih2 c es he e hm u x (hus u (List.mem_of_getElem? h2)) (by have := Ix.cnt_mem hm; omega) hx
  clear ih ih2
  rw [Ix.deg_mk] at hdeg
  rw [Ix.txt_mk, V.pv_mk, Ix.pv_mk]
  refine det_of_vc' (E := S.E 0) rfl fol Tryz.func51 rfl rfl (slots := [6]) rfl rfl fun hw => ?_
  have hll := Ix.len_cntL ks
  have hl : ks.length ≤ 9223372036854775807 := by omega
  set_option smartUnfolding false in conv => whnf
  refine br_intro (fun h1 => ?_) (fun h1 => ?_) <;> set_option smartUnfolding false in conv => whnf
  · have h1 : tk = 6 := by simpa using h1
    rw [if_pos h1] at hdeg ⊢
    by_cases hn : n = 0
    · rw [if_pos hn] at hdeg
      have h2 := jn_size sepB rfl (Ix.txtL D ks ts)
      have h3 := Ix.txtL_size hN ks ts
      refine acall_det (ps := [.lst 3 (Dt.pvL D), .lst 3 (V.pvL ts), .lst 2 (Ix.pvL ks)]) (hT ts (fun u hu => hg.kid hu) 0 d hdeg) ?_
      set_option smartUnfolding false in conv => whnf
      generalize jn sepB (Ix.txtL D ks ts) = j at h2
      refine ⟨by show 1 + j.size ≤ _; omega, ?_⟩
      set_option smartUnfolding false in conv => whnf
      refine ⟨by rw [ByteArray.size_append]; show 1 + j.size + 1 ≤ _; omega, ?_⟩
      set_option smartUnfolding false in conv => whnf
      exact rdP (.refl _)
    · rw [if_neg hn] at hdeg; cases hdeg
  have h1 : ¬ tk = 6 := by simpa using h1
  rw [if_neg h1] at hdeg ⊢
  refine br_intro (fun h2 => ?_) (fun h2 => ?_) <;> set_option smartUnfolding false in conv => whnf
  · have h2 : tk = 7 := by simpa using h2
    rw [if_pos h2] at hdeg ⊢
    by_cases hn : 0 ≤ n ∧ n ≤ 6 ∧ ks.length = 0
    · refine acall_det (ps := [.int .i64 n]) (number_det n hn.1 (by omega)) ?_
      set_option smartUnfolding false in conv => whnf
      exact rdP (.refl _)
    · rw [if_neg hn] at hdeg; cases hdeg
  have h2 : ¬ tk = 7 := by simpa using h2
  rw [if_neg h2] at hdeg ⊢
  refine br_intro (fun h3 => ?_) (fun h3 => ?_) <;> set_option smartUnfolding false in conv => whnf
  · have h3 : tk = 5 := by simpa using h3
    subst h3
    rw [if_pos rfl] at hdeg ⊢
    by_cases hn : n = 0 ∧ ks.length ≤ 6
    rotate_left
    · rw [if_neg hn] at hdeg; cases hdeg
    rw [if_pos hn] at hdeg
    have hK := Ix.degE_get hdeg
    have hsz := Ix.txtE_size hN (.mk 5 tn ts) ks
    generalize hTT : Ix.txtE D (.mk 5 tn ts) ks = T at hsz
    refine vloop_intro (σ := Nat × List ByteArray) (fun x => x.1 ≤ ks.length ∧ x.2 ++ Ix.txtE D (.mk 5 tn ts) (ks.drop x.1) = T ∧ x.2.length = x.1) (fun x => [(0, .pv (.lst 3 (Dt.pvL D))), (4, .bp 0 0), (7, .pv (.str (jn sepB x.2))), (32, .pv (.lst 2 (Ix.pvL ks))), (33, .pv (.int .i64 (Ix.pvL ks).length)), (34, .pv (.int .i64 x.1))])
      (fun x => [.box 28 [.pv (.int .i64 5), .pv (.int .i64 tn), .pv (.lst 3 (V.pvL ts))]]) (fun x => ks.length - x.1) (0, []) ⟨by simp, by simp [hTT], rfl⟩ (weak_ren [0] 2 (by kernel_rfl) (blk (by kernel_rfl) trivial) ⟨(by kernel_rfl), (by kernel_rfl), sStr (jn_nil sepB).symm, (by kernel_rfl), (by kernel_rfl), (by kernel_rfl), trivial⟩) ?_
    rintro ⟨i, ps⟩ ⟨hi, hs, hpl⟩
    simp only at hi hs hpl
    set_option smartUnfolding false in conv => whnf
    refine br_intro (fun h => ?_) (fun h => ?_) <;> set_option smartUnfolding false in conv => whnf
    · replace h : i < ks.length := by have := dT h; rw [Ix.pvL_len] at this; simpa using this
      refine Ix.get_elim h fun c1 es1 hv1 hg1 hg0 hd => ?_
      have hce := Ix.cnt_mem hv1
      rw [Ix.cnt_mk] at hce
      obtain ⟨x1, hx1⟩ := hK _ hv1
      have hx1' := hx1
      rw [Ix.degK_mk] at hx1
      cases hp : payS D (.mk 5 tn ts) c1 with
      | none => rw [hp] at hx1; cases hx1
      | some us =>
        rw [hp] at hx1
        simp only at hx1
        have hpay := payTypes_det hD tn ts (by omega) c1
        rw [hp, V.pv_mk, optP_some, List.nil_append] at hpay
        obtain ⟨ht0, hc0, xd, yc, hxd, hyc⟩ := con_of_pay hp
        have hnm : cnam D (.mk 5 tn ts) c1 = yc.name := by
          unfold cnam V.num
          rw [hxd]; simp only; rw [hyc]
        have htx := hT2 c1 es1 hv1 us (payS_good hv hg hp) 0 x1 hx1
        have hts := Ix.txtL_size hN es1 us
        have hjs := jn_size sepB rfl (Ix.txtL D es1 us)
        have hns := cnam_size hN (.mk 5 tn ts) c1
        have hti := Ix.txtK_size hN (.mk 5 tn ts) (.mk c1 es1)
        rw [Ix.txtK_mk, hp] at hti
        rw [hd, Ix.txtE_cons, Ix.txtK_mk, hp] at hs
        simp only at hs hti
        rw [hnm] at hs hns hti
        have hpar : par (jn sepB (Ix.txtL D es1 us)) = ((⟨#[40]⟩ : ByteArray) ++ jn sepB (Ix.txtL D es1 us)) ++ ⟨#[41]⟩ := rfl
        rw [hpar] at hs hti
        generalize jn sepB (Ix.txtL D es1 us) = tx at htx hs hjs hti
        have hz := congrArg szs hs
        rw [szs_app, szs_cons] at hz
        have hj := jn_size sepB rfl ps
        have hD1 := (List.getElem?_eq_some_iff.1 hxd).1
        have hC1 := (List.getElem?_eq_some_iff.1 hyc).1
        refine Dt.get_elim (l := D) (i := tn.toNat) hD1 fun nm vs cs hmem hdg hdg2 _ => ?_
        rw [hxd] at hdg2
        obtain rfl : xd = ⟨nm, vs, cs⟩ := Option.some.inj hdg2
        refine Cn.get_elim (l := cs) (i := c1.toNat) hC1 fun cn cas hcm hcg hcg2 _ => ?_
        simp only at hyc
        rw [hyc] at hcg2
        obtain rfl : yc = ⟨cn, cas⟩ := Option.some.inj hcg2
        simp only at hs hns hti hz
        refine ⟨Ix.ag c1 es1, ⟨by simp, by simpa using hg1⟩, ?_⟩
        set_option smartUnfolding false in conv => whnf
        have hT0 : szs T ≤ 20000000 := by omega
        have hjp : (jn sepB ps).size ≤ 20000000 := by omega
        refine br_intro (fun g => ?_) (fun g => ?_) <;> set_option smartUnfolding false in conv => whnf
        · have g := dT g
          cases ps with
          | nil => simp only [List.length_nil] at hpl; subst hpl; simp at g
          | cons p ps =>
            have hE : ∀ z, (jn sepB (p :: ps) ++ ⟨#[44, 32]⟩) ++ z = jn sepB ((p :: ps) ++ [z]) := fun z => by rw [jn_snoc]; rfl
            have hS : (jn sepB (p :: ps) ++ ⟨#[44, 32]⟩ : ByteArray).size ≤ 20000002 := by rw [ByteArray.size_append]; show (jn sepB (p :: ps)).size + 2 ≤ _; omega
            refine ⟨by show (jn sepB (p :: ps)).size + 2 ≤ _; omega, ?_⟩
            set_option smartUnfolding false in conv => whnf
            refine ⟨Dt.ag nm vs cs, ⟨ht0, hdg⟩, ?_⟩
            set_option smartUnfolding false in conv => whnf
            refine ⟨Cn.ag cn cas, ⟨hc0, hcg⟩, ?_⟩
            set_option smartUnfolding false in conv => whnf
            refine ⟨Nat.le_trans (Nat.add_le_add hS hns) (show 20000002 + 10000 ≤ 4611686018427387904 by decide), ?_⟩
            set_option smartUnfolding false in conv => whnf
            refine br_intro (fun g => ?_) (fun g => ?_) <;> set_option smartUnfolding false in conv => whnf
            · have g := dT g
              rw [Ix.pvL_len] at g
              rw [if_neg (by omega)] at hs
              refine acall_det (ps := [.lst 3 (Dt.pvL D), V.ag 5 tn ts, .int .i64 c1]) hpay ?_
              set_option smartUnfolding false in conv => whnf
              refine acall_det (ps := [.lst 3 (Dt.pvL D), .lst 3 (V.pvL us), .lst 2 (Ix.pvL es1)]) htx ?_
              set_option smartUnfolding false in conv => whnf
              refine ⟨by show 1 + tx.size ≤ _; omega, ?_⟩
              set_option smartUnfolding false in conv => whnf
              refine ⟨by rw [ByteArray.size_append]; show 1 + tx.size + 1 ≤ _; omega, ?_⟩
              set_option smartUnfolding false in conv => whnf
              refine ⟨Nat.le_trans (Nat.add_le_add (show _ ≤ 20000002 + 10000 from by rw [ByteArray.size_append]; exact Nat.add_le_add hS hns) (show _ ≤ 100000000 from by rw [ByteArray.size_append, ByteArray.size_append]; show 1 + tx.size + 1 ≤ _; omega)) (show 20000002 + 10000 + 100000000 ≤ 4611686018427387904 by decide), ?_⟩
              set_option smartUnfolding false in conv => whnf
              exact ⟨(i + 1, (p :: ps) ++ [cn ++ ((⟨#[40]⟩ ++ tx) ++ ⟨#[41]⟩)]), ⟨h, by rw [← hs]; simp, by simp at hpl ⊢; omega⟩, weak_ren [0] 2 (by kernel_rfl) (blk (by kernel_rfl) trivial) ⟨(by kernel_rfl), (by kernel_rfl), sStr (by rw [ByteArray.append_assoc]; exact hE _), (by kernel_rfl), (by kernel_rfl), sUp h hl, trivial⟩, subUp h⟩
            · have g := dF g
              rw [Ix.pvL_len] at g
              rw [if_pos (by omega)] at hs
              exact ⟨(i + 1, (p :: ps) ++ [cn]), ⟨h, by rw [← hs]; simp, by simp at hpl ⊢; omega⟩, weak_ren [0] 2 (by kernel_rfl) (blk (by kernel_rfl) trivial) ⟨(by kernel_rfl), (by kernel_rfl), sStr (hE _), (by kernel_rfl), (by kernel_rfl), sUp h hl, trivial⟩, subUp h⟩
        · have g := dF g
          cases ps with
          | cons p ps => simp only [List.length_cons] at hpl; exact absurd (show (0 : Int) < (i : Int) by omega) g
          | nil =>
            have hE : ∀ z, jn sepB [] ++ z = jn sepB ([] ++ [z]) := fun z => by rw [jn_nil, empty_app, List.nil_append, jn_one']
            have hS : (jn sepB []).size ≤ 20000002 := by omega
            refine ⟨Dt.ag nm vs cs, ⟨ht0, hdg⟩, ?_⟩
            set_option smartUnfolding false in conv => whnf
            refine ⟨Cn.ag cn cas, ⟨hc0, hcg⟩, ?_⟩
            set_option smartUnfolding false in conv => whnf
            refine ⟨Nat.le_trans (Nat.add_le_add hS hns) (show 20000002 + 10000 ≤ 4611686018427387904 by decide), ?_⟩
            set_option smartUnfolding false in conv => whnf
            refine br_intro (fun g => ?_) (fun g => ?_) <;> set_option smartUnfolding false in conv => whnf
            · have g := dT g
              rw [Ix.pvL_len] at g
              rw [if_neg (by omega)] at hs
              refine acall_det (ps := [.lst 3 (Dt.pvL D), V.ag 5 tn ts, .int .i64 c1]) hpay ?_
              set_option smartUnfolding false in conv => whnf
              refine acall_det (ps := [.lst 3 (Dt.pvL D), .lst 3 (V.pvL us), .lst 2 (Ix.pvL es1)]) htx ?_
              set_option smartUnfolding false in conv => whnf
              refine ⟨by show 1 + tx.size ≤ _; omega, ?_⟩
              set_option smartUnfolding false in conv => whnf
              refine ⟨by rw [ByteArray.size_append]; show 1 + tx.size + 1 ≤ _; omega, ?_⟩
              set_option smartUnfolding false in conv => whnf
              refine ⟨Nat.le_trans (Nat.add_le_add (show _ ≤ 20000002 + 10000 from by rw [ByteArray.size_append]; exact Nat.add_le_add hS hns) (show _ ≤ 100000000 from by rw [ByteArray.size_append, ByteArray.size_append]; show 1 + tx.size + 1 ≤ _; omega)) (show 20000002 + 10000 + 100000000 ≤ 4611686018427387904 by decide), ?_⟩
              set_option smartUnfolding false in conv => whnf
              exact ⟨(i + 1, [] ++ [cn ++ ((⟨#[40]⟩ ++ tx) ++ ⟨#[41]⟩)]), ⟨h, by rw [← hs]; simp, by simp at hpl ⊢; omega⟩, weak_ren [0] 2 (by kernel_rfl) (blk (by kernel_rfl) trivial) ⟨(by kernel_rfl), (by kernel_rfl), sStr (by rw [ByteArray.append_assoc]; exact hE _), (by kernel_rfl), (by kernel_rfl), sUp h hl, trivial⟩, subUp h⟩
            · have g := dF g
              rw [Ix.pvL_len] at g
              rw [if_pos (by omega)] at hs
              exact ⟨(i + 1, [] ++ [cn]), ⟨h, by rw [← hs]; simp, by simp at hpl ⊢; omega⟩, weak_ren [0] 2 (by kernel_rfl) (blk (by kernel_rfl) trivial) ⟨(by kernel_rfl), (by kernel_rfl), sStr (hE _), (by kernel_rfl), (by kernel_rfl), sUp h hl, trivial⟩, subUp h⟩
    · replace h : ¬ i < ks.length := by have := dF h; rw [Ix.pvL_len] at this; simpa using this
      rw [List.drop_of_length_le (by omega), Ix.txtE_nil, List.append_nil] at hs
      subst hs
      have h2 := jn_size sepB rfl ps
      refine ⟨by show 1 + (jn sepB ps).size ≤ _; omega, ?_⟩
      set_option smartUnfolding false in conv => whnf
      refine ⟨by rw [ByteArray.size_append]; show 1 + (jn sepB ps).size + 1 ≤ _; omega, ?_⟩
      set_option smartUnfolding false in conv => whnf
      exact rdP (.refl _)
  have h3 : ¬ tk = 5 := by simpa using h3
  rw [if_neg h3] at hdeg ⊢
  exact rdP (.refl _)
end Go.AM

set_option linter.all false
set_option maxRecDepth 20000
set_option maxHeartbeats 4000000
namespace Go.AM
open Go.Proofs

/-! ### Format, both -/
noncomputable def fmtS (D : List Dt) (t : V) (i : Ix) : ByteArray := if 0 ≤ degS D t i then Ix.txt D i t else ⟨#[]⟩
theorem degS_some {D : List Dt} {t : V} {i : Ix} (h : 0 ≤ degS D t i) : known D t = true ∧ ∃ d, Ix.deg D i t = some d := by
  cases hk : known D t with
  | false => rw [degS_no hk] at h; omega
  | true =>
    rw [degS_yes hk] at h
    cases hd : Ix.deg D i t with
    | none => rw [hd] at h; simp at h
    | some d => exact ⟨rfl, d, rfl⟩
mutual
theorem Ix.val_iff : ∀ (v : Ix) (n : Int), 0 ≤ n → n ≤ 100000 → ((Ix.val v n).1 = decide ((v.cnt : Int) ≤ n) ∧ ((Ix.val v n).1 = true → (Ix.val v n).2 = n - v.cnt))
  | .mk m ks, n, h0, h1 => by
    rw [Ix.val_mk, Ix.cnt_mk]
    have ew : IntKind.wrap .i64 (n - 1) = n - 1 := wrapI (by omega) (by omega)
    rw [ew]
    by_cases h : n - 1 < 0
    · rw [if_pos h]
      exact ⟨by rw [decide_eq_false (by omega)], fun h' => by cases h'⟩
    · rw [if_neg h]
      have := Ix.valL_iff ks (n - 1) (by omega) (by omega)
      exact ⟨by rw [this.1]; exact decide_eq_decide.2 (by omega), fun h' => by rw [this.2 h']; omega⟩
theorem Ix.valL_iff : ∀ (l : List Ix) (n : Int), 0 ≤ n → n ≤ 100000 → ((Ix.valL l n).1 = decide ((Ix.cntL l : Int) ≤ n) ∧ ((Ix.valL l n).1 = true → (Ix.valL l n).2 = n - Ix.cntL l))
  | [], n, h0, h1 => by rw [Ix.valL_nil, Ix.cntL_nil]; exact ⟨by rw [decide_eq_true (by omega)], fun _ => by simp⟩
  | v :: l, n, h0, h1 => by
    rw [Ix.valL_cons, Ix.cntL_cons]
    have hv := Ix.val_iff v n h0 h1
    cases hx : Ix.val v n with
    | mk b m =>
      rw [hx] at hv
      simp only at hv
      cases b with
      | false =>
        have : ¬ (v.cnt : Int) ≤ n := by have := hv.1; simpa using this
        simp only
        exact ⟨by rw [decide_eq_false (by omega)], fun h' => by cases h'⟩
      | true =>
        have h2 : (v.cnt : Int) ≤ n := by have := hv.1; simpa using this
        have h3 := hv.2 rfl
        subst h3
        simp only
        have := Ix.valL_iff l (n - v.cnt) (by omega) (by omega)
        exact ⟨by rw [this.1]; exact decide_eq_decide.2 (by omega), fun h' => by rw [this.2 h']; omega⟩
end
theorem keepI_cnt {i : Ix} (h : (i.val 40).1 = true) : i.cnt ≤ 40 := by
  rw [(Ix.val_iff i 40 (by omega) (by omega)).1] at h
  have := of_decide_eq_true h
  omega
theorem iFormat_det {D : List Dt} (hD : DOK D) (hN : DN D) (t : V) (i : Ix) (hc : i.cnt ≤ 1000) : Det Tryz.prog 26 [.lst 3 (Dt.pvL D), t.pv, i.pv] (.str (fmtS D t i)) := by
  have h1 := iValid_det hD hN t i
  have h2 := fun h : 0 ≤ degS D t i => (degS_some h).elim fun hk hd => hd.elim fun d hd => text_det hD hN (known_good hk).1 i t d (known_good hk).2 hc hd
  generalize hS : fmtS D t i = r
  unfold fmtS at hS
  by_cases hg : 0 ≤ degS D t i
  · rw [if_pos hg] at hS
    have h2 := h2 hg
    rw [hS] at h2
    rw [decide_eq_true hg] at h1
    obtain ⟨tk, tn, ts⟩ := t
    obtain ⟨n, ks⟩ := i
    rw [V.pv_mk, Ix.pv_mk] at h1 h2 ⊢
    refine det_of_vc' (E := S.E 0) rfl fol Tryz.func26 rfl rfl (slots := [6]) rfl rfl fun hw => ?_
    set_option smartUnfolding false in conv => whnf
    refine acall_det (ps := [.lst 3 (Dt.pvL D), V.ag tk tn ts, Ix.ag n ks]) h1 ?_
    set_option smartUnfolding false in conv => whnf
    refine acall_det (ps := [.lst 3 (Dt.pvL D), V.ag tk tn ts, Ix.ag n ks]) h2 ?_
    set_option smartUnfolding false in conv => whnf
    exact rdP (.refl _)
  · rw [if_neg hg] at hS
    rw [decide_eq_false hg] at h1
    subst hS
    obtain ⟨tk, tn, ts⟩ := t
    obtain ⟨n, ks⟩ := i
    rw [V.pv_mk, Ix.pv_mk] at h1 ⊢
    refine det_of_vc' (E := S.E 0) rfl fol Tryz.func26 rfl rfl (slots := [6]) rfl rfl fun hw => ?_
    set_option smartUnfolding false in conv => whnf
    refine acall_det (ps := [.lst 3 (Dt.pvL D), V.ag tk tn ts, Ix.ag n ks]) h1 ?_
    set_option smartUnfolding false in conv => whnf
    exact rdP (.refl _)
theorem rIFormat_det {D : List Dt} (hD : DOK D) (hN : DN D) (t : V) (ht : t.cnt ≤ 1000000) (i : Ix) (hc : i.cnt ≤ 1000) : Det Tryz.prog 27 [.lst 3 (Dt.pvL D), t.pv, i.pv] (.str (fmtS D t i)) := by
  have h1 := rIValid_det hD hN t ht i
  have h2 := fun h : 0 ≤ degS D t i => (degS_some h).elim fun hk hd => hd.elim fun d hd => rformat_det hD hN (known_good hk).1 i t d (known_good hk).2 hc hd
  generalize hS : fmtS D t i = r
  unfold fmtS at hS
  by_cases hg : 0 ≤ degS D t i
  · rw [if_pos hg] at hS
    have h2 := h2 hg
    rw [hS] at h2
    rw [decide_eq_true hg] at h1
    obtain ⟨tk, tn, ts⟩ := t
    obtain ⟨n, ks⟩ := i
    rw [V.pv_mk, Ix.pv_mk] at h1 h2 ⊢
    refine det_of_vc' (E := S.E 0) rfl fol Tryz.func27 rfl rfl (slots := [6]) rfl rfl fun hw => ?_
    set_option smartUnfolding false in conv => whnf
    refine acall_det (ps := [.lst 3 (Dt.pvL D), V.ag tk tn ts, Ix.ag n ks]) h1 ?_
    set_option smartUnfolding false in conv => whnf
    refine acall_det (ps := [.lst 3 (Dt.pvL D), V.ag tk tn ts, Ix.ag n ks]) h2 ?_
    set_option smartUnfolding false in conv => whnf
    exact rdP (.refl _)
  · rw [if_neg hg] at hS
    rw [decide_eq_false hg] at h1
    subst hS
    obtain ⟨tk, tn, ts⟩ := t
    obtain ⟨n, ks⟩ := i
    rw [V.pv_mk, Ix.pv_mk] at h1 ⊢
    refine det_of_vc' (E := S.E 0) rfl fol Tryz.func27 rfl rfl (slots := [6]) rfl rfl fun hw => ?_
    set_option smartUnfolding false in conv => whnf
    refine acall_det (ps := [.lst 3 (Dt.pvL D), V.ag tk tn ts, Ix.ag n ks]) h1 ?_
    set_option smartUnfolding false in conv => whnf
    exact rdP (.refl _)
theorem indexFormats_det (D : List Dt) (t : V) (i : Ix) : Det Tryz.prog 7 [.lst 3 (Dt.pvL D), t.pv, i.pv] (.bool true) := by
  have k1 := small15_det D t
  have k2 := keepI_det i
  have p1 := fun (h : keepD D = true) (hc : (i.val 40).1 = true) => iFormat_det (keepD_ok h).1 (keepD_ok h).2 t i (by have := keepI_cnt hc; omega)
  have p2 := fun (h : keepD D = true) (h2 : (t.val 250).1 = true) (hc : (i.val 40).1 = true) => rIFormat_det (keepD_ok h).1 (keepD_ok h).2 t (by have := keepT_cntI h2; omega) i (by have := keepI_cnt hc; omega)
  generalize fmtS D t i = d at p1 p2
  generalize hb : (keepD D && (t.val 250).1) = b1 at k1
  generalize (i.val 40).1 = b2 at k2 p1 p2
  obtain ⟨tk, tn, ts⟩ := t
  obtain ⟨n, ks⟩ := i
  rw [V.pv_mk] at k1 p1 p2
  rw [Ix.pv_mk] at k2 p1 p2
  rw [V.pv_mk, Ix.pv_mk]
  refine det_of_vc' (E := S.E 0) rfl fol Tryz.func7 rfl rfl (slots := [6]) rfl rfl fun hw => ?_
  set_option smartUnfolding false in conv => whnf
  refine acall_det (ps := [.lst 3 (Dt.pvL D), V.ag tk tn ts]) k1 ?_
  set_option smartUnfolding false in conv => whnf
  refine br_intro (fun h1 => ?_) (fun h1 => ?_) <;> set_option smartUnfolding false in conv => whnf
  · exact rdB rfl
  have h1 : b1 = true := by simpa using h1
  rw [h1] at hb
  simp only [Bool.and_eq_true] at hb
  refine acall_det (ps := [Ix.ag n ks]) k2 ?_
  set_option smartUnfolding false in conv => whnf
  refine br_intro (fun h2 => ?_) (fun h2 => ?_) <;> set_option smartUnfolding false in conv => whnf
  · exact rdB rfl
  have h2 : b2 = true := by simpa using h2
  refine acall_det (ps := [.lst 3 (Dt.pvL D), V.ag tk tn ts, Ix.ag n ks]) (p1 hb.1 h2) ?_
  set_option smartUnfolding false in conv => whnf
  refine acall_det (ps := [.lst 3 (Dt.pvL D), V.ag tk tn ts, Ix.ag n ks]) (p2 hb.1 hb.2 h2) ?_
  set_option smartUnfolding false in conv => whnf
  refine br_intro (fun h4 => ?_) (fun h4 => ?_) <;> set_option smartUnfolding false in conv => whnf
  · refine acall_det (ps := []) awake15_det ?_
    set_option smartUnfolding false in conv => whnf
    exact rdB rfl
  · simp at h4
end Go.AM
