import Derived.Test.YtelmconnpdmjhaaGreatDoorPkK
import Derived.Test.YtelmconnpdmjhaaGreatDoorRows
import Derived.LaidMore
import Derived.OpenShut
import Derived.Stop.Joined
import Derived.Lib.Builder
import Derived.Lib.UnsafeStr
import Derived.Shelf.RegionOpenPlain
set_option linter.all false
namespace Go.Proofs.YtelmconnpdmjhaaGreatDoor
open Go.ChangeShapes Go.WideShapes Go.ChangeAt Go.RowKit

/-! ### The door's own heap meets the condition -/
def laid3 : List (String × DataW Unit) := [("math/bits.deBruijn32tab", Rows.laid_math_bits_deBruijn32tab), ("math/bits.deBruijn64tab", Rows.laid_math_bits_deBruijn64tab), ("internal/strconv.uint64pow10", Rows.laid_internal_strconv_uint64pow10)]
theorem laidOut : laidOutB Tryz.prog = true := by kernel_rfl
theorem own : ownKnob Tryz.prog.godebug = none := by kernel_rfl
set_option maxRecDepth 100000 in
theorem door_met (os : Os) (args : Array Value) : laidMetH Tryz.prog laid3 ((World.doorLaid Tryz.prog 400 os).forCall (fun _ _ => 0) ⟨#[], args, []⟩).memory :=
  laidMetH_of_parts3 (fuel := 8) (laidMet_of_run' 8 (by kernel_rfl) (by kernel_rfl)) (by kernel_rfl) (by kernel_rfl)
end Go.Proofs.YtelmconnpdmjhaaGreatDoor

set_option linter.all false
set_option maxRecDepth 100000
set_option maxHeartbeats 4000000
namespace Go.AM
open Go.Proofs

/-! ### strings.Builder, its own cells at the head of a struct -/
theorem bld_info : ∃ j, Tryz.prog.info? 61 = some j ∧ j.size = 2 := Option.map_eq_some_iff.1 (show (Tryz.prog.info? 61).map (·.size) = some 2 by kernel_rfl)
theorem bld_fresh (b n T : Nat) (w : World) (h0 : w.cell? ⟨b, 0, none⟩ = some (.pointer none)) (hn : 0 < n) (hsh : w.shape? b = some (T, n)) (hfz : w.frozen? ⟨b, 0, none⟩ = false)
    (hl : liesAt Tryz.prog Tryz.prog.depth T (n / Tryz.prog.cellsOf T) 0 61 1 = true) :
    Calls Tryz.prog 99 #[.pointer (some ⟨b, 0, none⟩)] w fun e w' => e = .returned (.tuple #[]) ∧ w' = w.setCell ⟨b, 0, none⟩ (.pointer (some ⟨b, 0, none⟩)) := by
  obtain ⟨j, hj, hjs⟩ := bld_info
  go_enter Tryz.func99, Tryz.ntmps99
  go_wp2
  rw [Lib.run_to_unsafe w ⟨b, 0, none⟩ Tryz.underlying58 Tryz.underlying143 hj (by rw [hjs]; decide) hsh hn]
  simp only [Result.andThen]
  rw [Oper.upon_value]
  go_wp2
  rw [run_callFunc_extern Tryz.func129 (by kernel_rfl) (by kernel_rfl) (by kernel_rfl) (e := Extern.AbiNoEscape.same) (by kernel_rfl)]
  rw [Lib.run_noEscape]
  simp only [Result.andThen]
  rw [Oper.upon_value]
  go_wp2
  rw [Lib.run_from_unsafe w ⟨b, 0, none⟩ Tryz.underlying143 Tryz.underlying58 hj hsh hl]
  simp only [Result.andThen]
  rw [Oper.upon_value]
  go_wp2
  go_end0
  exact ⟨rfl, rfl⟩
theorem bld_used (b : Nat) (w : World) (h0 : w.cell? ⟨b, 0, none⟩ = some (.pointer (some ⟨b, 0, none⟩))) :
    Calls Tryz.prog 99 #[.pointer (some ⟨b, 0, none⟩)] w fun e w' => e = .returned (.tuple #[]) ∧ w' = w := by
  obtain ⟨j, hj, hjs⟩ := bld_info
  go_enter Tryz.func99, Tryz.ntmps99
  go_wp2
  rw [Lib.run_neq_ptr_same w _ Tryz.underlying58 hj]
  go_wp2
  go_end0
  exact ⟨rfl, rfl⟩
end Go.AM

set_option linter.all false
set_option maxRecDepth 100000
set_option maxHeartbeats 4000000
namespace Go.AM
open Go.Proofs

theorem raw_nil {w : World} {X : Nat → Prop} {ι : Io} {G : Own} {u : Value} (h : VR w X ι G (.pv (.raw (.pointer none))) u) : u = .pointer none := by
  simp only [VR, PR] at h; exact h.1
theorem TV_one {w : World} {X : Nat → Prop} {ι : Io} {G : Own} {x : AV} {us : List Value} (h : TV w X ι G [x] us) : ∃ u, us = [u] ∧ VR w X ι G x u := by
  simp only [TV] at h
  obtain ⟨u, us', rfl, h1, rfl⟩ := h
  exact ⟨u, rfl, h1⟩
theorem adet_copyCheck {H : Heap} {i T : Nat} {a : AV} {cs : List AV} (hH : hget H i = .box T (a :: cs)) (ha : a = .pv (.raw (.pointer none)) ∨ a = .bp i 0)
    (hl : liesAt Tryz.prog Tryz.prog.depth T ((cs.length + 1) / Tryz.prog.cellsOf T) 0 61 1 = true) :
    ADet Tryz.prog 99 [.bp i 0] H NV [(i, .box T (.bp i 0 :: cs))] [i] where
  enters := enters_of Tryz.func99 (by kernel_rfl) rfl
  ids := fun p hp => by simp at hp; subst hp; simp
  calls := fun w X ι G us hC hT hTV => by
    have hGi : G i = .box T (a :: cs) := (hT i (by simp)).trans hH
    obtain ⟨v, rfl, hv⟩ := TV_one hTV
    have hbr := hC.br i
    rw [hGi] at hbr
    obtain ⟨⟨vs, hh, hcv⟩, h0⟩ := hbr
    simp only [CV] at hcv
    obtain ⟨u, us, rfl, hu1, hu, hcs⟩ := hcv
    have hlive : (G i).live = true := by rw [hGi]; rfl
    have hbx : (G i).isBox = true := by rw [hGi]; rfl
    have hv' : v = .pointer (some ⟨(ι i).1, 0, none⟩) := by
      simp only [VR] at hv
      rw [hv.2.1 hbx, bval_box h0]
    subst hv'
    have hlen : (u :: us).toArray.size = cs.length + 1 := by have := CV_len hcs; simp [this]
    have main : Calls Tryz.prog 99 #[.pointer (some ⟨(ι i).1, 0, none⟩)] w fun e w' => e = .returned (.tuple #[]) ∧ w'.heap.size = w.heap.size ∧ w'.os = w.os ∧ w'.tape = w.tape ∧ w'.output = w.output ∧
        (∀ k, k ≠ (ι i).1 → w'.heap[k]? = w.heap[k]?) ∧ w'.heap[(ι i).1]? = some (.cells (.pointer (some ⟨(ι i).1, 0, none⟩) :: us).toArray T (0, 0)) := by
      rcases ha with rfl | rfl
      · obtain rfl := raw_nil hu
        refine (bld_fresh (ι i).1 (cs.length + 1) T w (by rw [Lib.cell_of_heap hh]; rfl) (by omega) (by simp only [World.shape?, hh]; rw [hlen]) (by simp [World.frozen?, hh]) hl).mono ?_
        rintro e w' ⟨rfl, rfl⟩
        refine ⟨rfl, by simp, rfl, rfl, rfl, fun k hk => heap_setCell_other _ _ _ _ hk, ?_⟩
        rw [heap_setCell_same _ _ _ _ _ _ hh]
        simp
      · have hu' : u = .pointer (some ⟨(ι i).1, 0, none⟩) := by
          simp only [VR] at hu
          rw [hu.2.1 hbx, bval_box h0]
        subst hu'
        refine (bld_used (ι i).1 w (by rw [Lib.cell_of_heap hh]; rfl)).mono ?_
        rintro e w' ⟨rfl, rfl⟩
        exact ⟨rfl, rfl, rfl, rfl, rfl, fun _ _ => rfl, hh⟩
    refine Calls.mono main ?_
    rintro e w' ⟨rfl, h1, h2, h3, h4, h5, h6⟩
    have hg : Gr w ι G w' ι (gset G i (.box T (.bp i 0 :: cs))) := gr_write hlive rfl (fun _ => hbx) (fun h => by cases h) (by omega) h2 h3 h4 (fun k _ hk => h5 k hk)
    refine ⟨_, ι, rfl, by simp [NV, VR, PR, TR], conc_write hC hlive rfl (fun _ => hbx) (fun h => by cases h) (by omega) h2 h3 h4 (fun k _ hk => h5 k hk) ?_, hg⟩
    refine ⟨⟨_, h6, ?_⟩, h0⟩
    simp only [CV]
    refine ⟨_, _, rfl, rfl, ?_, CV.next (hg.next X) _ _ hcs⟩
    simp only [VR]
    rw [gset_self]
    exact ⟨rfl, fun _ => (bval_box h0).symm, rfl⟩

/-! ### String -/
theorem bld_str (b g cap T : Nat) (p : Value) (rest : List Value) (cur : Array Value) (l : List UInt8) (w : World) (hb : w.heap[b]? = some (.cells (p :: .slice (some ⟨g, 0, none⟩) l.length cap :: rest).toArray T (0, 0)))
    (hg : w.heap[g]? = some (.cells cur 5 (0, 0))) (hnc : l.length ≤ cap) (hcm : cap ≤ maxLen) (hcs : cur.size = cap) (htake : cur.toList.take l.length = Lib.byteCells l) (h0 : l ≠ []) :
    Calls Tryz.prog 38 #[.pointer (some ⟨b, 0, none⟩)] w fun e w' => e = .returned (.string ⟨l.toArray⟩) ∧ w' = w.drew.freeze ⟨g, 0, none⟩ l.length := by
  have hl0 : l.length ≠ 0 := by simpa using h0
  have c1 : w.drew.cell? ⟨b, 1, none⟩ = some (.slice (some ⟨g, 0, none⟩) l.length cap) := by
    have : w.drew.heap[b]? = some (.cells (p :: .slice (some ⟨g, 0, none⟩) l.length cap :: rest).toArray T (0, 0)) := hb
    rw [Lib.cell_of_heap this]; rfl
  have hSD : (Builtin.unsafeSliceData_ #[59] 94 #[.slice (some ⟨g, 0, none⟩) l.length cap]).run Tryz.prog w.drew = .ok (.pointer (some ⟨g, 0, none⟩)) w.drew :=
    Lib.run_unsafeSliceData_row _ _ _ _ _ _ (by omega)
  have hUS : (Builtin.unsafeString_ #[94, 3] 9 #[.pointer (some ⟨g, 0, none⟩), .int .i64 l.length]).run Tryz.prog w.drew = .ok (.string ⟨l.toArray⟩) (w.drew.freeze ⟨g, 0, none⟩ l.length) := by
    refine Lib.run_unsafeString_row w.drew 94 3 9 5 Tryz.underlying94 (by kernel_rfl) g cur.size (by have hg' : w.drew.heap[g]? = some (.cells cur 5 (0, 0)) := hg; simp [World.shape?, hg']) l h0 (by omega) (by unfold maxLen at hcm; omega) ?_
    intro j x hx
    rw [add_mk, Nat.zero_add, Lib.cell_of_heap (show w.drew.heap[g]? = some (.cells cur 5 (0, 0)) from hg)]
    have : (Lib.byteCells l)[j]? = some (.int .u8 x.toNat) := by simp [Lib.byteCells, hx]
    rw [← htake, List.getElem?_take] at this
    split at this
    · simpa using this
    · cases this
  go_enter Tryz.func38, Tryz.ntmps38
  go_wp2
  go_region
  all_goals (go_wp2; go_ret; exact ⟨rfl, rfl⟩)
end Go.AM

set_option linter.all false
set_option maxRecDepth 100000
set_option maxHeartbeats 4000000
namespace Go.AM
open Go.Proofs

theorem bytesP_get (s : ByteArray) (j : Nat) : (pvs (bytesP s))[j]? = (s.data.toList[j]?).map fun x => AV.pv (.int .u8 x.toNat) := by
  rw [pvs_get, bytesP, List.getElem?_map]
  cases s.data.toList[j]? <;> rfl
theorem freeze_other (w : World) (g n k : Nat) (h : k ≠ g) : (w.freeze ⟨g, 0, none⟩ n).heap[k]? = w.heap[k]? := by
  unfold World.freeze
  split
  · rfl
  · simp only [Array.getElem?_modify]; rw [if_neg (fun e => h e.symm)]
theorem freeze_size (w : World) (g n : Nat) : (w.freeze ⟨g, 0, none⟩ n).heap.size = w.heap.size := by
  unfold World.freeze
  split <;> simp
theorem freeze_os (w : World) (a : Addr) (n : Nat) : (w.freeze a n).os = w.os ∧ (w.freeze a n).tape = w.tape ∧ (w.freeze a n).output = w.output := by
  unfold World.freeze
  split <;> exact ⟨rfl, rfl, rfl⟩
theorem adet_bldString {H : Heap} {i k T : Nat} {a : AV} {cs : List AV} {s : ByteArray} {n : Nat} (hH : hget H i = .box T (a :: .row k n :: cs)) (hn : n = s.size) (hK : hget H k = .row 5 1 (pvs (bytesP s))) (h0 : 0 < s.size) :
    ADet Tryz.prog 38 [.bp i 0] H (.pv (.str s)) [(k, .dead)] [i, k] where
  enters := enters_of Tryz.func38 (by kernel_rfl) rfl
  ids := fun p hp => by simp at hp; subst hp; simp
  calls := fun w X ι G us hC hT hTV => by
    subst hn
    have hGi : G i = .box T (a :: .row k s.size :: cs) := (hT i (by simp)).trans hH
    have hGk : G k = .row 5 1 (pvs (bytesP s)) := (hT k (by simp)).trans hK
    obtain ⟨v, rfl, hv⟩ := TV_one hTV
    have hbr := hC.br i
    rw [hGi] at hbr
    obtain ⟨⟨vs, hh, hcv⟩, h00⟩ := hbr
    simp only [CV] at hcv
    obtain ⟨u, us, rfl, hu1, hu, r, us, rfl, hr1, hr, hcs⟩ := hcv
    have hbk := hC.br k
    rw [hGk] at hbk
    obtain ⟨cur, hg, hcsz, hle, hmx, hev⟩ := hbk
    have hsl : s.data.toList.length = s.size := by rw [Array.length_toList]; rfl
    have hr' : r = .slice (some ⟨(ι k).1, 0, none⟩) s.data.toList.length (ι k).2 ∧ s.data.toList.length ≤ (ι k).2 := by
      simp only [VR] at hr
      rw [hsl]
      exact hr.2.1 (by rw [hGk]; rfl)
    obtain ⟨rfl, hnc⟩ := hr'
    have hv' : v = .pointer (some ⟨(ι i).1, 0, none⟩) := by
      simp only [VR] at hv
      rw [hv.2.1 (by rw [hGi]; rfl), bval_box h00]
    subst hv'
    have hlive : (G k).live = true := by rw [hGk]; rfl
    have htake : cur.toList.take s.data.toList.length = Lib.byteCells s.data.toList := by
      refine List.ext_getElem? fun j => ?_
      rw [List.getElem?_take]
      split
      · rename_i hj
        have hx : s.data.toList[j]? = some s.data.toList[j] := List.getElem?_eq_getElem hj
        obtain ⟨v, h1, h2, h3⟩ := hev j (.pv (.int .u8 s.data.toList[j].toNat)) (by rw [bytesP_get, hx]; rfl)
        simp only [VR, PR] at h1
        subst h1
        have : cur[j * 1 + 0]? = some (Value.int .u8 s.data.toList[j].toNat) := (h3 0 _ rfl).1
        rw [Nat.mul_one, Nat.add_zero] at this
        simp [Lib.byteCells, hx, this]
      · rename_i hj
        have : s.data.toList[j]? = none := List.getElem?_eq_none (by omega)
        simp [Lib.byteCells, this]
    refine Calls.mono (bld_str (ι i).1 (ι k).1 (ι k).2 T u us cur s.data.toList w hh hg hnc hmx (by rw [hcsz, Nat.mul_one]) htake (fun e => by rw [e] at hsl; simp at hsl; omega)) ?_
    rintro e w' ⟨rfl, rfl⟩
    have o1 := freeze_os w.drew ⟨(ι k).1, 0, none⟩ s.data.toList.length
    have o2 := freeze_size w.drew (ι k).1 s.data.toList.length
    have o3 := freeze_other w.drew (ι k).1 s.data.toList.length
    refine ⟨_, ι, rfl, by simp [VR, PR], conc_write hC hlive rfl (fun h => by cases h) (fun h => by cases h) (by rw [o2]; exact Nat.le_refl _) (by rw [o1.1]; rfl) (by rw [o1.2.1]; rfl) (by rw [o1.2.2]; rfl) (fun b _ hne => (o3 b hne).trans rfl) trivial,
      gr_write hlive rfl (fun h => by cases h) (fun h => by cases h) (by rw [o2]; exact Nat.le_refl _) (by rw [o1.1]; rfl) (by rw [o1.2.1]; rfl) (by rw [o1.2.2]; rfl) (fun b _ hne => (o3 b hne).trans rfl)⟩

/-! ### WriteString -/
theorem sRowb {ρ : Nat → Nat} {k0 k n n' : Nat} (h : ρ k0 = k) (e : n = n') : some (AV.row k n) = some (renA ρ (.row k0 n')) := by subst h; subst e; rfl
theorem blkR_rowb {ρ : Nat → Nat} {H : Heap} {k t sz : Nat} {xs : List AV} {ps : List PV} {l : Heap} (h : hget H (ρ k) = .row t sz xs) (e : xs = pvs ps) (hl : BlkR ρ H (k + 1) l) : BlkR ρ H k (.row t sz (pvs ps) :: l) := by
  refine ⟨?_, hl⟩
  show renB ρ (.row t sz (pvs ps)) = _
  rw [h, e]
  simp only [renB, renL_pvs]
theorem app_bytes (s b : ByteArray) : appL s.size (pvs (bytesP s)) b.size (pvs (bytesP b)) = pvs (bytesP (s ++ b)) := by
  have h1 := bytesP_len s
  have h2 := bytesP_len b
  simp only [appL, pvs_map]
  rw [List.take_of_length_le (by simp [h1]), List.take_of_length_le (by simp [h2]), ← List.map_append]
  congr 1
  simp [bytesP, ByteArray.toList_data_append]
theorem app_bytes0 (b : ByteArray) : appL 0 [] b.size (pvs (bytesP b)) = pvs (bytesP b) := by
  have h2 := bytesP_len b
  simp only [appL, pvs_map]
  rw [List.take_of_length_le (l := List.map AV.pv (bytesP b)) (by simp [h2])]
  simp
theorem ws0 (T : Nat) (d : PV) (b : ByteArray) (h0 : 0 < b.size) (hb : b.size ≤ 140737488355328) (hl : liesAt Tryz.prog Tryz.prog.depth T (3 / Tryz.prog.cellsOf T) 0 61 1 = true) :
    HDet Tryz.prog 64 [.bp 0 0, .pv (.str b)] [.box T [.pv (.raw (.pointer none)), .pv .nils, .pv d]] (.pv (.tuple [.int .i64 b.size, .raw .nilIface])) [.box T [.bp 0 0, .row 1 b.size, .pv d], .row 5 1 (pvs (bytesP b))] := by
  refine hdet_of_vc' (E := S.E 1) fol Tryz.func64 rfl rfl (slots := [4, 5]) rfl rfl ?_ ?_ ?_ fun hw => ?_
  · exact Nat.le_refl 1
  · exact ⟨rfl, trivial, trivial⟩
  · exact fun i => by cases i <;> first | exact ⟨trivial, trivial, trivial, trivial⟩ | (rw [hget_ge (by simp [hlen])]; exact trivial)
  set_option smartUnfolding false in conv => whnf
  refine acall_intro (adet_copyCheck (i := 0) rfl (.inl rfl) hl) ?_
  set_option smartUnfolding false in conv => whnf
  refine ⟨⟨hb, h0⟩, ?_⟩
  set_option smartUnfolding false in conv => whnf
  exact weak_ren [0, 1] 2 (by kernel_rfl) (blk (by kernel_rfl) (blkR_rowb (xs := appL 0 [] b.size (pvs (bytesP b))) (by kernel_rfl) (app_bytes0 b) trivial)) ⟨(by kernel_rfl), trivial⟩
theorem ws1 (T : Nat) (d : PV) (s b : ByteArray) (hb : s.size + b.size ≤ 140737488355328) (hl : liesAt Tryz.prog Tryz.prog.depth T (3 / Tryz.prog.cellsOf T) 0 61 1 = true) :
    HDet Tryz.prog 64 [.bp 0 0, .pv (.str b)] [.box T [.bp 0 0, .row 1 s.size, .pv d], .row 5 1 (pvs (bytesP s))] (.pv (.tuple [.int .i64 b.size, .raw .nilIface])) [.box T [.bp 0 0, .row 2 (s ++ b).size, .pv d], .dead, .row 5 1 (pvs (bytesP (s ++ b)))] := by
  have hs := bytesP_len s
  rw [ByteArray.size_append]
  refine hdet_of_vc' (E := S.E 2) fol Tryz.func64 rfl rfl (slots := [4, 5]) rfl rfl ?_ ?_ ?_ fun hw => ?_
  · exact Nat.le_refl 2
  · exact ⟨rfl, trivial, trivial⟩
  · exact fun i => by
      rcases i with _ | _ | i
      · exact ⟨rfl, rfl, trivial, trivial⟩
      · exact idsInL_pvs _ _
      · rw [hget_ge (by simp [hlen])]; exact trivial
  set_option smartUnfolding false in conv => whnf
  refine acall_intro (adet_copyCheck (i := 0) rfl (.inr rfl) hl) ?_
  set_option smartUnfolding false in conv => whnf
  refine ⟨⟨by rw [pvs_len]; omega, hb⟩, ?_⟩
  set_option smartUnfolding false in conv => whnf
  exact weak_ren [0, 1, 2] 3 (by kernel_rfl) (blk (by kernel_rfl) (blkD (blkR_rowb (xs := appL s.size (pvs (bytesP s)) b.size (pvs (bytesP b))) (by kernel_rfl) (app_bytes s b) trivial))) ⟨(by kernel_rfl), trivial⟩
end Go.AM

set_option linter.all false
set_option maxRecDepth 100000
set_option maxHeartbeats 4000000
namespace Go.AM
open Go.Proofs

theorem wval7 (d : PV) : HDet Tryz.prog 37 [.bp 0 0, .pv (.agg [.int .i64 3, .int .i64 7, .lst 3 []]), .pv (.agg [.int .i64 1, .int .i64 0, .lst 3 []])] [.box 63 [.pv (.raw (.pointer none)), .pv .nils, .pv d]] (.pv (.tuple [])) [.box 63 [.bp 0 0, .row 1 1, .pv d], .row 5 1 (pvs (bytesP ⟨#[55]⟩))] := by
  have k := ws0 63 d ⟨#[55]⟩ (by decide) (by decide) (by kernel_rfl)
  refine hdet_of_vc' (E := S.E 1) fol Tryz.func37 rfl rfl (slots := []) rfl rfl ?_ ?_ ?_ fun hw => ?_
  · exact Nat.le_refl 1
  · exact ⟨rfl, trivial, trivial, trivial⟩
  · exact fun i => by cases i <;> first | exact ⟨trivial, trivial, trivial, trivial⟩ | (rw [hget_ge (by simp [hlen])]; exact trivial)
  set_option smartUnfolding false in conv => whnf
  refine acall_det (ps := [.int .i64 7, .int .i64 10]) fmt7_det ?_
  set_option smartUnfolding false in conv => whnf
  refine acall_hdet k [0] 3 rfl rfl ⟨rfl, trivial⟩ ?_
  set_option smartUnfolding false in conv => whnf
  exact weak_ren [0, 3] 4 (by kernel_rfl) (blk (by kernel_rfl) (blkR_rowb (xs := pvs (bytesP ⟨#[55]⟩)) (by kernel_rfl) (by kernel_rfl) trivial)) ⟨(by kernel_rfl), trivial⟩

theorem nil_ok : DOK [] ∧ DN [] := by
  refine ⟨⟨by decide, ?_, ?_, ?_⟩, ⟨?_, ?_⟩⟩ <;> (intro d hd; cases hd)
theorem nil_valid : dvalid [] = true := by
  unfold dvalid
  have h1 : ndup (namesOf []) = true := ndup_iff.2 (by simp [namesOf])
  have h2 : ndup (cnamesOf []) = true := ndup_iff.2 (by simp [cnamesOf])
  rw [h1, h2, decsR_nil]; rfl
theorem int_known : known [] (.mk 1 0 []) = true := by
  unfold known V.okW
  rw [nil_valid, V.cnt_mk, V.cntL_nil]
  have : V.okT [] 0 (.mk 1 0 []) = true := by
    rw [V.okT_mk]
    have : V.shape [] 0 1 0 = some (true, 0, 0) := by unfold V.shape; rw [if_pos (by omega)]; rfl
    rw [this]
    simp [V.okTL_nil]
  rw [this]; rfl
theorem seven_has : hasS [] (.mk 3 7 []) (.mk 1 0 []) = true := by
  unfold hasS
  rw [int_known, V.cnt_mk, V.cntL_nil]
  have : V.has [] (.mk 3 7 []) (.mk 1 0 []) = true := by
    rw [V.has_t1]; rfl
  rw [this]; rfl
theorem seven_det : Det Tryz.prog 11 [.lst 3 [], .agg [.int .i64 3, .int .i64 7, .lst 3 []], .agg [.int .i64 1, .int .i64 0, .lst 3 []]] (.bool true) := by
  have h := hasType_det nil_ok.1 nil_ok.2 (.mk 3 7 []) (.mk 1 0 [])
  rw [seven_has, V.pv_mk, V.pv_mk] at h
  have e : Dt.pvL [] = [] := by unfold Dt.pvL; rfl
  simp only [V.ag, V.pvL_nil, e] at h
  exact h
theorem format7 : Det Tryz.prog 14 [.lst 3 [], .agg [.int .i64 3, .int .i64 7, .lst 3 []], .agg [.int .i64 1, .int .i64 0, .lst 3 []]] (.str ⟨#[55]⟩) := by
  refine det_of_vc' (E := S.E 0) rfl fol Tryz.func14 rfl rfl (slots := [6]) rfl rfl fun hw => ?_
  set_option smartUnfolding false in conv => whnf
  refine acall_det (ps := [.lst 3 [], .agg [.int .i64 3, .int .i64 7, .lst 3 []], .agg [.int .i64 1, .int .i64 0, .lst 3 []]]) seven_det ?_
  set_option smartUnfolding false in conv => whnf
  refine acall_hdet (wval7 (.lst 3 [])) [2] 3 rfl rfl ⟨rfl, trivial⟩ ?_
  set_option smartUnfolding false in conv => whnf
  refine acall_intro (adet_bldString (i := 2) (k := 3) (s := ⟨#[55]⟩) rfl rfl rfl (by decide)) ?_
  set_option smartUnfolding false in conv => whnf
  exact rdP (.refl _)
theorem awake10_det : Det Tryz.prog 13 [] (.bool true) := by
  refine det_of_vc' (E := S.E 0) rfl fol Tryz.func13 rfl rfl (slots := [0]) rfl rfl fun hw => ?_
  set_option smartUnfolding false in conv => whnf
  refine acall_intro (adet_eat (S := []) seven_det (.cons (.le (.nils 3)) (.cons (.le (.agg (.cons (.refl _) (.cons (.refl _) (.cons (.nils 3) .nil))))) (.cons (.le (.agg (.cons (.refl _) (.cons (.refl _) (.cons (.nils 3) .nil))))) .nil)))) ?_
  set_option smartUnfolding false in conv => whnf
  refine acall_intro (adet_eat (S := []) format7 (.cons (.le (.nils 3)) (.cons (.le (.agg (.cons (.refl _) (.cons (.refl _) (.cons (.nils 3) .nil))))) (.cons (.le (.agg (.cons (.refl _) (.cons (.refl _) (.cons (.nils 3) .nil))))) .nil)))) ?_
  set_option smartUnfolding false in conv => whnf
  exact rdB (by rw [ByteArray.toList_eq]; rfl)
end Go.AM

set_option linter.all false
set_option maxRecDepth 100000
set_option maxHeartbeats 4000000
namespace Go.AM
open Go.Proofs

theorem keepT_cnt2 {v : V} (h : (v.val 250).1 = true) : v.cnt ≤ 250 := by
  have := (V.val_spec v 250 (by omega) (by omega)).1 h; omega
theorem cnt_get {l : List V} {i : Nat} {v : V} (h : l[i]? = some v) : v.cnt ≤ V.cntL l := by
  induction l generalizing i with
  | nil => simp at h
  | cons a l ih =>
    rw [V.cntL_cons]
    cases i with
    | zero => simp at h; subst h; omega
    | succ i => have := ih (i := i) (by simpa using h); omega
theorem app_more {ps qs : List PV} {m k : Nat} (hm : m = ps.length) (hk : k = qs.length) : appL m (pvs ps) k (pvs qs) = pvs (ps ++ qs) := by
  subst hm; subst hk
  simp only [appL, pvs_map]
  rw [List.take_of_length_le (by simp), List.take_of_length_le (by simp), ← List.map_append]
theorem hasS_known {D : List Dt} {v t : V} (h : hasS D v t = true) : known D t = true := by
  unfold hasS at h
  simp only [Bool.and_eq_true] at h
  exact h.1.1
theorem hasS_of {D : List Dt} {v t : V} (h1 : known D t = true) (h2 : v.cnt ≤ 5000) (h3 : V.has D v t = true) : hasS D v t = true := by
  unfold hasS
  rw [h1, h3, decide_eq_true h2]; rfl
theorem valueNodes_det (D : List Dt) (v t : V) : Det Tryz.prog 5 [.lst 3 (Dt.pvL D), v.pv, t.pv] (.bool true) := by
  have k1 := keepData_det D
  have k2 := keepV_det v
  have k3 := keepT_det t
  have p2 := fun (h : keepD D = true) (h2 : (t.val 250).1 = true) => rhasType_det (keepD_ok h).1 (keepD_ok h).2 v t (by have := keepT_cnt2 h2; omega)
  have p1 := fun (h : keepD D = true) (u : V) => Pre_det (keepD_ok h).1 (keepD_ok h).2 u t
  have p4 := fun (h : keepD D = true) => rrec_det (keepD_ok h).1
  generalize hb1 : keepD D = b1 at k1 p1 p2 p4
  generalize (v.val 400).1 = b2 at k2
  generalize (t.val 250).1 = b3 at k3 p2
  obtain ⟨k, n, ks⟩ := v
  obtain ⟨tk, tn, ts⟩ := t
  generalize hb0 : hasS D (.mk k n ks) (.mk tk tn ts) = b0 at p2
  rw [V.pv_mk] at k2 k3 p2
  rw [V.pv_mk] at p2
  rw [V.pv_mk, V.pv_mk]
  refine det_of_vc' (E := S.E 0) rfl fol Tryz.func5 rfl rfl (slots := [6]) rfl rfl fun hw => ?_
  set_option smartUnfolding false in conv => whnf
  refine acall_det (ps := [.lst 3 (Dt.pvL D)]) k1 ?_
  set_option smartUnfolding false in conv => whnf
  refine br_intro (fun h1 => ?_) (fun h1 => ?_) <;> set_option smartUnfolding false in conv => whnf
  · exact rdB rfl
  have h1 : b1 = true := by simpa using h1
  refine acall_det (ps := [V.ag k n ks]) k2 ?_
  set_option smartUnfolding false in conv => whnf
  refine br_intro (fun h2 => ?_) (fun h2 => ?_) <;> set_option smartUnfolding false in conv => whnf
  · exact rdB rfl
  refine acall_det (ps := [V.ag tk tn ts]) k3 ?_
  set_option smartUnfolding false in conv => whnf
  refine br_intro (fun h3 => ?_) (fun h3 => ?_) <;> set_option smartUnfolding false in conv => whnf
  · exact rdB rfl
  have h3 : b3 = true := by simpa using h3
  refine br_intro (fun h4 => ?_) (fun h4 => ?_) <;> set_option smartUnfolding false in conv => whnf
  · exact rdB rfl
  have h4 : tk = 5 := by simpa using h4
  refine acall_det (ps := [.lst 3 (Dt.pvL D), V.ag k n ks, V.ag tk tn ts]) (p2 h1 h3) ?_
  set_option smartUnfolding false in conv => whnf
  refine br_intro (fun h5 => ?_) (fun h5 => ?_) <;> set_option smartUnfolding false in conv => whnf
  · exact rdB rfl
  have h5 : b0 = true := by simpa using h5
  subst h4
  rw [h5] at hb0
  have hh := hasS_has hb0
  have hr := has_rec hh.1
  have hrl := hr.1
  have hcl := hh.2
  rw [V.cnt_mk] at hcl
  have hlc := V.len_cntL ks
  have q1 := p1 h1 (.mk k n ks)
  rw [preS_yes hb0, V.pv_mk, V.pv_mk] at q1
  have q2 : ∀ (i : Nat) (u : V), ks[i]? = some u → (recS D tn n)[i]? = some true → Det Tryz.prog 16 [.lst 3 (Dt.pvL D), u.pv, V.ag 5 tn ts] (.lst 3 (V.pvL (V.pre D tn u))) := fun i u hi hb => by
    have := p1 h1 u
    have hc := cnt_get hi
    rwa [preS_yes (hasS_of (hasS_known hb0) (by omega) (hr.2 i u hi hb)), V.pv_mk] at this
  have q3 := sameVs_det (V.pre D tn (.mk k n ks)) (V.pre D tn (.mk k n ks))
  rw [V.sameL_self] at q3
  clear p1 p2 hr
  generalize htot : V.pvL (V.pre D tn (.mk k n ks)) = total at q1 q3
  rw [restP_zero] at htot
  refine acall_det (ps := [.lst 3 (Dt.pvL D), V.ag k n ks, V.ag 5 tn ts]) q1 ?_
  set_option smartUnfolding false in conv => whnf
  refine acall_det (ps := [.lst 3 (Dt.pvL D), .int .i64 tn, .int .i64 n]) (p4 h1 tn n) ?_
  set_option smartUnfolding false in conv => whnf
  have hkids : V.cntL ks ≤ 4999 := by omega
  refine vloop_intro (σ := Nat × List PV) (fun x => x.1 ≤ ks.length ∧ x.2 ++ restP D tn n ks x.1 = total ∧ x.2.length + V.cntL (ks.drop x.1) ≤ 1000000)
    (fun x => [(0, .pv (.lst 3 (Dt.pvL D))), (4, .bp 0 0), (5, .bp 1 0), (7, .pv (.lst 3 total)), (8, .row 2 x.2.length), (9, .pv (.lst 1 (boolsP (recS D tn n)))), (50, .pv (.lst 3 (V.pvL ks))), (51, .pv (.int .i64 (V.pvL ks).length)), (52, .pv (.int .i64 x.1))])
    (fun x => [.box 25 [.pv (.int .i64 k), .pv (.int .i64 n), .pv (.lst 3 (V.pvL ks))], .box 28 [.pv (.int .i64 5), .pv (.int .i64 tn), .pv (.lst 3 (V.pvL ts))], .row 25 3 (pvs x.2)]) (fun x => ks.length - x.1) (0, [V.ag k n ks]) ⟨by simp, htot, by simp only [List.length_cons, List.length_nil, List.drop_zero]; omega⟩
    (weak_ren [0, 1, 2] 3 (by kernel_rfl) (blk (by kernel_rfl) (blk (by kernel_rfl) (blk (by kernel_rfl) trivial))) ⟨(by kernel_rfl), (by kernel_rfl), (by kernel_rfl), (by kernel_rfl), (by kernel_rfl), (by kernel_rfl), (by kernel_rfl), (by kernel_rfl), (by kernel_rfl), trivial⟩) ?_
  rintro ⟨i, qs⟩ ⟨hi, hs, hcn⟩
  simp only at hi hs hcn
  set_option smartUnfolding false in conv => whnf
  refine br_intro (fun h => ?_) (fun h => ?_) <;> set_option smartUnfolding false in conv => whnf
  · replace h : i < ks.length := by have := dT h; rw [V.pvL_len] at this; simpa using this
    obtain ⟨b, hb0, hb1, hb2⟩ := drop_bool (l := recS D tn n) (i := i) (by omega)
    refine V.get_elim h fun k1 n1 ks1 hv hg hg0 hd => ?_
    have hcd := cnt_drop hd
    rw [restP_step hd hb2] at hs
    refine ⟨V.ag k1 n1 ks1, ⟨by simp, by simpa using hg⟩, ?_⟩
    set_option smartUnfolding false in conv => whnf
    refine ⟨.bool b, ⟨by simp, by simpa using hb1⟩, ?_⟩
    set_option smartUnfolding false in conv => whnf
    refine br_intro (fun g => ?_) (fun g => ?_) <;> set_option smartUnfolding false in conv => whnf
    · subst g
      rw [if_pos rfl, ← List.append_assoc] at hs
      have hq := q2 i _ hg0 hb0
      rw [V.pv_mk] at hq
      have hpl := V.pre_len D tn (.mk k1 n1 ks1)
      refine acall_det (ps := [.lst 3 (Dt.pvL D), V.ag k1 n1 ks1, V.ag 5 tn ts]) hq ?_
      set_option smartUnfolding false in conv => whnf
      have hpl2 := V.pvL_len (V.pre D tn (.mk k1 n1 ks1))
      refine ⟨⟨⟨by rw [pvs_len]; exact Nat.le_refl _, by simp only; omega⟩, by rw [show ((S.E 0).te 25).bytes = 40 from rfl]; simp only; omega⟩, ?_⟩
      set_option smartUnfolding false in conv => whnf
      refine ⟨(i + 1, qs ++ V.pvL (V.pre D tn (.mk k1 n1 ks1))), ⟨h, hs, ?_⟩, ?_, subUp h⟩
      · simp only [List.length_append]; omega
      · exact weak_ren [0, 1, 4] 5 (by kernel_rfl) (blk (by kernel_rfl) (blk (by kernel_rfl) (blkR_row (xs := appL qs.length (pvs qs) (V.pvL (V.pre D tn (.mk k1 n1 ks1))).length (pvs (V.pvL (V.pre D tn (.mk k1 n1 ks1))))) (by kernel_rfl) (app_more (by kernel_rfl) (by kernel_rfl)) trivial))) ⟨(by kernel_rfl), (by kernel_rfl), (by kernel_rfl), (by kernel_rfl), sRow (by kernel_rfl) (by simp), (by kernel_rfl), (by kernel_rfl), (by kernel_rfl), sUp h (by omega), trivial⟩
    · subst g
      rw [if_neg (by simp), List.nil_append] at hs
      exact ⟨(i + 1, qs), ⟨h, hs, by simp only; omega⟩, weak_ren [0, 1, 2] 4 (by kernel_rfl) (blk (by kernel_rfl) (blk (by kernel_rfl) (blkR_row (xs := pvs qs) (by kernel_rfl) (by kernel_rfl) trivial))) ⟨(by kernel_rfl), (by kernel_rfl), (by kernel_rfl), (by kernel_rfl), sRow (by kernel_rfl) (by kernel_rfl), (by kernel_rfl), (by kernel_rfl), (by kernel_rfl), sUp h (by omega), trivial⟩, subUp h⟩
  · replace h : ¬ i < ks.length := by have := dF h; rw [V.pvL_len] at this; simpa using this
    rw [restP_end D tn n ks i (by omega), List.append_nil] at hs
    subst hs
    refine acall_intro (adet_eat (S := [2]) q3 (.cons (.pv _) (.cons (rd_row (.head _) rfl rfl) .nil))) ?_
    set_option smartUnfolding false in conv => whnf
    refine acall_det (ps := []) awake10_det ?_
    set_option smartUnfolding false in conv => whnf
    exact rdB rfl
end Go.AM
