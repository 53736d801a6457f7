import Derived.WalkKit
import Derived.KernelRfl
import Derived.Orders
import Derived.Maps.AppendAt
import Derived.Shelf.Abstract
set_option linter.all false
namespace Go.AM

/-- Pure values: trees; no memory of the call's own. -/
inductive PV where
  | int (k : IntKind) (n : Int)
  | bool (b : Bool)
  | str (s : ByteArray)
  | agg (cs : List PV)
  | lst (sz : Nat) (xs : List PV)
  | nils
  | cp (cs : List PV)
  | tuple (vs : List PV)
  | fn (f : FuncId) (caps : List PV)
  | raw (v : Value)

/-- Abstract values. -/
inductive AV where
  | pv (p : PV)
  | bp (id off : Nat)
  | row (id n : Nat)
  | rp (id i off : Nat)
  | mix (cs : List AV)
  | tup (vs : List AV)
  | fn (f : FuncId) (caps : List AV)

/-- A block of the call's own. -/
inductive AB where
  | none
  | dead
  | box (t : TypeId) (cs : List AV)
  | fbox (cs : List PV)
  | row (t sz : Nat) (xs : List AV)
  | frozen (sz : Nat) (xs : List PV)
  | smap (ks : List ByteArray)

def AB.live : AB → Bool
  | .box .. | .row .. | .smap .. => true
  | _ => false
def AB.isBox : AB → Bool
  | .box .. | .fbox .. | .smap .. => true
  | _ => false
def AB.isCell : AB → Bool
  | .box .. | .fbox .. => true
  | _ => false
def AB.isRow : AB → Bool
  | .row .. | .frozen .. => true
  | _ => false
def AB.sz : AB → Nat
  | .row _ sz _ | .frozen sz _ => sz
  | _ => 0
def AB.isNone : AB → Bool
  | .none => true
  | _ => false

/-- What is known of a type. -/
inductive TU where
  | int (k : IntKind) | bool | string | slice (e : TypeId) | struct (fs : List (Nat × Nat × Bool)) | smap | other
structure TD where
  ok : Bool           -- told rightly, below
  u : TU
  sz : Nat
  bytes : Nat
  agg : Bool
  zero : List PV      -- its cells

abbrev Heap := List AB
abbrev Fr := List (Nat × AV)
abbrev Upd := List (Nat × AB)
abbrev TE := Nat → TD

/-- The same kind of integers. -/
def kSame (k k' : IntKind) (X : Prop) : Prop := match k, k' with
  | .i8, .i8 | .i16, .i16 | .i32, .i32 | .i64, .i64 | .u8, .u8 | .u16, .u16 | .u32, .u32 | .u64, .u64 => X
  | _, _ => False
theorem kSame_iff {k k' : IntKind} {X : Prop} : kSame k k' X ↔ k = k' ∧ X := by cases k <;> cases k' <;> simp [kSame]
/-- A seal: what is behind it is a proposition, whatever it takes to see it. -/
def W (X : Prop) : Prop := X
def br (b : Bool) (X Y : Prop) : Prop := @Bool.rec (fun _ => Prop) (W Y) (W X) b

def fget : Fr → Nat → Option AV
  | [], _ => Option.none
  | (d, v) :: fr, i => match Nat.beq d i with | true => some v | false => fget fr i
def hget : Heap → Nat → AB
  | [], _ => .none
  | b :: _, 0 => b
  | _ :: H, n + 1 => hget H n
def hset : Heap → Nat → AB → Heap
  | [], 0, x => [x]
  | [], n + 1, x => .none :: hset [] n x
  | _ :: H, 0, x => x :: H
  | b :: H, n + 1, x => b :: hset H n x
def hlen : Heap → Nat
  | [] => 0
  | _ :: H => Nat.succ (hlen H)
def hupd : Heap → Upd → Heap
  | H, [] => H
  | H, (i, b) :: u => hupd (hset H i b) u
/-- The same on functions. -/
def gset (G : Nat → AB) (i : Nat) (b : AB) : Nat → AB := fun j => if j = i then b else G j
def gupd : (Nat → AB) → Upd → (Nat → AB)
  | G, [] => G
  | G, (i, b) :: u => gupd (gset G i b) u

def constP : Value → PV
  | .int k n => .int k n
  | .bool b => .bool b
  | .string s => .str s
  | .slice Option.none 0 0 => .nils
  | v => .raw v
def constA : Value → PV
  | .agg cs => .agg (cs.toList.map constP)
  | v => constP v

def constOK : Value → Bool
  | .agg cs => cs.toList.all Value.oneCell'
  | v => v.oneCell'
def opd (fr : Fr) : Operand → Option AV
  | .tmp t => fget fr t
  | .const v => (match constOK v with | true => some (.pv (constA v)) | false => Option.none)
  | .func f => some (.pv (.fn f []))
  | .global _ => Option.none

def cellsP : PV → List PV
  | .agg cs => cs
  | p => [p]
def pvs : List PV → List AV
  | [] => []
  | p :: l => .pv p :: pvs l
def cellsA : AV → List AV
  | .pv p => pvs (cellsP p)
  | .mix cs => cs
  | v => [v]
/-- All pure? -/
def allP : List AV → Option (List PV)
  | [] => some []
  | .pv p :: l => match allP l with | some q => some (p :: q) | Option.none => Option.none
  | _ :: _ => Option.none
def mkAgg (cs : List AV) : AV := match allP cs with | some ps => .pv (.agg ps) | Option.none => .mix cs
def mkTup (cs : List AV) : AV := match allP cs with | some ps => .pv (.tuple ps) | Option.none => .tup cs
def mkFn (f : FuncId) (cs : List AV) : AV := match allP cs with | some ps => .pv (.fn f ps) | Option.none => .fn f cs
def nthO {α : Type} : List α → Nat → Option α
  | [], _ => Option.none
  | a :: _, 0 => some a
  | _ :: l, n + 1 => nthO l n
def takeL {α : Type} : Nat → List α → List α
  | 0, _ => []
  | _ + 1, [] => []
  | n + 1, a :: l => a :: takeL n l
def dropL {α : Type} : Nat → List α → List α
  | 0, l => l
  | _ + 1, [] => []
  | n + 1, _ :: l => dropL n l
/-- 'vs' laid over 'cs' from place n on; no longer than 'cs'. -/
def splice {α : Type} : List α → Nat → List α → List α
  | cs, 0, [] => cs
  | _ :: cs, 0, v :: vs => v :: splice cs 0 vs
  | [], 0, _ :: _ => []
  | c :: cs, n + 1, vs => c :: splice cs n vs
  | [], _ + 1, _ => []
def lenL {α : Type} : List α → Nat
  | [] => 0
  | _ :: l => Nat.succ (lenL l)

abbrev DK := AV → Upd → Prop
def NV : AV := .pv (.tuple [])
/-- Is it among the keys? -/
def memS (s : ByteArray) (ks : List ByteArray) : Bool := ks.any fun x => s.toList == x.toList
/-- The operands that an operation looks into. -/
def lookOf : Op → List Operand
  | .load _ a | .store _ a _ | .nilCheck a | .slice _ a _ _ _ | .fieldAddr _ a _ | .indexAddr _ a _ | .convert _ _ a => [a]
  | .lookup _ m _ _ | .mapUpdate _ m _ _ => [m]
  | .call { callee := .builtin _, args, .. } => args.toList
  | _ => []

def part (T : TD) (cs : List AV) (off : Nat) (K : AV → Prop) : Prop :=
  match T.ok with
  | true => match T.agg with
   | true => (match Nat.ble (off + T.sz) (lenL cs) with | true => K (mkAgg (takeL T.sz (dropL off cs))) | false => False)
   | false => match nthO cs off with | some v => K v | Option.none => False
  | false => False

/-- A value's cells; a tuple has none. -/
def withCells (x : AV) (K : List AV → Prop) : Prop := match x with
  | .pv (.tuple _) => False
  | .tup _ => False
  | x => K (cellsA x)
def withCellsB (x : AV) : Bool := match x with
  | .pv (.tuple _) => false
  | .tup _ => false
  | _ => true

def dLoad (te : TE) (H : Heap) (t : TypeId) (a : AV) (K : DK) : Prop :=
  match a with
  | .bp id off => match hget H id with
    | .box _ cs => part (te t) cs off fun v => K v []
    | .fbox cs => part (te t) (pvs cs) off fun v => K v []
    | _ => False
  | .rp id i off => match hget H id with
    | .row _ sz xs => ∃ x, xs[i]? = some x ∧ withCells x fun cx => part (te t) cx off fun v => K v []
    | .frozen _ xs => ∃ x, xs[i]? = some x ∧ withCells (.pv x) fun cx => part (te t) cx off fun v => K v []
    | _ => False
  | .pv (.cp cs) => part (te t) (pvs cs) 0 fun v => K v []
  | _ => False

/-- A store of x: what its type takes in cells is what x has. -/
def dStore (te : TE) (H : Heap) (t : TypeId) (a x : AV) (K : DK) : Prop :=
  withCells x fun cx =>
  match a with
  | .bp id off => match hget H id with
    | .box t' cs => (match Nat.beq (lenL cx) (te t).sz, Nat.ble (off + (te t).sz) (lenL cs) with
      | true, true => (match (te t).ok with | true => K NV [(id, .box t' (splice cs off cx))] | false => False)
      | _, _ => False)
    | _ => False
  | .rp id i off => match hget H id with
    | .row t' sz xs => ∃ y, xs[i]? = some y ∧ (te t).ok = true ∧ (match Nat.beq (lenL cx) (te t).sz, Nat.beq (te t).sz sz, Nat.beq off 0 with
      | true, true, true => K NV [(id, .row t' sz (xs.set i x))]
      | true, _, _ => withCells y fun cy => (match Nat.ble (off + (te t).sz) (lenL cy) with
        | true => K NV [(id, .row t' sz (xs.set i (mkAgg (splice cy off cx))))]
        | false => False)
      | _, _, _ => False)
    | _ => False
  | _ => False

def dFieldAddr (te : TE) (H : Heap) (s : TypeId) (a : AV) (f : Nat) (K : DK) : Prop :=
  match (te s).u with
  | .struct fs => match nthO fs f with
    | some (o, _, _) => match a with
      | .bp id off => (match (hget H id).isCell with | true => K (.bp id (off + o)) [] | false => False)
      | .rp id i off => (match (hget H id).isRow with | true => K (.rp id i (off + o)) [] | false => False)
      | .pv (.cp cs) => K (.pv (.cp (dropL o cs))) []
      | _ => False
    | Option.none => False
  | _ => False

def dIndexAddr (te : TE) (H : Heap) (t : TypeId) (x ix : AV) (K : DK) : Prop :=
  match (te t).u, ix with
  | .slice e, .pv (.int _ i) => match x with
    | .row id n => (match (hget H id).isRow, Nat.beq (hget H id).sz (te e).sz, (te e).ok with | true, true, true => (0 ≤ i ∧ i < n) ∧ K (.rp id i.toNat 0) [] | _, _, _ => False)
    | .pv (.lst sz xs) => ∃ y, (0 ≤ i ∧ xs[i.toNat]? = some y) ∧ withCells (.pv y) fun _ => (match Nat.beq sz (te e).sz, (te e).ok with | true, true => K (.pv (.cp (cellsP y))) [] | _, _ => False)
    | _ => False
  | _, _ => False

def byteAt (s : ByteArray) (i : Int) : Int := (s.data[i.toNat]?.getD 0).toNat
def dIndex (te : TE) (t : TypeId) (x ix : AV) (K : DK) : Prop :=
  match (te t).u, x, ix with
  | .string, .pv (.str s), .pv (.int _ i) => (0 ≤ i ∧ i < s.size) ∧ K (.pv (.int .u8 (byteAt s i))) []
  | _, _, _ => False

def dLen (te : TE) (H : Heap) (t : TypeId) (x : AV) (K : DK) : Prop :=
  match (te t).u with
  | .slice _ => match x with
    | .pv (.lst _ xs) => K (.pv (.int .i64 xs.length)) []
    | .pv .nils => K (.pv (.int .i64 0)) []
    | .row id n => (match (hget H id).isRow with | true => K (.pv (.int .i64 n)) [] | false => False)
    | _ => False
  | .string => match x with
    | .pv (.str s) => K (.pv (.int .i64 s.size)) []
    | _ => False
  | _ => False

def dBin (te : TE) (t : TypeId) (op : BinOp) (x y : AV) (K : DK) : Prop :=
  match x, y with
  | .pv (.int k a), .pv (.int k' b) => kSame k k' (match op with
    | .add => K (.pv (.int k (k.wrap (a + b)))) []
    | .sub => K (.pv (.int k (k.wrap (a - b)))) []
    | .mul => K (.pv (.int k (k.wrap (a * b)))) []
    | .quo => (b ≠ 0) ∧ K (.pv (.int k (k.wrap (a.tdiv b)))) []
    | .rem => (b ≠ 0) ∧ K (.pv (.int k (a.tmod b))) []
    | .lss => K (.pv (.bool (decide (a < b)))) []
    | .leq => K (.pv (.bool (decide (a ≤ b)))) []
    | .gtr => K (.pv (.bool (decide (b < a)))) []
    | .geq => K (.pv (.bool (decide (b ≤ a)))) []
    | .eql => K (.pv (.bool (decide (a = b)))) []
    | .neq => K (.pv (.bool (!decide (a = b)))) []
    | _ => False)
  | .pv (.bool a), .pv (.bool b) => match op, (te t).u with
    | .eql, .bool => K (.pv (.bool (a == b))) []
    | .neq, .bool => K (.pv (.bool (!(a == b)))) []
    | _, _ => False
  | .pv (.str a), .pv (.str b) => match op with
    | .eql => K (.pv (.bool (a.toList == b.toList))) []
    | .neq => K (.pv (.bool (!(a.toList == b.toList)))) []
    | .add => (a.size + b.size ≤ 4611686018427387904) ∧ K (.pv (.str (a ++ b))) []
    | _ => False
  | .pv .nils, .pv .nils => match op, (te t).u with
    | .eql, .slice _ => K (.pv (.bool true)) []
    | .neq, .slice _ => K (.pv (.bool false)) []
    | _, _ => False
  | .pv (.lst _ xs), .pv .nils => match op, (te t).u with
    | .eql, .slice _ => (0 < xs.length) ∧ K (.pv (.bool false)) []
    | .neq, .slice _ => (0 < xs.length) ∧ K (.pv (.bool true)) []
    | _, _ => False
  | _, _ => False

/-- A slice's parts: all places in order. -/
def dense : List (Nat × AV) → Nat → Bool
  | [], _ => true
  | (i, _) :: l, k => Nat.beq i k && dense l (Nat.succ k)
def sndL : List (Nat × AV) → List AV
  | [] => []
  | (_, x) :: l => x :: sndL l
/-- A struct's parts laid over its zero cells. -/
def fillF (fs : List (Nat × Nat × Bool)) : List AV → List (Nat × AV) → Option (List AV)
  | cs, [] => some cs
  | cs, (f, v) :: l => match nthO fs f with
    | some (o, sz, _) => match Nat.ble (o + sz) (lenL cs), Nat.beq (lenL (cellsA v)) sz with
      | true, true => fillF fs (splice cs o (cellsA v)) l
      | _, _ => Option.none
    | Option.none => Option.none
def evParts (ev : Operand → Option AV) : List (Nat × Operand) → Option (List (Nat × AV))
  | [] => some []
  | (i, x) :: l => match ev x, evParts ev l with | some v, some vs => some ((i, v) :: vs) | _, _ => Option.none
def evs (ev : Operand → Option AV) : List Operand → Option (List AV)
  | [] => some []
  | x :: l => match ev x, evs ev l with | some v, some vs => some (v :: vs) | _, _ => Option.none
def zeroA (T : TD) : AV := match T.agg with | true => .pv (.agg T.zero) | false => match T.zero with | [z] => .pv z | _ => NV


def appL {α : Type} (m : Nat) (xs : List α) (k : Nat) (ys : List α) : List α := xs.take m ++ ys.take k
/-- What is appended: how many, the elements. -/
def appX (H : Heap) (sz : Nat) (x : AV) (K : Nat → List AV → Prop) : Prop := match x with
  | .row id k => match hget H id with
    | .row _ sz' ys => (match Nat.beq sz' sz with | true => (k ≤ ys.length) ∧ K k ys | false => False)
    | .frozen sz' ys => (match Nat.beq sz' sz with | true => (k ≤ ys.length) ∧ K k (pvs ys) | false => False)
    | _ => False
  | .pv (.lst sz' ys) => (match Nat.beq sz' sz with | true => K ys.length (pvs ys) | false => False)
  | .pv .nils => K 0 []
  | _ => False
def dAppend (te : TE) (H : Heap) (nid : Nat) (t : TypeId) (s x : AV) (K : DK) : Prop :=
  match (te t).u with
  | .slice e => appX H (te e).sz x fun k ys => (match s with
    | .row id m => match hget H id with
      | .row t0 sz xs => (match Nat.beq t0 e, Nat.beq sz (te e).sz, Nat.beq (te e).sz 0, (te e).ok with
        | true, true, false, true => ((m ≤ xs.length ∧ m + k ≤ 9223372036854775807) ∧ (m + k) * (te e).bytes ≤ 140737488355328) ∧ K (.row nid (m + k)) [(id, .dead), (nid, .row e (te e).sz (appL m xs k ys))]
        | _, _, _, _ => False)
      | _ => False
    | .pv .nils => (match Nat.beq (te e).sz 0, (te e).ok with
        | false, true => ((k ≤ 9223372036854775807 ∧ k * (te e).bytes ≤ 140737488355328) ∧ 0 < k) ∧ K (.row nid k) [(nid, .row e (te e).sz (appL 0 [] k ys))]
        | _, _ => False)
    | _ => False)
  | _ => False
/-- A string's bytes. -/
def bytesP (s : ByteArray) : List PV := s.data.toList.map fun b => PV.int .u8 b.toNat
def isU8 : IntKind → Bool
  | .u8 => true
  | _ => false
def isZ : Int → Bool
  | .ofNat m => Nat.beq m 0
  | _ => false
/-- Is it the type of bytes? -/
def byteT (T : TD) : Bool := T.ok && !T.agg && (match T.u with | .int k => isU8 k | _ => false) && Nat.beq T.sz 1 && Nat.beq T.bytes 1 && (match T.zero with | [.int k n] => isU8 k && isZ n | _ => false)
/-- The bytes that a row holds. -/
def strOf : List AV → Option (List UInt8)
  | [] => some []
  | .pv (.int k n) :: l => (match isU8 k, strOf l with | true, some r => some (UInt8.ofNat n.toNat :: r) | _, _ => Option.none)
  | _ :: _ => Option.none
/-- A string's bytes appended to a row of bytes. -/
def dAppS (te : TE) (H : Heap) (nid e : Nat) (s : AV) (b : ByteArray) (K : DK) : Prop := match byteT (te e) with
  | true => (match s with
    | .row id m => match hget H id with
      | .row t0 sz xs => (match Nat.beq t0 e, Nat.beq sz 1 with
        | true, true => (m ≤ xs.length ∧ m + b.size ≤ 140737488355328) ∧ K (.row nid (m + b.size)) [(id, .dead), (nid, .row e 1 (appL m xs b.size (pvs (bytesP b))))]
        | _, _ => False)
      | _ => False
    | .pv .nils => (b.size ≤ 140737488355328 ∧ 0 < b.size) ∧ K (.row nid b.size) [(nid, .row e 1 (appL 0 [] b.size (pvs (bytesP b))))]
    | _ => False)
  | false => False
def dMake (te : TE) (nid : Nat) (t : TypeId) (l c : AV) (K : DK) : Prop :=
  match (te t).u, l, c with
  | .slice e, .pv (.int _ l), .pv (.int _ c) => (match (te e).ok with
    | true => (0 ≤ l ∧ l ≤ c ∧ c ≤ 9223372036854775807 ∧ c * (te e).bytes ≤ 281474976710656) ∧ K (.row nid l.toNat) [(nid, .row e (te e).sz (List.replicate l.toNat (zeroA (te e))))]
    | false => False)
  | _, _, _ => False
def dSlice (te : TE) (H : Heap) (t : TypeId) (x : AV) (lo hi : Option AV) (K : DK) : Prop :=
  match (te t).u, x with
  | .string, .pv (.str s) => match lo, hi with
    | Option.none, some (.pv (.int _ h)) => (0 ≤ h ∧ h ≤ s.size) ∧ K (.pv (.str (s.extract 0 h.toNat))) []
    | some (.pv (.int _ l)), Option.none => (0 ≤ l ∧ l ≤ s.size) ∧ K (.pv (.str (s.extract l.toNat s.size))) []
    | some (.pv (.int _ l)), some (.pv (.int _ h)) => (0 ≤ l ∧ l ≤ h ∧ h ≤ s.size) ∧ K (.pv (.str (s.extract l.toNat h.toNat))) []
    | _, _ => False
  | .slice e, .pv (.lst sz xs) => (match Nat.beq sz (te e).sz, (te e).ok with
    | true, true => (match lo, hi with
      | Option.none, some (.pv (.int _ h)) => (0 ≤ h ∧ h ≤ xs.length) ∧ K (.pv (.lst sz (xs.take h.toNat))) []
      | some (.pv (.int _ l)), Option.none => (0 ≤ l ∧ l ≤ xs.length) ∧ K (.pv (.lst sz (xs.drop l.toNat))) []
      | some (.pv (.int _ l)), some (.pv (.int _ h)) => (0 ≤ l ∧ l ≤ h ∧ h ≤ xs.length) ∧ K (.pv (.lst sz ((xs.take h.toNat).drop l.toNat))) []
      | _, _ => False)
    | _, _ => False)
  | .slice e, .row id n => (match (te e).ok, (hget H id).isRow, lo, hi with
    | true, true, Option.none, some (.pv (.int _ h)) => (0 ≤ h ∧ h ≤ n) ∧ K (.row id h.toNat) []
    | _, _, _, _ => False)
  | _, _ => False
/-- A slice of a tree with its capacity told. -/
def dSlice3 (te : TE) (t : TypeId) (x hi mx : AV) (K : DK) : Prop :=
  match (te t).u, x, hi, mx with
  | .slice e, .pv (.lst sz xs), .pv (.int _ h), .pv (.int _ m) => (match Nat.beq sz (te e).sz, (te e).ok with
    | true, true => (0 ≤ h ∧ h ≤ m ∧ m ≤ xs.length) ∧ K (.pv (.lst sz (xs.take h.toNat))) []
    | _, _ => False)
  | _, _, _, _ => False
def oev (ev : Operand → Option AV) (x : Option Operand) (K : Option AV → Prop) : Prop := match x with
  | Option.none => K Option.none
  | some x => match ev x with | some v => K (some v) | Option.none => False

def dBuiltin (te : TE) (ev : Operand → Option AV) (H : Heap) (nid : Nat) (b : Builtin) (args : List Operand) (ts : List TypeId) (K : DK) : Prop :=
  match b, args, ts with
  | .len, [x], [t] => match ev x with | some x => dLen te H t x K | Option.none => False
  | .min, [x, y], [_, _] => match ev x, ev y with
    | some (.pv (.int k a)), some (.pv (.int k' b)) => kSame k k' (K (.pv (.int k (if b < a then b else a))) [])
    | _, _ => False
  | .max, [x, y], [_, _] => match ev x, ev y with
    | some (.pv (.int k a)), some (.pv (.int k' b)) => kSame k k' (K (.pv (.int k (if a < b then b else a))) [])
    | _, _ => False
  | .append, [s, x], [t, t'] => (match Nat.beq t t' with | true => (match ev s, ev x with | some s, some x => dAppend te H nid t s x K | _, _ => False) | false => (match (te t).u, (te t').u, ev s, ev x with | .slice e, .string, some s, some (.pv (.str b)) => dAppS te H nid e s b K | _, _, _, _ => False))
  | _, _, _ => False

/-- An operation that is no call of a function: its value, what becomes of the blocks. -/
def dop (te : TE) (ev : Operand → Option AV) (H : Heap) (nid : Nat) (o : Op) (K : DK) : Prop :=
  match o with
  | .move x => match ev x with | some v => K v [] | Option.none => False
  | .assign x => match ev x with | some v => K v [] | Option.none => False
  | .pick c a b => match ev c with
    | some (.pv (.bool bc)) => br bc (match ev a with | some v => K v [] | Option.none => False) (match ev b with | some v => K v [] | Option.none => False)
    | _ => False
  | .alloc t => (match (te t).ok with | true => K (.bp nid 0) [(nid, .box t (pvs (te t).zero))] | false => False)
  | .box t x => match ev x with | some v => withCells v fun cv => K (.bp nid 0) [(nid, .box t cv)] | Option.none => False
  | .build t parts => match (te t).u, (te t).ok, evParts ev parts.toList with
    | .struct fs, true, some ps => (match ps.all (fun p => withCellsB p.2), fillF fs (pvs (te t).zero) ps with
      | true, some cs => K (mkAgg cs) []
      | _, _ => False)
    | _, _, _ => False
  | .buildSlice t 0 parts => match (te t).u, parts.toList with
    | .slice e, [] => (match Nat.blt 0 (te e).sz && (te e).ok with
      | true => K (.row nid 0) [(nid, .row e (te e).sz [])]
      | _ => False)
    | _, _ => False
  | .buildSlice t len parts => match (te t).u, evParts ev parts.toList with
    | .slice e, some ps => (match ps.all (fun p => withCellsB p.2 && Nat.beq (lenL (cellsA p.2)) (te e).sz), dense ps 0 && Nat.beq (lenL ps) len && Nat.blt 0 len, Nat.ble (len * (te e).sz) 16777216, Nat.blt 0 (te e).sz && (te e).ok with
      | true, true, true, true => K (.row nid len) [(nid, .row e (te e).sz (sndL ps))]
      | _, _, _, _ => False)
    | _, _ => False
  | .load t a => match ev a with | some a => dLoad te H t a K | Option.none => False
  | .store t a x => match ev a, ev x with | some a, some x => dStore te H t a x K | _, _ => False
  | .fieldAddr s a f => match ev a with | some a => dFieldAddr te H s a f K | Option.none => False
  | .field t x f => match (te t).u, ev x with
    | .struct fs, some (.pv (.agg cs)) => (match nthO fs f with
      | some (o, _, false) => (match nthO cs o with | some c => K (.pv c) [] | Option.none => False)
      | some (o, sz, true) => K (.pv (.agg (takeL sz (dropL o cs)))) []
      | Option.none => False)
    | _, _ => False
  | .indexAddr t x ix => match ev x, ev ix with | some x, some ix => dIndexAddr te H t x ix K | _, _ => False
  | .index t x ix => match ev x, ev ix with | some x, some ix => dIndex te t x ix K | _, _ => False
  | .slice t x Option.none (some hi) (some mx) => match ev x, ev hi, ev mx with | some x, some hi, some mx => dSlice3 te t x hi mx K | _, _, _ => False
  | .slice t x lo hi Option.none => match ev x with | some x => oev ev lo fun lo => oev ev hi fun hi => dSlice te H t x lo hi K | Option.none => False
  | .binOp op t x y _ => match ev x, ev y with | some x, some y => dBin te t op x y K | _, _ => False
  | .unOp op _ x => match op, ev x with
    | .not, some (.pv (.bool b)) => K (.pv (.bool (!b))) []
    | .neg, some (.pv (.int k n)) => K (.pv (.int k (k.wrap (0 - n)))) []
    | _, _ => False
  | .convert src dst x => match (te src).u, (te dst).u, ev x with
    | .int _, .int k, some (.pv (.int _ n)) => K (.pv (.int k (k.wrap n))) []
    | .slice e, .string, some (.row id n) => (match byteT (te e), hget H id with
      | true, .row _ sz xs => (match Nat.beq sz 1, strOf (takeL n xs) with | true, some l => (n ≤ xs.length) ∧ K (.pv (.str ⟨l.toArray⟩)) [] | _, _ => False)
      | _, _ => False)
    | _, _, _ => False
  | .nilCheck x => match ev x with
    | some (.bp id o) => (match (hget H id).isCell with | true => K (.bp id o) [] | false => False)
    | some (.rp id i o) => (match (hget H id).isRow with | true => K (.rp id i o) [] | false => False)
    | some (.pv (.cp cs)) => K (.pv (.cp cs)) []
    | some (.fn f cs) => K (.fn f cs) []
    | some (.pv (.fn f cs)) => K (.pv (.fn f cs)) []
    | _ => False
  | .makeSlice t l c => match ev l, ev c with | some l, some c => dMake te nid t l c K | _, _ => False
  | .makeMap t Option.none => (match (te t).u with | .smap => K (.bp nid 0) [(nid, .smap [])] | _ => False)
  | .lookup t m k false => (match (te t).u, ev m, ev k with
    | .smap, some (.bp id _), some (.pv (.str s)) => (match hget H id with | .smap ks => K (.pv (.bool (memS s ks))) [] | _ => False)
    | _, _, _ => False)
  | .mapUpdate t m k x => (match (te t).u, ev m, ev k, ev x with
    | .smap, some (.bp id _), some (.pv (.str s)), some (.pv (.bool true)) => (match hget H id with | .smap ks => K NV [(id, .smap (s :: ks))] | _ => False)
    | _, _, _, _ => False)
  | .makeFunc (.func g) first caps => match first.toList, evs ev caps.toList with
    | [], some vs => K (mkFn g vs) []
    | _, _ => False
  | .extract x i => match ev x with
    | some (.pv (.tuple vs)) => (match nthO vs i with | some v => K (.pv v) [] | Option.none => False)
    | some (.tup vs) => (match nthO vs i with | some v => K v [] | Option.none => False)
    | _ => False
  | .call { callee := .builtin b, args, argTypes } => dBuiltin te ev H nid b args.toList argTypes.toList K
  | _ => False
end Go.AM

namespace Go.AM

mutual
/-- What a pure value says of a value in a world; X: the blocks that it doesn't lean on. -/
def PR (w : World) (X : Nat → Prop) : PV → Value → Prop
  | .int k n, v => v = .int k n
  | .bool b, v => v = .bool b
  | .str s, v => v = .string s
  | .agg cs, v => ∃ vs : List Value, v = .agg vs.toArray ∧ CR w X cs vs
  | .lst sz xs, v => ∃ A cap, v = .slice A xs.length cap ∧ xs.length ≤ cap ∧ cap ≤ maxLen ∧ ER w X xs sz A 0
  | .nils, v => v = .slice none 0 0
  | .cp cs, v => ∃ ad vs, v = .pointer (some ad) ∧ ad.block < w.heap.size ∧ ¬ X ad.block ∧ (∀ j u, vs[j]? = some u → w.cell? (ad.add j) = some u) ∧ CR w X cs vs
  | .tuple ps, v => ∃ vs : List Value, v = .tuple vs.toArray ∧ TR w X ps vs
  | .fn f caps, v => ∃ vs : List Value, v = .func (.func f) #[] vs.toArray ∧ TR w X caps vs
  | .raw u, v => v = u ∧ u.oneCell' = true
/-- Cells. -/
def CR (w : World) (X : Nat → Prop) : List PV → List Value → Prop
  | [], vs => vs = []
  | p :: ps, vs => ∃ u us, vs = u :: us ∧ u.oneCell' = true ∧ PR w X p u ∧ CR w X ps us
/-- Values, one by one. -/
def TR (w : World) (X : Nat → Prop) : List PV → List Value → Prop
  | [], vs => vs = []
  | p :: ps, vs => ∃ u us, vs = u :: us ∧ PR w X p u ∧ TR w X ps us
/-- Elements from number i on. -/
def ER (w : World) (X : Nat → Prop) : List PV → Nat → Option Addr → Nat → Prop
  | [], _, _, _ => True
  | p :: ps, sz, A, i => (∃ ad v, A = some ad ∧ ad.block < w.heap.size ∧ ¬ X ad.block ∧ PR w X p v ∧ v.cells.size = sz ∧ ∀ j u, v.cells[j]? = some u → w.cell? (ad.add (i * sz + j)) = some u ∧ u.oneCell' = true) ∧ ER w X ps sz A (i + 1)
end

/-- From one world to a later one: what was not X stands. -/
structure Later (w : World) (X : Nat → Prop) (w' : World) (X' : Nat → Prop) : Prop where
  size : w.heap.size ≤ w'.heap.size
  heap : ∀ b, b < w.heap.size → ¬ X b → w'.heap[b]? = w.heap[b]?
  avoid : ∀ b, b < w.heap.size → X' b → X b

theorem Later.cell {w w' : World} {X X' : Nat → Prop} (h : Later w X w' X') {a : Addr} {u : Value} (hx : ¬ X a.block) (hc : w.cell? a = some u) : w'.cell? a = some u :=
  (World.cell?_of_block (h.heap a.block (World.block_lt_of_cell? w a hc) hx)).trans hc
theorem Later.refl (w : World) (X : Nat → Prop) : Later w X w X := ⟨Nat.le_refl _, fun _ _ _ => rfl, fun _ _ h => h⟩
theorem add_block (a : Addr) (n : Nat) : (a.add n).block = a.block := by unfold Addr.add; split <;> rfl

mutual
theorem PR.later {w w' : World} {X X' : Nat → Prop} (h : Later w X w' X') : ∀ (p : PV) (v : Value), PR w X p v → PR w' X' p v
  | .int _ _, _, hp => by simpa [PR] using hp
  | .bool _, _, hp => by simpa [PR] using hp
  | .str _, _, hp => by simpa [PR] using hp
  | .nils, _, hp => by simpa [PR] using hp
  | .raw _, _, hp => by simpa [PR] using hp
  | .agg cs, v, hp => by
    simp only [PR] at hp ⊢
    obtain ⟨vs, rfl, hc⟩ := hp
    exact ⟨vs, rfl, CR.later h cs vs hc⟩
  | .lst sz xs, v, hp => by
    simp only [PR] at hp ⊢
    obtain ⟨A, cap, rfl, h1, h2, he⟩ := hp
    exact ⟨A, cap, rfl, h1, h2, ER.later h xs sz A 0 he⟩
  | .cp cs, v, hp => by
    simp only [PR] at hp ⊢
    obtain ⟨ad, vs, rfl, hlt, hx, hc, hr⟩ := hp
    exact ⟨ad, vs, rfl, Nat.lt_of_lt_of_le hlt h.size, fun hx' => hx (h.avoid _ hlt hx'), fun j u' hj => h.cell (by rw [add_block]; exact hx) (hc j u' hj), CR.later h cs _ hr⟩
  | .tuple ps, v, hp => by
    simp only [PR] at hp ⊢
    obtain ⟨vs, rfl, hc⟩ := hp
    exact ⟨vs, rfl, TR.later h ps vs hc⟩
  | .fn f ps, v, hp => by
    simp only [PR] at hp ⊢
    obtain ⟨vs, rfl, hc⟩ := hp
    exact ⟨vs, rfl, TR.later h ps vs hc⟩
theorem CR.later {w w' : World} {X X' : Nat → Prop} (h : Later w X w' X') : ∀ (ps : List PV) (vs : List Value), CR w X ps vs → CR w' X' ps vs
  | [], _, hp => by simpa [CR] using hp
  | p :: ps, _, hp => by
    simp only [CR] at hp ⊢
    obtain ⟨u, us, rfl, h1, h2, h3⟩ := hp
    exact ⟨u, us, rfl, h1, PR.later h p u h2, CR.later h ps us h3⟩
theorem TR.later {w w' : World} {X X' : Nat → Prop} (h : Later w X w' X') : ∀ (ps : List PV) (vs : List Value), TR w X ps vs → TR w' X' ps vs
  | [], _, hp => by simpa [TR] using hp
  | p :: ps, _, hp => by
    simp only [TR] at hp ⊢
    obtain ⟨u, us, rfl, h2, h3⟩ := hp
    exact ⟨u, us, rfl, PR.later h p u h2, TR.later h ps us h3⟩
theorem ER.later {w w' : World} {X X' : Nat → Prop} (h : Later w X w' X') : ∀ (ps : List PV) (sz : Nat) (A : Option Addr) (i : Nat), ER w X ps sz A i → ER w' X' ps sz A i
  | [], _, _, _, _ => by simp [ER]
  | p :: ps, sz, A, i, hp => by
    simp only [ER] at hp ⊢
    obtain ⟨⟨ad, v, rfl, hlt, hx, hpv, hs, hc⟩, he⟩ := hp
    refine ⟨⟨ad, v, rfl, Nat.lt_of_lt_of_le hlt h.size, fun hx' => hx (h.avoid _ hlt hx'), PR.later h p v hpv, hs, fun j u hj => ⟨h.cell (by rw [add_block]; exact hx) (hc j u hj).1, (hc j u hj).2⟩⟩, ER.later h ps sz _ _ he⟩
end

/-! ### Abstract values over a memory -/
abbrev Own := Nat → AB
abbrev Io := Nat → Nat × Nat
/-- Where a block of one's own is: a box or a map. -/
def bval (p : Nat × Nat) (o : Nat) : Value := match p.2 with | 0 => .pointer (some ⟨p.1, o, Option.none⟩) | _ => .map (some p.1)
theorem bval_box {p : Nat × Nat} {o : Nat} (h : p.2 = 0) : bval p o = .pointer (some ⟨p.1, o, Option.none⟩) := by unfold bval; simp only [h]
theorem bval_map {p : Nat × Nat} {o : Nat} (h : p.2 = 1) : bval p o = .map (some p.1) := by unfold bval; simp only [h]

/-- The blocks that the call owns. -/
def own (ι : Io) (G : Own) (b : Nat) : Prop := ∃ id, (G id).live = true ∧ (ι id).1 = b
/-- What pure values don't lean on. -/
def off (X : Nat → Prop) (ι : Io) (G : Own) (b : Nat) : Prop := own ι G b ∨ X b

mutual
def VR (w : World) (X : Nat → Prop) (ι : Io) (G : Own) : AV → Value → Prop
  | .pv p, v => PR w (off X ι G) p v
  | .bp id o, v => (G id).isNone = false ∧ ((G id).isBox = true → v = bval (ι id) o) ∧ v.oneCell' = true
  | .row id n, v => (G id).isNone = false ∧ ((G id).isRow = true → v = .slice (some ⟨(ι id).1, 0, none⟩) n (ι id).2 ∧ n ≤ (ι id).2) ∧ v.oneCell' = true
  | .rp id i o, v => (G id).isNone = false ∧ ((G id).isRow = true → v = .pointer (some ⟨(ι id).1, i * (G id).sz + o, none⟩)) ∧ v.oneCell' = true
  | .mix cs, v => ∃ vs : List Value, v = .agg vs.toArray ∧ CV w X ι G cs vs
  | .tup cs, v => ∃ vs : List Value, v = .tuple vs.toArray ∧ TV w X ι G cs vs
  | .fn f cs, v => ∃ vs : List Value, v = .func (.func f) #[] vs.toArray ∧ TV w X ι G cs vs
def CV (w : World) (X : Nat → Prop) (ι : Io) (G : Own) : List AV → List Value → Prop
  | [], vs => vs = []
  | p :: ps, vs => ∃ u us, vs = u :: us ∧ u.oneCell' = true ∧ VR w X ι G p u ∧ CV w X ι G ps us
def TV (w : World) (X : Nat → Prop) (ι : Io) (G : Own) : List AV → List Value → Prop
  | [], vs => vs = []
  | p :: ps, vs => ∃ u us, vs = u :: us ∧ VR w X ι G p u ∧ TV w X ι G ps us
end

/-- From one memory to a later one. -/
structure Next (w : World) (X : Nat → Prop) (ι : Io) (G : Own) (w' : World) (ι' : Io) (G' : Own) : Prop where
  later : Later w (off X ι G) w' (off X ι' G')
  io : ∀ id, (G id).isNone = false → ι' id = ι id
  some_ : ∀ id, (G id).isNone = false → (G' id).isNone = false
  box : ∀ id, (G id).isNone = false → (G' id).isBox = true → (G id).isBox = true
  row : ∀ id, (G id).isNone = false → (G' id).isRow = true → (G id).isRow = true ∧ (G' id).sz = (G id).sz

mutual
theorem VR.next {w w' : World} {X : Nat → Prop} {ι ι' : Io} {G G' : Own} (h : Next w X ι G w' ι' G') : ∀ (a : AV) (v : Value), VR w X ι G a v → VR w' X ι' G' a v
  | .pv p, v, ha => by
    simp only [VR] at ha ⊢
    exact PR.later h.later p v ha
  | .bp id o, v, ha => by
    simp only [VR] at ha ⊢
    obtain ⟨h1, h2, h3⟩ := ha
    exact ⟨h.some_ id h1, fun hb => by rw [h.io id h1]; exact h2 (h.box id h1 hb), h3⟩
  | .row id n, v, ha => by
    simp only [VR] at ha ⊢
    obtain ⟨h1, h2, h3⟩ := ha
    exact ⟨h.some_ id h1, fun hb => by rw [h.io id h1]; exact h2 (h.row id h1 hb).1, h3⟩
  | .rp id i o, v, ha => by
    simp only [VR] at ha ⊢
    obtain ⟨h1, h2, h3⟩ := ha
    exact ⟨h.some_ id h1, fun hb => by rw [h.io id h1, (h.row id h1 hb).2]; exact h2 (h.row id h1 hb).1, h3⟩
  | .mix cs, v, ha => by
    simp only [VR] at ha ⊢
    obtain ⟨vs, rfl, hc⟩ := ha
    exact ⟨vs, rfl, CV.next h cs vs hc⟩
  | .tup cs, v, ha => by
    simp only [VR] at ha ⊢
    obtain ⟨vs, rfl, hc⟩ := ha
    exact ⟨vs, rfl, TV.next h cs vs hc⟩
  | .fn f cs, v, ha => by
    simp only [VR] at ha ⊢
    obtain ⟨vs, rfl, hc⟩ := ha
    exact ⟨vs, rfl, TV.next h cs vs hc⟩
theorem CV.next {w w' : World} {X : Nat → Prop} {ι ι' : Io} {G G' : Own} (h : Next w X ι G w' ι' G') : ∀ (xs : List AV) (vs : List Value), CV w X ι G xs vs → CV w' X ι' G' xs vs
  | [], _, ha => by simpa [CV] using ha
  | a :: xs, _, ha => by
    simp only [CV] at ha ⊢
    obtain ⟨u, us, rfl, h1, h2, h3⟩ := ha
    exact ⟨u, us, rfl, h1, VR.next h a u h2, CV.next h xs us h3⟩
theorem TV.next {w w' : World} {X : Nat → Prop} {ι ι' : Io} {G G' : Own} (h : Next w X ι G w' ι' G') : ∀ (xs : List AV) (vs : List Value), TV w X ι G xs vs → TV w' X ι' G' xs vs
  | [], _, ha => by simpa [TV] using ha
  | a :: xs, _, ha => by
    simp only [TV] at ha ⊢
    obtain ⟨u, us, rfl, h2, h3⟩ := ha
    exact ⟨u, us, rfl, VR.next h a u h2, TV.next h xs us h3⟩
end

/-- Elements of a row of one's own, in its cells. -/
def EV (w : World) (X : Nat → Prop) (ι : Io) (G : Own) (cells : Array Value) (sz : Nat) (xs : List AV) : Prop :=
  ∀ i x, xs[i]? = some x → ∃ v, VR w X ι G x v ∧ v.cells.size = sz ∧ ∀ j u, v.cells[j]? = some u → cells[i * sz + j]? = some u ∧ u.oneCell' = true

/-- A map's entries: the keys, all true. -/
def MapR (es : Array MapEntry) (ks : List ByteArray) : Prop := (∀ e ∈ es.toList, ∃ s, e.key = .string s ∧ e.val = .bool true) ∧ ∀ s, s ∈ ks ↔ ∃ e ∈ es.toList, e.key = .string s
/-- A block. -/
def BR (w : World) (X : Nat → Prop) (ι : Io) (G : Own) (id : Nat) : AB → Prop
  | .none => True
  | .dead => True
  | .box t cs => (∃ vs : List Value, w.heap[(ι id).1]? = some (.cells vs.toArray t (0, 0)) ∧ CV w X ι G cs vs) ∧ (ι id).2 = 0
  | .fbox cs => PR w (off X ι G) (.cp cs) (.pointer (some ⟨(ι id).1, 0, none⟩)) ∧ (ι id).2 = 0
  | .smap ks => (∃ es clock, w.heap[(ι id).1]? = some (.map es clock) ∧ MapR es ks) ∧ (ι id).2 = 1
  | .row t sz xs => ∃ cells : Array Value, w.heap[(ι id).1]? = some (.cells cells t (0, 0)) ∧ cells.size = (ι id).2 * sz ∧ xs.length ≤ (ι id).2 ∧ (ι id).2 ≤ maxLen ∧ EV w X ι G cells sz xs
  | .frozen sz xs => PR w (off X ι G) (.lst sz xs) (.slice (some ⟨(ι id).1, 0, none⟩) xs.length (ι id).2)

/-- Package-level variables that are laid when the law begins: their blocks' numbers, what they hold. -/
def laidL : List (Nat × List Value) := []
def Laid (w : World) : Prop := ∀ p ∈ laidL, ∃ t fr, w.heap[p.1]? = some (.cells p.2.toArray t fr)
theorem Laid.lt {w : World} (h : Laid w) {p : Nat × List Value} (hp : p ∈ laidL) : p.1 < w.heap.size := let ⟨_, _, e⟩ := h p hp; (Array.getElem?_eq_some_iff.1 e).1
theorem Laid.hold {w w' : World} (h : Laid w) (hw : ∀ p ∈ laidL, p.1 < w.heap.size → w'.heap[p.1]? = w.heap[p.1]?) : Laid w' := fun p hp => let ⟨t, fr, e⟩ := h p hp; ⟨t, fr, (hw p hp (h.lt hp)).trans e⟩
/-- The memory is as it is told. -/
structure Conc (w : World) (X : Nat → Prop) (ι : Io) (G : Own) : Prop where
  inj : ∀ i j, (G i).live = true → (G j).live = true → (ι i).1 = (ι j).1 → i = j
  dis : ∀ i, (G i).live = true → ¬ X (ι i).1
  xlt : ∀ b, X b → b < w.heap.size
  br : ∀ id, BR w X ι G id (G id)
  laid : Laid w
  free : ∀ p ∈ laidL, ∀ i, (G i).live = true → (ι i).1 ≠ p.1

theorem EV.next {w w' : World} {X : Nat → Prop} {ι ι' : Io} {G G' : Own} (h : Next w X ι G w' ι' G') {cells : Array Value} {sz : Nat} {xs : List AV} (he : EV w X ι G cells sz xs) : EV w' X ι' G' cells sz xs :=
  fun i x hx => let ⟨v, h1, h2, h3⟩ := he i x hx; ⟨v, VR.next h x v h1, h2, h3⟩

theorem BR.lt {w : World} {X : Nat → Prop} {ι : Io} {G : Own} {id : Nat} {b : AB} (h : BR w X ι G id b) (hl : b.live = true) : (ι id).1 < w.heap.size := by
  cases b <;> simp [AB.live] at hl
  · obtain ⟨⟨vs, h, _⟩, _⟩ := h
    exact (Array.getElem?_eq_some_iff.1 h).1
  · obtain ⟨cells, h, _⟩ := h
    exact (Array.getElem?_eq_some_iff.1 h).1
  · obtain ⟨⟨es, clock, h, _⟩, _⟩ := h
    exact (Array.getElem?_eq_some_iff.1 h).1

theorem BR.cell {w : World} {X : Nat → Prop} {ι : Io} {G : Own} {id : Nat} {b : AB} (h : BR w X ι G id b) (hl : b.isCell = true) : b.isBox = true ∧ (ι id).2 = 0 := by
  cases b <;> simp [AB.isCell] at hl
  · exact ⟨rfl, h.2⟩
  · exact ⟨rfl, h.2⟩
/-- A block that wasn't touched, later on. -/
theorem BR.next {w w' : World} {X : Nat → Prop} {ι ι' : Io} {G G' : Own} (h : Next w X ι G w' ι' G') {id : Nat} {b : AB} (hn : (G id).isNone = false) (hb : b.live = true → w'.heap[(ι id).1]? = w.heap[(ι id).1]?) (hr : BR w X ι G id b) : BR w' X ι' G' id b := by
  have hι := h.io id hn
  cases b with
  | none => trivial
  | dead => trivial
  | box t cs =>
    obtain ⟨⟨vs, h1, h2⟩, h3⟩ := hr
    exact ⟨⟨vs, by rw [hι, hb rfl]; exact h1, CV.next h cs vs h2⟩, by rw [hι]; exact h3⟩
  | smap ks =>
    obtain ⟨⟨es, clock, h1, h2⟩, h3⟩ := hr
    exact ⟨⟨es, clock, by rw [hι, hb rfl]; exact h1, h2⟩, by rw [hι]; exact h3⟩
  | fbox cs => simp only [BR] at hr ⊢; rw [hι]; exact ⟨PR.later h.later _ _ hr.1, hr.2⟩
  | row t sz xs =>
    obtain ⟨cells, h1, h2, h3, h4, h5⟩ := hr
    exact ⟨cells, by rw [hι, hb rfl]; exact h1, by rw [hι]; exact h2, by rw [hι]; exact h3, by rw [hι]; exact h4, h5.next h⟩
  | frozen sz xs => simp only [BR] at hr ⊢; rw [hι]; exact PR.later h.later _ _ hr
end Go.AM

namespace Go.AM

/-! ### Lists -/
theorem hget_none : ∀ (H : Heap) (i : Nat), hlen H ≤ i → hget H i = .none
  | [], i, _ => by cases i <;> rfl
  | _ :: H, 0, h => by simp [hlen] at h
  | _ :: H, i + 1, h => hget_none H i (by simp only [hlen] at h; omega)
theorem hget_hset_nil : ∀ (i : Nat) (x : AB) (j : Nat), hget (hset [] i x) j = if j = i then x else .none
  | 0, x, 0 => rfl
  | 0, x, j + 1 => by simp [hset, hget]
  | i + 1, x, 0 => by simp [hset, hget]
  | i + 1, x, j + 1 => by simp only [hset, hget, hget_hset_nil i x j, Nat.add_right_cancel_iff]
theorem hget_hset : ∀ (H : Heap) (i : Nat) (x : AB) (j : Nat), hget (hset H i x) j = if j = i then x else hget H j
  | [], i, x, j => by rw [hget_hset_nil]; cases j <;> rfl
  | b :: H, 0, x, 0 => rfl
  | b :: H, 0, x, j + 1 => by simp [hset, hget]
  | b :: H, i + 1, x, 0 => by simp [hset, hget]
  | b :: H, i + 1, x, j + 1 => by simp only [hset, hget, hget_hset H i x j, Nat.add_right_cancel_iff]
theorem hget_hset' (H : Heap) (i : Nat) (x : AB) : hget (hset H i x) = gset (hget H) i x := funext fun j => hget_hset H i x j
theorem hget_hupd : ∀ (u : Upd) (H : Heap), hget (hupd H u) = gupd (hget H) u
  | [], _ => rfl
  | (i, b) :: u, H => by simp only [hupd, gupd]; rw [hget_hupd u, hget_hset']
theorem lenL_eq {α : Type} : ∀ l : List α, lenL l = l.length
  | [] => rfl
  | _ :: l => by simp [lenL, lenL_eq l]
theorem takeL_eq {α : Type} : ∀ (n : Nat) (l : List α), takeL n l = l.take n
  | 0, _ => by simp [takeL]
  | _ + 1, [] => by simp [takeL]
  | n + 1, a :: l => by simp [takeL, takeL_eq n l]
theorem dropL_eq {α : Type} : ∀ (n : Nat) (l : List α), dropL n l = l.drop n
  | 0, _ => by simp [dropL]
  | _ + 1, [] => by simp [dropL]
  | n + 1, _ :: l => by simp [dropL, dropL_eq n l]
theorem nthO_eq {α : Type} : ∀ (l : List α) (n : Nat), nthO l n = l[n]?
  | [], n => by simp [nthO]
  | a :: _, 0 => by simp [nthO]
  | _ :: l, n + 1 => by simp [nthO, nthO_eq l n]

section
variable {w : World} {X : Nat → Prop} {ι : Io} {G : Own}

theorem oneCell_cells {v : Value} (h : v.oneCell' = true) : v.cells = #[v] := by cases v <;> first | rfl | simp [Value.oneCell'] at h

/-! ### Cells of values -/
theorem CV_len : ∀ {cs : List AV} {vs : List Value}, CV w X ι G cs vs → vs.length = cs.length
  | [], vs, h => by simp only [CV] at h; subst h; rfl
  | c :: cs, vs, h => by
    simp only [CV] at h
    obtain ⟨u, us, rfl, _, _, h3⟩ := h
    simp [CV_len h3]
theorem CV_get : ∀ {cs : List AV} {vs : List Value}, CV w X ι G cs vs → ∀ {i : Nat} {c : AV}, cs[i]? = some c → ∃ u, vs[i]? = some u ∧ u.oneCell' = true ∧ VR w X ι G c u
  | [], vs, h, i, c, hc => by simp at hc
  | c :: cs, vs, h, 0, c', hc => by
    simp only [CV] at h
    obtain ⟨u, us, rfl, h1, h2, h3⟩ := h
    simp at hc; subst hc
    exact ⟨u, rfl, h1, h2⟩
  | c :: cs, vs, h, i + 1, c', hc => by
    simp only [CV] at h
    obtain ⟨u, us, rfl, h1, h2, h3⟩ := h
    exact CV_get h3 (i := i) (by simpa using hc)
theorem CV_one : ∀ {cs : List AV} {vs : List Value}, CV w X ι G cs vs → ∀ u ∈ vs, u.oneCell' = true
  | [], vs, h, u, hu => by simp only [CV] at h; subst h; simp at hu
  | c :: cs, vs, h, u, hu => by
    simp only [CV] at h
    obtain ⟨u', us, rfl, h1, h2, h3⟩ := h
    rcases List.mem_cons.1 hu with rfl | hu
    · exact h1
    · exact CV_one h3 u hu
theorem CV_drop : ∀ (n : Nat) {cs : List AV} {vs : List Value}, CV w X ι G cs vs → CV w X ι G (cs.drop n) (vs.drop n)
  | 0, cs, vs, h => by simpa using h
  | n + 1, [], vs, h => by simp only [CV] at h; subst h; simp [CV]
  | n + 1, c :: cs, vs, h => by
    simp only [CV] at h
    obtain ⟨u, us, rfl, h1, h2, h3⟩ := h
    simpa using CV_drop n h3
theorem CV_take : ∀ (n : Nat) {cs : List AV} {vs : List Value}, CV w X ι G cs vs → CV w X ι G (cs.take n) (vs.take n)
  | 0, cs, vs, h => by simp [CV]
  | n + 1, [], vs, h => by simp only [CV] at h; subst h; simp [CV]
  | n + 1, c :: cs, vs, h => by
    simp only [CV] at h
    obtain ⟨u, us, rfl, h1, h2, h3⟩ := h
    simp only [List.take_succ_cons, CV]
    exact ⟨u, _, rfl, h1, h2, CV_take n h3⟩
theorem CV_append : ∀ {cs ds : List AV} {vs us : List Value}, CV w X ι G cs vs → CV w X ι G ds us → CV w X ι G (cs ++ ds) (vs ++ us)
  | [], ds, vs, us, h, k => by simp only [CV] at h; subst h; simpa using k
  | c :: cs, ds, vs, us, h, k => by
    simp only [CV] at h
    obtain ⟨u, vs, rfl, h1, h2, h3⟩ := h
    simp only [List.cons_append, CV]
    exact ⟨u, _, rfl, h1, h2, CV_append h3 k⟩
theorem CR_CV : ∀ {ps : List PV} {vs : List Value}, CR w (off X ι G) ps vs ↔ CV w X ι G (pvs ps) vs
  | [], vs => by simp [CR, CV, pvs]
  | p :: ps, vs => by
    simp only [CR, CV, pvs, VR]
    constructor
    · rintro ⟨u, us, rfl, h1, h2, h3⟩; exact ⟨u, us, rfl, h1, h2, CR_CV.1 h3⟩
    · rintro ⟨u, us, rfl, h1, h2, h3⟩; exact ⟨u, us, rfl, h1, h2, CR_CV.2 h3⟩
theorem TR_TV : ∀ {ps : List PV} {vs : List Value}, TR w (off X ι G) ps vs ↔ TV w X ι G (pvs ps) vs
  | [], vs => by simp [TR, TV, pvs]
  | p :: ps, vs => by
    simp only [TR, TV, pvs, VR]
    constructor
    · rintro ⟨u, us, rfl, h2, h3⟩; exact ⟨u, us, rfl, h2, TR_TV.1 h3⟩
    · rintro ⟨u, us, rfl, h2, h3⟩; exact ⟨u, us, rfl, h2, TR_TV.2 h3⟩
theorem allP_pvs : ∀ {cs : List AV} {ps : List PV}, allP cs = some ps → cs = pvs ps
  | [], ps, h => by simp [allP] at h; subst h; rfl
  | c :: cs, ps, h => by
    cases c <;> simp [allP] at h
    rename_i p
    split at h <;> simp at h
    rename_i q hq
    subst h
    simp [pvs, ← allP_pvs hq]
/-- A value's cells, when it is to be stored: a tuple, a pure value with an odd number of cells fall out. -/
theorem VR_agg {cs : List AV} {vs : List Value} (h : CV w X ι G cs vs) : VR w X ι G (mkAgg cs) (.agg vs.toArray) := by
  unfold mkAgg
  split
  · rename_i ps hp
    obtain rfl := allP_pvs hp
    simp only [VR, PR]
    exact ⟨vs, rfl, CR_CV.2 h⟩
  · simp only [VR]
    exact ⟨vs, rfl, h⟩
theorem VR_tup {cs : List AV} {vs : List Value} (h : TV w X ι G cs vs) : VR w X ι G (mkTup cs) (.tuple vs.toArray) := by
  unfold mkTup
  split
  · rename_i ps hp
    obtain rfl := allP_pvs hp
    simp only [VR, PR]
    exact ⟨vs, rfl, TR_TV.2 h⟩
  · simp only [VR]
    exact ⟨vs, rfl, h⟩
theorem VR_fn {f : FuncId} {cs : List AV} {vs : List Value} (h : TV w X ι G cs vs) : VR w X ι G (mkFn f cs) (.func (.func f) #[] vs.toArray) := by
  unfold mkFn
  split
  · rename_i ps hp
    obtain rfl := allP_pvs hp
    simp only [VR, PR]
    exact ⟨vs, rfl, TR_TV.2 h⟩
  · simp only [VR]
    exact ⟨vs, rfl, h⟩
end
end Go.AM

namespace Go.AM

/-- What a step does to the memory: what isn't owned stands. -/
structure Gr (w : World) (ι : Io) (G : Own) (w' : World) (ι' : Io) (G' : Own) : Prop where
  size : w.heap.size ≤ w'.heap.size
  os : w'.os = w.os
  tape : w'.tape = w.tape
  output : w'.output = w.output
  frame : ∀ b, b < w.heap.size → ¬ own ι G b → w'.heap[b]? = w.heap[b]?
  owns : ∀ b, b < w.heap.size → own ι' G' b → own ι G b
  io : ∀ id, (G id).isNone = false → ι' id = ι id
  some_ : ∀ id, (G id).isNone = false → (G' id).isNone = false
  box : ∀ id, (G id).isNone = false → (G' id).isBox = true → (G id).isBox = true
  row : ∀ id, (G id).isNone = false → (G' id).isRow = true → (G id).isRow = true ∧ (G' id).sz = (G id).sz

theorem Gr.refl (w : World) (ι : Io) (G : Own) : Gr w ι G w ι G := ⟨Nat.le_refl _, rfl, rfl, rfl, fun _ _ _ => rfl, fun _ _ h => h, fun _ _ => rfl, fun _ h => h, fun _ _ h => h, fun _ _ h => ⟨h, rfl⟩⟩
theorem Gr.trans {w w1 w2 : World} {ι ι1 ι2 : Io} {G G1 G2 : Own} (h : Gr w ι G w1 ι1 G1) (k : Gr w1 ι1 G1 w2 ι2 G2) : Gr w ι G w2 ι2 G2 :=
  ⟨Nat.le_trans h.size k.size, k.os.trans h.os, k.tape.trans h.tape, k.output.trans h.output,
   fun b hb ho => (k.frame b (Nat.lt_of_lt_of_le hb h.size) (fun h1 => ho (h.owns b hb h1))).trans (h.frame b hb ho),
   fun b hb h2 => h.owns b hb (k.owns b (Nat.lt_of_lt_of_le hb h.size) h2),
   fun id hn => (k.io id (h.some_ id hn)).trans (h.io id hn),
   fun id hn => k.some_ id (h.some_ id hn),
   fun id hn hb => h.box id hn (k.box id (h.some_ id hn) hb),
   fun id hn hb => ⟨(h.row id hn (k.row id (h.some_ id hn) hb).1).1, ((k.row id (h.some_ id hn) hb).2).trans (h.row id hn (k.row id (h.some_ id hn) hb).1).2⟩⟩
theorem Gr.next {w w' : World} {ι ι' : Io} {G G' : Own} (X : Nat → Prop) (h : Gr w ι G w' ι' G') : Next w X ι G w' ι' G' :=
  ⟨⟨h.size, fun b hb hn => h.frame b hb (fun ho => hn (.inl ho)), fun b hb ho => ho.imp (h.owns b hb) id⟩, h.io, h.some_, h.box, h.row⟩

theorem isNone_of_live {b : AB} (h : b.live = true) : b.isNone = false := by cases b <;> simp_all [AB.live, AB.isNone]
theorem gset_self (G : Own) (i : Nat) (b : AB) : gset G i b i = b := by simp [gset]
theorem gset_ne (G : Own) {i j : Nat} (b : AB) (h : j ≠ i) : gset G i b j = G j := by simp [gset, h]

def ioset (ι : Io) (i : Nat) (p : Nat × Nat) : Io := fun j => if j = i then p else ι j

/-- A new block. -/
theorem gr_new {w w' : World} {ι : Io} {G : Own} {nid cap : Nat} {ab : AB} (hn : (G nid).isNone = true)
    (hs : w.heap.size < w'.heap.size) (ho : w'.os = w.os) (ht : w'.tape = w.tape) (hp : w'.output = w.output) (hold : ∀ b, b < w.heap.size → w'.heap[b]? = w.heap[b]?) :
    Gr w ι G w' (ioset ι nid (w.heap.size, cap)) (gset G nid ab) where
  size := by omega
  os := ho
  tape := ht
  output := hp
  frame := fun b hb _ => hold b hb
  owns := by
    rintro b hb ⟨id, hl, he⟩
    by_cases h : id = nid
    · subst h; simp [ioset] at he; omega
    · rw [gset_ne G ab h] at hl; simp only [ioset, if_neg h] at he; exact ⟨id, hl, he⟩
  io := fun id h => by
    have : id ≠ nid := by rintro rfl; simp [hn] at h
    simp [ioset, this]
  some_ := fun id h => by
    have : id ≠ nid := by rintro rfl; simp [hn] at h
    rw [gset_ne G ab this]; exact h
  box := fun id h hb => by
    have : id ≠ nid := by rintro rfl; simp [hn] at h
    rw [gset_ne G ab this] at hb; exact hb
  row := fun id h hb => by
    have : id ≠ nid := by rintro rfl; simp [hn] at h
    rw [gset_ne G ab this] at hb ⊢; exact ⟨hb, rfl⟩

theorem conc_new {w w' : World} {X : Nat → Prop} {ι : Io} {G : Own} {nid cap : Nat} {ab : AB} (hC : Conc w X ι G) (hn : (G nid).isNone = true)
    (hs : w.heap.size < w'.heap.size) (ho : w'.os = w.os) (ht : w'.tape = w.tape) (hp : w'.output = w.output) (hold : ∀ b, b < w.heap.size → w'.heap[b]? = w.heap[b]?)
    (hb : BR w' X (ioset ι nid (w.heap.size, cap)) (gset G nid ab) nid ab) :
    Conc w' X (ioset ι nid (w.heap.size, cap)) (gset G nid ab) where
  inj := by
    intro i j hi hj he
    have hlt : ∀ k, k ≠ nid → (gset G nid ab k).live = true → (ι k).1 < w.heap.size := fun k hk hl => by
      rw [gset_ne G ab hk] at hl; exact BR.lt (hC.br k) hl
    by_cases h1 : i = nid
    · by_cases h2 : j = nid
      · rw [h1, h2]
      · subst h1; simp only [ioset, if_true, if_neg h2] at he; have := hlt j h2 hj; omega
    · by_cases h2 : j = nid
      · subst h2; simp only [ioset, if_true, if_neg h1] at he; have := hlt i h1 hi; omega
      · rw [gset_ne G ab h1] at hi; rw [gset_ne G ab h2] at hj; simp only [ioset, if_neg h1, if_neg h2] at he
        exact hC.inj i j hi hj he
  dis := by
    intro i hi hX
    by_cases h1 : i = nid
    · subst h1; simp only [ioset, if_true] at hX; have := hC.xlt _ hX; omega
    · rw [gset_ne G ab h1] at hi; simp only [ioset, if_neg h1] at hX; exact hC.dis i hi hX
  xlt := fun b hX => by have := hC.xlt b hX; omega
  br := by
    intro id
    by_cases h : id = nid
    · subst h; rw [gset_self]; exact hb
    · rw [gset_ne G ab h]
      cases hid : (G id).isNone with
      | true => cases hg : G id <;> simp_all [AB.isNone, BR]
      | false =>
        refine (hC.br id).next ((gr_new hn hs ho ht hp hold).next X) hid (fun hl => hold _ (BR.lt (hC.br id) hl))
  laid := hC.laid.hold fun p _ hlt => hold p.1 hlt
  free := fun p hp i hi => by
    by_cases h1 : i = nid
    · subst h1; simp only [ioset, if_true]; have := hC.laid.lt hp; omega
    · rw [gset_ne G ab h1] at hi; simp only [ioset, if_neg h1]; exact hC.free p hp i hi

/-- A block of one's own that is written. -/
theorem gr_write {w w' : World} {ι : Io} {G : Own} {id : Nat} {ab : AB} (hl : (G id).live = true) (hl' : ab.isNone = false)
    (hbx : ab.isBox = true → (G id).isBox = true) (hrw : ab.isRow = true → (G id).isRow = true ∧ ab.sz = (G id).sz)
    (hs : w.heap.size ≤ w'.heap.size) (ho : w'.os = w.os) (ht : w'.tape = w.tape) (hp : w'.output = w.output) (hold : ∀ b, b < w.heap.size → b ≠ (ι id).1 → w'.heap[b]? = w.heap[b]?) :
    Gr w ι G w' ι (gset G id ab) where
  size := hs
  os := ho
  tape := ht
  output := hp
  frame := fun b hb hno => hold b hb (fun e => hno ⟨id, hl, e.symm⟩)
  owns := by
    rintro b hb ⟨j, hj, he⟩
    by_cases h : j = id
    · subst h; exact ⟨j, hl, he⟩
    · rw [gset_ne G ab h] at hj; exact ⟨j, hj, he⟩
  io := fun _ _ => rfl
  some_ := fun j h => by
    by_cases e : j = id
    · subst e; rw [gset_self]; exact hl'
    · rw [gset_ne G ab e]; exact h
  box := fun j h hb => by
    by_cases e : j = id
    · subst e; rw [gset_self] at hb; exact hbx hb
    · rw [gset_ne G ab e] at hb; exact hb
  row := fun j h hb => by
    by_cases e : j = id
    · subst e; rw [gset_self] at hb ⊢; exact hrw hb
    · rw [gset_ne G ab e] at hb ⊢; exact ⟨hb, rfl⟩

theorem conc_write {w w' : World} {X : Nat → Prop} {ι : Io} {G : Own} {id : Nat} {ab : AB} (hC : Conc w X ι G) (hl : (G id).live = true) (hl' : ab.isNone = false)
    (hbx : ab.isBox = true → (G id).isBox = true) (hrw : ab.isRow = true → (G id).isRow = true ∧ ab.sz = (G id).sz)
    (hs : w.heap.size ≤ w'.heap.size) (ho : w'.os = w.os) (ht : w'.tape = w.tape) (hp : w'.output = w.output) (hold : ∀ b, b < w.heap.size → b ≠ (ι id).1 → w'.heap[b]? = w.heap[b]?)
    (hb : BR w' X ι (gset G id ab) id ab) : Conc w' X ι (gset G id ab) where
  inj := by
    have hlive : ∀ k, (gset G id ab k).live = true → (G k).live = true := fun k hk => by
      by_cases e : k = id
      · subst e; exact hl
      · rwa [gset_ne G ab e] at hk
    intro i j hi hj he
    exact hC.inj i j (hlive i hi) (hlive j hj) he
  dis := fun i hi => by
    by_cases e : i = id
    · subst e; exact hC.dis i hl
    · rw [gset_ne G ab e] at hi; exact hC.dis i hi
  xlt := fun b hX => Nat.lt_of_lt_of_le (hC.xlt b hX) hs
  br := by
    intro j
    by_cases e : j = id
    · subst e; rw [gset_self]; exact hb
    · rw [gset_ne G ab e]
      cases hid : (G j).isNone with
      | true => cases hg : G j <;> simp_all [AB.isNone, BR]
      | false =>
        refine (hC.br j).next ((gr_write hl hl' hbx hrw hs ho ht hp hold).next X) hid (fun hlj => hold _ (BR.lt (hC.br j) hlj) (fun e2 => e (hC.inj j id hlj hl e2)))
  laid := hC.laid.hold fun p hp hlt => hold p.1 hlt (fun e => hC.free p hp id hl e.symm)
  free := fun p hp i hi => by
    by_cases e : i = id
    · subst e; exact hC.free p hp i hl
    · rw [gset_ne G ab e] at hi; exact hC.free p hp i hi
end Go.AM

namespace Go.AM

/-- A type's zero value is as it is told. -/
structure ZR (d : TD) (z : Value) : Prop where
  agg : d.agg = true → ∃ vs, z = .agg vs
  one : d.agg = false → z.oneCell' = true
  cells : ∀ w X, CR w X d.zero z.cells.toList
  len : z.cells.size = d.sz
/-- Fields. -/
def FOk (P : Program) : List Field → List (Nat × Nat × Bool) → Prop
  | [], [] => True
  | f :: fs, (o, sz, ag) :: l => (f.offset = o ∧ (∃ i, P.info? f.type = some i ∧ i.size = sz) ∧ sz ≠ 0 ∧ ∀ w, (isAgg f.type).run P w = .ok ag w) ∧ FOk P fs l
  | _, _ => False
def UOk (P : Program) (t : TypeId) : TU → Prop
  | .int k => P.underlying t = some (.int k)
  | .bool => P.underlying t = some .bool
  | .string => P.underlying t = some .string
  | .slice e => P.underlying t = some (.slice e)
  | .struct fs => ∃ fields, P.underlying t = some (.struct fields) ∧ FOk P fields.toList fs
  | .smap => ∃ k e, P.underlying t = some (.map k e) ∧ P.underlying k = some .string ∧ P.underlying e = some .bool ∧ ∀ w, (zeroValue e).run P w = .ok (.bool false) w
  | .other => True
/-- What is told of a type is so. -/
structure TDok (P : Program) (t : TypeId) (d : TD) : Prop where
  info : d.ok = true → ∃ i z, P.info? t = some i ∧ i.size = d.sz ∧ i.bytes = d.bytes ∧ i.zero = some z ∧ ZR d z
  agg : d.ok = true → ∀ w, (isAgg t).run P w = .ok d.agg w
  u : UOk P t d.u

theorem FOk_get {P : Program} : ∀ {fs : List Field} {l : List (Nat × Nat × Bool)}, FOk P fs l → ∀ {i : Nat} {o sz : Nat} {ag : Bool}, l[i]? = some (o, sz, ag) →
    ∃ f, fs[i]? = some f ∧ f.offset = o ∧ (∃ i, P.info? f.type = some i ∧ i.size = sz) ∧ sz ≠ 0 ∧ ∀ w, (isAgg f.type).run P w = .ok ag w
  | [], [], _, i, o, sz, ag, h => by simp at h
  | [], _ :: _, hF, _, _, _, _, _ => by simp [FOk] at hF
  | _ :: _, [], hF, _, _, _, _, _ => by simp [FOk] at hF
  | f :: fs, (o', sz', ag') :: l, hF, 0, o, sz, ag, h => by
    simp only [FOk] at hF
    simp at h
    obtain ⟨rfl, rfl, rfl⟩ := h
    exact ⟨f, rfl, hF.1⟩
  | f :: fs, (o', sz', ag') :: l, hF, i + 1, o, sz, ag, h => by
    simp only [FOk] at hF
    obtain ⟨f', h1, h2⟩ := FOk_get hF.2 (i := i) (by simpa using h)
    exact ⟨f', by simpa using h1, h2⟩

section
variable {P : Program} {te : TE} {w : World} {X : Nat → Prop} {ι : Io} {G : Own}

theorem run_sizeOf' {t : TypeId} {i : TypeInfo} (h : P.info? t = some i) : (sizeOf t).run P w = .ok i.size w := by simp [sizeOf, typeInfo, h]

/-- What an operation comes to. -/
def OpOut (P : Program) (o : Oper) (a : Act) (w : World) (X : Nat → Prop) (ι : Io) (G : Own) (x : AV) (u : Upd) : Prop :=
  ∃ r v w' ι', (execOp a.eval o).run P w = .ok r w' ∧ (r = .value v ∨ (r = .skip ∧ v = undef)) ∧ VR w' X ι' (gupd G u) x v ∧ Conc w' X ι' (gupd G u) ∧ Gr w ι G w' ι' (gupd G u)

theorem OpOut.same {o : Oper} {a : Act} {x : AV} {v : Value} (hC : Conc w X ι G) (hr : (execOp a.eval o).run P w = .ok (.value v) w) (hv : VR w X ι G x v) : OpOut P o a w X ι G x [] :=
  ⟨_, v, w, ι, hr, .inl rfl, hv, hC, Gr.refl _ _ _⟩

/-! ### Reading cells -/
theorem load_part {T : TD} {t : TypeId} (hT : TDok P t T) {cs : List AV} {vs : List Value} (hcs : CV w X ι G cs vs) {off : Nat} {ad : Addr}
    (hc : ∀ j u, vs[off + j]? = some u → w.cell? (ad.add j) = some u) {K : AV → Prop} (h : part T cs off K) :
    ∃ x, K x ∧ ∃ v, (loadVar t ad).run P w = .ok v w ∧ VR w X ι G x v := by
  unfold part at h
  cases hok : T.ok <;> simp only [hok] at h
  obtain ⟨i, z, hi, hsz, _, _, _⟩ := hT.info hok
  have hag := hT.agg hok w
  cases hA : T.agg <;> simp only [hA] at h hag
  · rw [nthO_eq] at h
    cases hn : cs[off]? with
    | none => simp [hn] at h
    | some x =>
      simp only [hn] at h
      obtain ⟨u, hu, h1, hv⟩ := CV_get hcs hn
      refine ⟨x, h, u, ?_, hv⟩
      have := hc 0 u (by simpa using hu)
      have e0 : ad.add 0 = ad := by simp [Addr.add]
      rw [e0] at this
      simp [loadVar, hag, this]
  · rw [lenL_eq, takeL_eq, dropL_eq] at h
    cases hb : Nat.ble (off + T.sz) cs.length <;> simp only [hb] at h
    have hle : off + T.sz ≤ cs.length := Nat.le_of_ble_eq_true hb
    have hlen := CV_len hcs
    refine ⟨_, h, .agg ((vs.drop off).take T.sz).toArray, ?_, VR_agg (CV_take _ (CV_drop _ hcs))⟩
    have hl : ((vs.drop off).take T.sz).length = T.sz := by simp; omega
    have hrun := run_loadCells_list (P := P) (w := w) ad ((vs.drop off).take T.sz) (fun j v hj => by
      rw [List.getElem?_take] at hj
      split at hj
      · rw [List.getElem?_drop] at hj; exact hc j v hj
      · simp at hj)
    rw [hl] at hrun
    simp [loadVar, hag, sizeOf, typeInfo, hi, hsz, hrun]
end
end Go.AM

namespace Go.AM
section
variable {P : Program} {te : TE} {w : World} {X : Nat → Prop} {ι : Io} {G : Own}

/-- The cells of a value that is no tuple. -/
theorem cells_of {x : AV} {v : Value} (hx : withCellsB x = true) (h : VR w X ι G x v) : CV w X ι G (cellsA x) v.cells.toList := by
  have one : ∀ {x : AV}, cellsA x = [x] → v.oneCell' = true → VR w X ι G x v → CV w X ι G (cellsA x) v.cells.toList := by
    intro x hx ho hv
    rw [hx, oneCell_cells ho]
    simp only [CV]
    exact ⟨v, [], rfl, ho, hv, rfl⟩
  cases x with
  | pv p =>
    cases p with
    | agg cs =>
      have h' := h
      simp only [VR, PR] at h'
      obtain ⟨vs, rfl, hc⟩ := h'
      simpa [cellsA, cellsP, Value.cells] using CR_CV.1 hc
    | tuple ps => simp [withCellsB] at hx
    | int k n => exact one rfl (by simp only [VR, PR] at h; subst h; rfl) h
    | bool b => exact one rfl (by simp only [VR, PR] at h; subst h; rfl) h
    | str s => exact one rfl (by simp only [VR, PR] at h; subst h; rfl) h
    | nils => exact one rfl (by simp only [VR, PR] at h; subst h; rfl) h
    | raw u => exact one rfl (by simp only [VR, PR] at h; obtain ⟨rfl, h⟩ := h; exact h) h
    | lst sz xs => exact one rfl (by simp only [VR, PR] at h; obtain ⟨A, cap, rfl, _⟩ := h; rfl) h
    | cp cs => exact one rfl (by simp only [VR, PR] at h; obtain ⟨A, cap, rfl, _⟩ := h; rfl) h
    | fn f cs => exact one rfl (by simp only [VR, PR] at h; obtain ⟨A, rfl, _⟩ := h; rfl) h
  | bp id o => exact one rfl (by simp only [VR] at h; exact h.2.2) h
  | row id n => exact one rfl (by simp only [VR] at h; exact h.2.2) h
  | rp id i o => exact one rfl (by simp only [VR] at h; exact h.2.2) h
  | mix cs =>
    simp only [VR] at h
    obtain ⟨vs, rfl, hc⟩ := h
    simpa [cellsA, Value.cells] using hc
  | tup cs => simp [withCellsB] at hx
  | fn f cs => exact one rfl (by simp only [VR] at h; obtain ⟨A, rfl, _⟩ := h; rfl) h

theorem withCells_B {x : AV} {K : List AV → Prop} (h : withCells x K) : withCellsB x = true ∧ K (cellsA x) := by
  cases x with
  | pv p => cases p <;> first | exact ⟨rfl, h⟩ | exact h.elim
  | tup vs => exact h.elim
  | _ => exact ⟨rfl, h⟩

theorem cells_array (v : Value) : v.cells = v.cells.toList.toArray := by simp

/-! ### Elements -/
theorem ER_get : ∀ {xs : List PV} {Y : Nat → Prop} {sz : Nat} {A : Option Addr} {k : Nat}, ER w Y xs sz A k → ∀ {i : Nat} {p : PV}, xs[i]? = some p →
    ∃ ad v, A = some ad ∧ ad.block < w.heap.size ∧ ¬ Y ad.block ∧ PR w Y p v ∧ v.cells.size = sz ∧ ∀ j u, v.cells[j]? = some u → w.cell? (ad.add ((k + i) * sz + j)) = some u ∧ u.oneCell' = true
  | [], _, _, _, _, _, i, p, h => by simp at h
  | q :: xs, Y, sz, A, k, hE, 0, p, h => by
    simp only [ER] at hE
    simp at h; subst h
    simpa using hE.1
  | q :: xs, Y, sz, A, k, hE, i + 1, p, h => by
    simp only [ER] at hE
    have := ER_get hE.2 (i := i) (by simpa using h)
    rwa [show k + 1 + i = k + (i + 1) by omega] at this

theorem add_mk (b o j : Nat) : (⟨b, o, none⟩ : Addr).add j = ⟨b, o + j, none⟩ := by unfold Addr.add; split <;> simp_all
theorem add_add' (a : Addr) (n m : Nat) : (a.add n).add m = a.add (n + m) := by
  unfold Addr.add
  by_cases h1 : n = 0 <;> by_cases h2 : m = 0 <;> simp [h1, h2, Nat.add_assoc]
theorem cell_mk {b o : Nat} {cells : Array Value} {t : TypeId} {fr : Nat × Nat} (h : w.heap[b]? = some (.cells cells t fr)) : w.cell? ⟨b, o, none⟩ = cells[o]? := by
  simp [World.cell?, h]

/-- What ids a value leads to, at once. -/
def idsA : AV → List Nat
  | .bp id _ => [id]
  | .row id _ => [id]
  | .rp id _ _ => [id]
  | _ => []
def Agree (H : Heap) (G : Own) (x : AV) : Prop := ∀ id ∈ idsA x, G id = hget H id

theorem sound_loadV (hte : ∀ t, TDok P t (te t)) (hC : Conc w X ι G) {H : Heap} {t : TypeId} {u0 : Value} {av : AV} (hA : Agree H G av)
    (hv : VR w X ι G av u0) {K : DK} (h : dLoad te H t av K) : ∃ x, K x [] ∧ ∃ ad v, u0 = .pointer (some ad) ∧ (loadVar t ad).run P w = .ok v w ∧ VR w X ι G x v := by
  unfold dLoad at h
  cases av with
  | bp id off =>
    have hid := hA id (by simp [idsA])
    simp only [VR] at hv
    cases hb : hget H id <;> simp only [hb] at h
    · rename_i bt cs
      rw [hb] at hid
      have he := hv.2.1 (by rw [hid]; rfl)
      have hbr := hC.br id
      rw [hid] at hbr
      obtain ⟨⟨vs, hh, hcv⟩, h0⟩ := hbr
      rw [bval_box h0] at he
      obtain ⟨x, hK, v, hr, hx⟩ := load_part (hte t) hcv (off := off) (ad := ⟨(ι id).1, off, none⟩) (fun j u hj => by rw [add_mk, cell_mk hh]; simpa using hj) h
      exact ⟨x, hK, _, _, he, hr, hx⟩
    · rename_i cs
      rw [hb] at hid
      have he := hv.2.1 (by rw [hid]; rfl)
      have hbr := hC.br id
      rw [hid] at hbr
      simp only [BR, PR] at hbr
      obtain ⟨⟨ad, vs, hp, _, _, hc, hcr⟩, h0⟩ := hbr
      rw [bval_box h0] at he
      injection hp with hp; injection hp with hp
      subst hp
      obtain ⟨x, hK, v, hr, hx⟩ := load_part (hte t) (CR_CV.1 hcr) (off := off) (ad := ⟨(ι id).1, off, none⟩) (fun j u hj => by have := hc _ u hj; rwa [add_mk, Nat.zero_add, ← add_mk] at this) h
      exact ⟨x, hK, _, _, he, hr, hx⟩
  | rp id i off =>
    have hid := hA id (by simp [idsA])
    simp only [VR] at hv
    cases hb : hget H id <;> simp only [hb] at h
    · rename_i bt sz xs
      rw [hb] at hid
      have he := hv.2.1 (by rw [hid]; rfl)
      have hbr := hC.br id
      rw [hid] at hbr he
      obtain ⟨cells, hh, hsz, hle, hm, hev⟩ := hbr
      obtain ⟨y, hy, h⟩ := h
      obtain ⟨hB, h⟩ := withCells_B h
      obtain ⟨v, hvy, hvs, hvc⟩ := hev i y hy
      have hcells := cells_of hB hvy
      have hread : ∀ j u, v.cells.toList[off + j]? = some u → w.cell? ((⟨(ι id).1, i * sz + off, none⟩ : Addr).add j) = some u := fun j u hj => by
        rw [add_mk, cell_mk hh, Nat.add_assoc]; exact (hvc _ u (by simpa using hj)).1
      obtain ⟨x, hK, v', hr, hx⟩ := load_part (hte t) hcells (off := off) (ad := ⟨(ι id).1, i * sz + off, none⟩) hread h
      exact ⟨x, hK, _, _, (by simpa [AB.sz] using he), hr, hx⟩
    · rename_i sz xs
      rw [hb] at hid
      have he := hv.2.1 (by rw [hid]; rfl)
      have hbr := hC.br id
      rw [hid] at hbr he
      simp only [BR, PR] at hbr
      obtain ⟨A, cap, hp, hle, hm, hev⟩ := hbr
      injection hp with hp1 hp2 hp3
      subst hp1
      obtain ⟨y, hy, h⟩ := h
      obtain ⟨hB, h⟩ := withCells_B h
      obtain ⟨ad, v, ha, _, _, hvy, hvs, hvc⟩ := ER_get hev hy
      injection ha with ha
      subst ha
      have hvy' : VR w X ι G (.pv y) v := by simp only [VR]; exact hvy
      have hcells := cells_of hB hvy'
      obtain ⟨x, hK, v', hr, hx⟩ := load_part (hte t) hcells (off := off) (ad := ⟨(ι id).1, i * sz + off, none⟩) (fun j u hj => by
        have := (hvc (off + j) u (by simpa using hj)).1
        rw [add_mk] at this ⊢
        simpa [Nat.add_assoc] using this) h
      exact ⟨x, hK, _, _, (by simpa [AB.sz] using he), hr, hx⟩
  | pv p =>
    cases p <;> simp only at h
    rename_i cs
    simp only [VR, PR] at hv
    obtain ⟨ad, vs, he, _, _, hc, hcr⟩ := hv
    obtain ⟨x, hK, v, hr, hx⟩ := load_part (hte t) (CR_CV.1 hcr) (off := 0) (ad := ad) (fun j u hj => hc j u (by simpa using hj)) h
    exact ⟨x, hK, _, _, he, hr, hx⟩
  | _ => simp only at h
theorem sound_load (hte : ∀ t, TDok P t (te t)) (hC : Conc w X ι G) {H : Heap} {o : Oper} {a : Act} {t : TypeId} {ax : Operand} (ho : o.op = .load t ax) {av : AV} (hA : Agree H G av)
    (hv : VR w X ι G av (a.eval ax)) {K : DK} (h : dLoad te H t av K) : ∃ x u, K x u ∧ OpOut P o a w X ι G x u := by
  obtain ⟨x, hK, ad, v, he, hr, hx⟩ := sound_loadV hte hC hA hv h
  exact ⟨x, [], hK, OpOut.same hC (by simp [execOp, ho, Instr.loadAt, he, Instr.sureAddr, hr]) hx⟩

end
end Go.AM

namespace Go.AM
section
variable {P : Program} {te : TE} {w : World} {X : Nat → Prop} {ι : Io} {G : Own}

theorem sound_field (hte : ∀ t, TDok P t (te t)) (hC : Conc w X ι G) {o : Oper} {a : Act} {H : Heap} {s : TypeId} {ax : Operand} {f : Nat} (ho : o.op = .fieldAddr s ax f) {av : AV} (hA : Agree H G av)
    (hv : VR w X ι G av (a.eval ax)) {K : DK} (h : dFieldAddr te H s av f K) : ∃ x u, K x u ∧ OpOut P o a w X ι G x u := by
  unfold dFieldAddr at h
  have hu := (hte s).u
  cases hs : (te s).u <;> simp only [hs] at h
  rename_i fs
  rw [hs] at hu
  obtain ⟨fields, hund, hF⟩ := hu
  rw [nthO_eq] at h
  cases hn : fs[f]? with
  | none => simp [hn] at h
  | some q =>
    obtain ⟨off, sz, ag⟩ := q
    simp only [hn] at h
    obtain ⟨fd, hfd, hoff, ⟨i, hi, hisz⟩, hnz, hag⟩ := FOk_get hF hn
    have hfd' : fields[f]? = some fd := by simpa using hfd
    have hplace : ∀ ad : Addr, (Instr.fieldAt s (.pointer (some ad)) f).run P w = .ok (.pointer (some (ad.add off))) w := fun ad => by
      simp [Instr.fieldAt, run_underlying hund, hfd', Instr.sureAddr, fieldPlace, sizeOf, typeInfo, hi, hisz, hnz, hoff]
    have fin : ∀ {ad : Addr} {x : AV}, a.eval ax = .pointer (some ad) → VR w X ι G x (.pointer (some (ad.add off))) → OpOut P o a w X ι G x [] := fun he hx =>
      OpOut.same hC (by simp [execOp, ho, he, hplace]) hx
    cases av with
    | bp id off' =>
      simp only at h
      have hid := hA id (by simp [idsA])
      cases hb : (hget H id).isCell <;> simp only [hb] at h
      rw [← hid] at hb
      obtain ⟨hb, h0⟩ := (hC.br id).cell hb
      simp only [VR, bval_box h0] at hv
      exact ⟨_, _, h, fin (hv.2.1 hb) (by simp only [VR]; exact ⟨hv.1, fun _ => by rw [bval_box h0, add_mk], rfl⟩)⟩
    | rp id i' off' =>
      simp only at h
      have hid := hA id (by simp [idsA])
      cases hb : (hget H id).isRow <;> simp only [hb] at h
      rw [← hid] at hb
      simp only [VR] at hv
      exact ⟨_, _, h, fin (hv.2.1 hb) (by simp only [VR]; exact ⟨hv.1, fun _ => by rw [add_mk, Nat.add_assoc], rfl⟩)⟩
    | pv p =>
      cases p <;> simp only at h
      rename_i cs
      simp only [VR, PR] at hv
      obtain ⟨ad, vs, he, h1, h2, hc, hcr⟩ := hv
      refine ⟨_, _, h, fin he ?_⟩
      simp only [VR, PR]
      refine ⟨_, vs.drop off, rfl, by rw [add_block]; exact h1, by rw [add_block]; exact h2, fun j u hj => ?_, ?_⟩
      · rw [List.getElem?_drop] at hj; rw [add_add']; exact hc _ _ hj
      · have := CV_drop off (CR_CV.1 hcr)
        rw [dropL_eq]
        refine CR_CV.2 ?_
        have e : ∀ (n : Nat) (l : List PV), (pvs l).drop n = pvs (l.drop n) := by
          intro n
          induction n with
          | zero => intro l; simp
          | succ n ih => intro l; cases l with
            | nil => simp [pvs]
            | cons q l => simpa [pvs] using ih l
        rw [e] at this
        exact this
    | _ => simp only at h

theorem sound_indexAddr (hte : ∀ t, TDok P t (te t)) (hC : Conc w X ι G) {H : Heap} {o : Oper} {a : Act} {t : TypeId} {ax aix : Operand} (ho : o.op = .indexAddr t ax aix) {x ix : AV} (hA : Agree H G x)
    (hv : VR w X ι G x (a.eval ax)) (hi : VR w X ι G ix (a.eval aix)) {K : DK} (h : dIndexAddr te H t x ix K) : ∃ x u, K x u ∧ OpOut P o a w X ι G x u := by
  unfold dIndexAddr at h
  have hu := (hte t).u
  cases hs : (te t).u <;> simp only [hs] at h
  rename_i e
  rw [hs] at hu
  cases ix with
  | pv q =>
    cases q <;> simp only at h
    rename_i k i
    simp only [VR, PR] at hi
    cases x with
    | row id n =>
      simp only at h
      have hid := hA id (by simp [idsA])
      cases hb : (hget H id).isRow <;> cases hz : Nat.beq (hget H id).sz (te e).sz <;> cases hok : (te e).ok <;> simp only [hb, hz, hok] at h
      obtain ⟨inf, z, hinf, hsz, _⟩ := (hte e).info hok
      have hz := Nat.eq_of_beq_eq_true hz
      rw [← hid] at hb hz
      simp only [VR] at hv
      obtain ⟨hv1, hv2, hv3⟩ := hv
      obtain ⟨he, hle⟩ := hv2 hb
      obtain ⟨⟨h0, h1⟩, h⟩ := h
      refine ⟨_, _, h, OpOut.same hC (v := .pointer (some ((⟨(ι id).1, 0, none⟩ : Addr).add (i.toNat * (te e).sz)))) ?_ ?_⟩
      · simp [execOp, ho, Instr.indexAt, hi, asIntOf, run_underlying hu, he, h0, h1, sizeOf, typeInfo, hinf, hsz]
      · simp only [VR]
        exact ⟨hv1, fun _ => by rw [add_mk, hz]; simp, rfl⟩
    | pv p =>
      cases p <;> simp only at h
      rename_i sz xs
      obtain ⟨y, ⟨h0, hy⟩, h⟩ := h
      obtain ⟨hB, h⟩ := withCells_B h
      cases hz : Nat.beq sz (te e).sz <;> cases hok : (te e).ok <;> simp only [hz, hok] at h
      obtain ⟨inf, z, hinf, hsz, _⟩ := (hte e).info hok
      have hz := Nat.eq_of_beq_eq_true hz
      simp only [VR, PR] at hv
      obtain ⟨A, cap, he, hle, hm, hev⟩ := hv
      obtain ⟨ad, v, rfl, hlt, hnX, hvy, hvs, hvc⟩ := ER_get hev hy
      have hvy' : VR w X ι G (.pv y) v := by simp only [VR]; exact hvy
      have hcells := cells_of hB hvy'
      have hlen : i < xs.length := by
        have := (List.getElem?_eq_some_iff.1 hy).1
        omega
      refine ⟨_, _, h, OpOut.same hC (v := .pointer (some (ad.add (i.toNat * (te e).sz)))) ?_ ?_⟩
      · simp [execOp, ho, Instr.indexAt, hi, asIntOf, run_underlying hu, he, h0, hlen, sizeOf, typeInfo, hinf, hsz]
      · simp only [VR, PR]
        refine ⟨_, v.cells.toList, rfl, by rw [add_block]; exact hlt, by rw [add_block]; exact hnX, fun j u hj => ?_, CR_CV.2 hcells⟩
        rw [add_add', ← hz]
        have := (hvc j u (by simpa using hj)).1
        simpa using this
    | _ => simp only at h
  | _ => simp only at h

theorem sound_len (hte : ∀ t, TDok P t (te t)) (hC : Conc w X ι G) {H : Heap} {o : Oper} {a : Act} {t : TypeId} {ax : Operand} (ho : o.op = .call { callee := .builtin .len, args := #[ax], argTypes := #[t] }) {x : AV} (hA : Agree H G x)
    (hv : VR w X ι G x (a.eval ax)) {K : DK} (h : dLen te H t x K) : ∃ x u, K x u ∧ OpOut P o a w X ι G x u := by
  unfold dLen at h
  have hu := (hte t).u
  have fin : ∀ {n : Nat}, (Builtin.len_ #[t] o.type #[a.eval ax]).run P w = .ok (.int .i64 n) w → OpOut P o a w X ι G (.pv (.int .i64 n)) [] := fun {n} hr =>
    OpOut.same hC (v := .int .i64 n) (by simp [execOp, ho, resolve, invoke, builtin, hr]) (by simp [VR, PR])
  cases hs : (te t).u <;> simp only [hs] at h
  · rw [hs] at hu
    cases x with
    | pv p =>
      cases p <;> simp only at h
      rename_i s
      simp only [VR, PR] at hv
      exact ⟨_, _, h, fin (by simp [Builtin.len_, hv, run_underlying hu, goInt])⟩
    | _ => simp only at h
  · rename_i e
    rw [hs] at hu
    cases x with
    | pv p =>
      cases p <;> simp only at h
      · rename_i sz xs
        simp only [VR, PR] at hv
        obtain ⟨A, cap, he, _⟩ := hv
        exact ⟨_, _, h, fin (by simp [Builtin.len_, he, run_underlying hu, goInt])⟩
      · simp only [VR, PR] at hv
        exact ⟨_, _, h, fin (n := 0) (by simp [Builtin.len_, hv, run_underlying hu, goInt])⟩
    | row id n =>
      simp only at h
      have hid := hA id (by simp [idsA])
      cases hb : (hget H id).isRow <;> simp only [hb] at h
      rw [← hid] at hb
      simp only [VR] at hv
      exact ⟨_, _, h, fin (by simp [Builtin.len_, (hv.2.1 hb).1, run_underlying hu, goInt])⟩
    | _ => simp only at h


theorem run_bin_int (op : BinOp) (t : TypeId) (x y : Operand) (k : IntKind) (m n : Int) (v : Value)
    (h : (match op with | .add | .sub | .mul => Op.intArith op k m n | _ => Op.intCmp op m n).run P w = .ok v w) (hop : op = .add ∨ op = .sub ∨ op = .mul ∨ op = .lss ∨ op = .leq ∨ op = .gtr ∨ op = .geq ∨ op = .eql ∨ op = .neq) :
    (do eqGuard op t x y (.int k m) (.int k n); binOp op t (.int k m) (.int k n) : Sem Value).run P w = .ok v w := by
  rcases hop with rfl | rfl | rfl | rfl | rfl | rfl | rfl | rfl | rfl <;> simpa [eqGuard, binOp] using h

theorem run_bin_div (op : BinOp) (t : TypeId) (x y : Operand) (k : IntKind) (m n : Int) (hn : n ≠ 0) (v : Value) (h : (match op with | .quo => v = .int k (k.wrap (m.tdiv n)) | _ => v = .int k (m.tmod n))) (hop : op = .quo ∨ op = .rem) :
    (do eqGuard op t x y (.int k m) (.int k n); binOp op t (.int k m) (.int k n) : Sem Value).run P w = .ok v w := by
  rcases hop with rfl | rfl <;> (simp only at h; subst h; simp [eqGuard, binOp, Op.intDiv, hn])
theorem run_equal_bool {t : TypeId} (hu : P.underlying t = some .bool) (m n : Bool) : (Op.equal t (.bool m) (.bool n)).run P w = .ok (m == n) w := by
  show (Op.equalIn (9999 + 1) t (.bool m) (.bool n)).run P w = .ok (m == n) w
  generalize 9999 = d
  simp [Op.equalIn, run_underlying hu]

theorem run_equal_slice {t e : TypeId} (hu : P.underlying t = some (.slice e)) (a : Addr) (n c : Nat) : (Op.equal t (.slice (some a) n c) (.slice none 0 0)).run P w = .ok false w := by
  show (Op.equalIn (9999 + 1) t _ _).run P w = .ok false w
  generalize 9999 = d
  simp [Op.equalIn, run_underlying hu]
theorem run_equal_nils {t e : TypeId} (hu : P.underlying t = some (.slice e)) : (Op.equal t (.slice none 0 0) (.slice none 0 0)).run P w = .ok true w := by
  show (Op.equalIn (9999 + 1) t _ _).run P w = .ok true w
  generalize 9999 = d
  simp [Op.equalIn, run_underlying hu]
theorem sound_bin (hte : ∀ t, TDok P t (te t)) (hC : Conc w X ι G) {o : Oper} {a : Act} {op : BinOp} {t yt : TypeId} {ax ay : Operand} (ho : o.op = .binOp op t ax ay yt) {x y : AV}
    (hx : VR w X ι G x (a.eval ax)) (hy : VR w X ι G y (a.eval ay)) {K : DK} (h : dBin te t op x y K) : ∃ x u, K x u ∧ OpOut P o a w X ι G x u := by
  have fin : ∀ {p : PV} {v : Value}, (do eqGuard op t ax ay (a.eval ax) (a.eval ay); binOp op t (a.eval ax) (a.eval ay) : Sem Value).run P w = .ok v w → PR w (off X ι G) p v → OpOut P o a w X ι G (.pv p) [] := fun hr hp =>
    OpOut.same hC (by simp only [execOp, ho, Sem.run_bind, hr]; rfl) (by simp only [VR]; exact hp)
  have hu := (hte t).u
  unfold dBin at h
  cases x with
  | pv p =>
    cases y with
    | pv q =>
      cases p <;> cases q <;> simp only at h
      · rename_i k m k' n
        simp only [VR, PR] at hx hy
        obtain rfl := (kSame_iff.1 h).1
        replace h := (kSame_iff.1 h).2
        have go : ∀ {p : PV} {v : Value}, (match op with | .add | .sub | .mul => Op.intArith op k m n | _ => Op.intCmp op m n).run P w = .ok v w →
            (op = .add ∨ op = .sub ∨ op = .mul ∨ op = .lss ∨ op = .leq ∨ op = .gtr ∨ op = .geq ∨ op = .eql ∨ op = .neq) → PR w (off X ι G) p v → OpOut P o a w X ι G (.pv p) [] := fun hr hop hp =>
          fin (by rw [hx, hy]; exact run_bin_int op t ax ay k m n _ hr hop) hp
        cases op <;> simp only at h
        · exact ⟨_, _, h, go (v := .int k (k.wrap (m + n))) rfl (by simp) (by simp [PR])⟩
        · exact ⟨_, _, h, go (v := .int k (k.wrap (m - n))) rfl (by simp) (by simp [PR])⟩
        · exact ⟨_, _, h, go (v := .int k (k.wrap (m * n))) rfl (by simp) (by simp [PR])⟩
        · exact ⟨_, _, h.2, fin (v := .int k (k.wrap (m.tdiv n))) (by rw [hx, hy]; exact run_bin_div .quo t ax ay k m n h.1 _ rfl (.inl rfl)) (by simp [PR])⟩
        · exact ⟨_, _, h.2, fin (v := .int k (m.tmod n)) (by rw [hx, hy]; exact run_bin_div .rem t ax ay k m n h.1 _ rfl (.inr rfl)) (by simp [PR])⟩
        · exact ⟨_, _, h, go (v := .bool (m == n)) rfl (by simp) (by simp only [PR]; congr 1)⟩
        · exact ⟨_, _, h, go (v := .bool (m != n)) rfl (by simp) (by simp only [PR]; congr 1)⟩
        · exact ⟨_, _, h, go (v := .bool (decide (m < n))) rfl (by simp) (by simp [PR])⟩
        · exact ⟨_, _, h, go (v := .bool (decide (m ≤ n))) rfl (by simp) (by simp [PR])⟩
        · exact ⟨_, _, h, go (v := .bool (decide (n < m))) rfl (by simp) (by simp [PR])⟩
        · exact ⟨_, _, h, go (v := .bool (decide (n ≤ m))) rfl (by simp) (by simp [PR])⟩
      · rename_i m n
        simp only [VR, PR] at hx hy
        cases op <;> cases hs : (te t).u <;> simp only [hs] at h <;> rw [hs] at hu <;> have hu' : P.underlying t = some .bool := hu
        · exact ⟨_, _, h, fin (v := .bool (m == n)) (by simp [eqGuard, binOp, hx, hy, run_equal_bool hu']) (by simp [PR])⟩
        · exact ⟨_, _, h, fin (v := .bool (!(m == n))) (by simp [eqGuard, binOp, hx, hy, run_equal_bool hu']) (by simp [PR])⟩
      · rename_i m n
        simp only [VR, PR] at hx hy
        cases op <;> simp only at h
        · obtain ⟨hb, h⟩ := h
          refine ⟨_, _, h, fin (v := .string (m ++ n)) ?_ (by simp [PR])⟩
          have : ¬ ((m.size + n.size : Nat) : Int) > IntKind.i64.max := by
            have : IntKind.i64.max = 9223372036854775807 := rfl
            omega
          simp only [eqGuard, binOp, hx, hy, Op.stringOp, if_neg this]
          rfl
        · exact ⟨_, _, h, fin (v := .bool (m.toList == n.toList)) (by simp only [eqGuard, binOp, hx, hy, Op.stringOp]; rfl) (by simp [PR])⟩
        · exact ⟨_, _, h, fin (v := .bool (!(m.toList == n.toList))) (by simp only [eqGuard, binOp, hx, hy, Op.stringOp]; rfl) (by simp [PR])⟩
      · rename_i sz xs
        simp only [VR, PR] at hx hy
        obtain ⟨A, cap, he, _, _, hev⟩ := hx
        cases op <;> cases hs : (te t).u <;> simp only [hs] at h <;> rw [hs] at hu <;> have hu' : P.underlying t = some (.slice _) := hu
        · obtain ⟨hl, h⟩ := h
          cases xs with
          | nil => simp at hl
          | cons y ys =>
            simp only [ER] at hev
            obtain ⟨⟨ad, _, rfl, _⟩, _⟩ := hev
            exact ⟨_, _, h, fin (v := .bool false) (by simp [eqGuard, binOp, he, hy, run_equal_slice hu']) (by simp [PR])⟩
        · obtain ⟨hl, h⟩ := h
          cases xs with
          | nil => simp at hl
          | cons y ys =>
            simp only [ER] at hev
            obtain ⟨⟨ad, _, rfl, _⟩, _⟩ := hev
            exact ⟨_, _, h, fin (v := .bool true) (by simp [eqGuard, binOp, he, hy, run_equal_slice hu']) (by simp [PR])⟩
      · simp only [VR, PR] at hx hy
        cases op <;> cases hs : (te t).u <;> simp only [hs] at h <;> rw [hs] at hu <;> have hu' : P.underlying t = some (.slice _) := hu
        · exact ⟨_, _, h, fin (v := .bool true) (by simp [eqGuard, binOp, hx, hy, run_equal_nils hu']) (by simp [PR])⟩
        · exact ⟨_, _, h, fin (v := .bool false) (by simp [eqGuard, binOp, hx, hy, run_equal_nils hu']) (by simp [PR])⟩
    | _ => cases p <;> exact h.elim
  | _ => exact h.elim
end
end Go.AM
