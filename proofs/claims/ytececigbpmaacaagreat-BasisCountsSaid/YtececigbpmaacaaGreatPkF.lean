import Derived.Test.YtececigbpmaacaaGreatPkE
import Derived.Test.YtececigbpmaacaaGreatProg
set_option linter.all false
namespace Go.AM
open Go.Proofs

def S.td1 : TD := ⟨true, .other, 1, 8, false, [.raw (Go.Value.nilFunc)]⟩
theorem S.tk1 : TDok Tryz.prog 1 S.td1 := td_raw (info_of Tryz.type1) rfl rfl rfl rfl rfl Tryz.isAgg1
def S.td2 : TD := ⟨true, .int Go.IntKind.i64, 1, 8, false, [.int Go.IntKind.i64 0]⟩
theorem S.tk2 : TDok Tryz.prog 2 S.td2 := td_int (info_of Tryz.type2) rfl rfl rfl Tryz.isAgg2 Tryz.underlying2
def S.td3 : TD := ⟨true, .int Go.IntKind.i64, 1, 8, false, [.int Go.IntKind.i64 0]⟩
theorem S.tk3 : TDok Tryz.prog 3 S.td3 := td_int (info_of Tryz.type3) rfl rfl rfl Tryz.isAgg3 Tryz.underlying3
def S.td4 : TD := ⟨true, .bool, 1, 1, false, [.bool false]⟩
theorem S.tk4 : TDok Tryz.prog 4 S.td4 := td_bool (info_of Tryz.type4) rfl rfl rfl Tryz.isAgg4 Tryz.underlying4
def S.td5 : TD := ⟨true, .int Go.IntKind.u8, 1, 1, false, [.int Go.IntKind.u8 0]⟩
theorem S.tk5 : TDok Tryz.prog 5 S.td5 := td_int (info_of Tryz.type5) rfl rfl rfl Tryz.isAgg5 Tryz.underlying5
def S.td6 : TD := ⟨true, .int Go.IntKind.u8, 1, 1, false, [.int Go.IntKind.u8 0]⟩
theorem S.tk6 : TDok Tryz.prog 6 S.td6 := td_int (info_of Tryz.type6) rfl rfl rfl Tryz.isAgg6 Tryz.underlying6
def S.td7 : TD := ⟨true, .struct [(0, 1, false), (1, 1, false), (2, 1, false), (3, 1, false)], 4, 24, true, [.int Go.IntKind.i64 0, .int Go.IntKind.i64 0, .bool false, .int Go.IntKind.u8 0]⟩
theorem S.tk7 : TDok Tryz.prog 7 S.td7 := td_struct (zs := [Go.Value.int Go.IntKind.i64 0, Go.Value.int Go.IntKind.i64 0, Go.Value.bool false, Go.Value.int Go.IntKind.u8 0]) (info_of Tryz.type7) rfl rfl rfl rfl rfl rfl Tryz.isAgg7 Tryz.underlying7 (⟨⟨rfl, ⟨_, info_of Tryz.type2, rfl⟩, by decide, Tryz.isAgg2⟩, ⟨⟨rfl, ⟨_, info_of Tryz.type3, rfl⟩, by decide, Tryz.isAgg3⟩, ⟨⟨rfl, ⟨_, info_of Tryz.type4, rfl⟩, by decide, Tryz.isAgg4⟩, ⟨⟨rfl, ⟨_, info_of Tryz.type6, rfl⟩, by decide, Tryz.isAgg6⟩, trivial⟩⟩⟩⟩)
def S.td8 : TD := ⟨true, .struct [(0, 1, false), (1, 1, false), (2, 1, false), (3, 1, false)], 4, 24, true, [.int Go.IntKind.i64 0, .int Go.IntKind.i64 0, .bool false, .int Go.IntKind.u8 0]⟩
theorem S.tk8 : TDok Tryz.prog 8 S.td8 := td_struct (zs := [Go.Value.int Go.IntKind.i64 0, Go.Value.int Go.IntKind.i64 0, Go.Value.bool false, Go.Value.int Go.IntKind.u8 0]) (info_of Tryz.type8) rfl rfl rfl rfl rfl rfl Tryz.isAgg8 Tryz.underlying8 (⟨⟨rfl, ⟨_, info_of Tryz.type2, rfl⟩, by decide, Tryz.isAgg2⟩, ⟨⟨rfl, ⟨_, info_of Tryz.type3, rfl⟩, by decide, Tryz.isAgg3⟩, ⟨⟨rfl, ⟨_, info_of Tryz.type4, rfl⟩, by decide, Tryz.isAgg4⟩, ⟨⟨rfl, ⟨_, info_of Tryz.type6, rfl⟩, by decide, Tryz.isAgg6⟩, trivial⟩⟩⟩⟩)
def S.td9 : TD := ⟨true, .string, 1, 16, false, [.str (ByteArray.mk #[])]⟩
theorem S.tk9 : TDok Tryz.prog 9 S.td9 := td_str (info_of Tryz.type9) rfl rfl rfl Tryz.isAgg9 Tryz.underlying9
def S.td10 : TD := ⟨true, .string, 1, 16, false, [.str (ByteArray.mk #[])]⟩
theorem S.tk10 : TDok Tryz.prog 10 S.td10 := td_str (info_of Tryz.type10) rfl rfl rfl Tryz.isAgg10 Tryz.underlying10
def S.td11 : TD := ⟨true, .string, 1, 16, false, [.str (ByteArray.mk #[])]⟩
theorem S.tk11 : TDok Tryz.prog 11 S.td11 := td_str (info_of Tryz.type11) rfl rfl rfl Tryz.isAgg11 Tryz.underlying11
def S.td12 : TD := ⟨true, .int Go.IntKind.u64, 1, 8, false, [.int Go.IntKind.u64 0]⟩
theorem S.tk12 : TDok Tryz.prog 12 S.td12 := td_int (info_of Tryz.type12) rfl rfl rfl Tryz.isAgg12 Tryz.underlying12
def S.td13 : TD := ⟨true, .struct [(0, 1, false), (1, 1, false)], 2, 24, true, [.str (ByteArray.mk #[]), .int Go.IntKind.u64 0]⟩
theorem S.tk13 : TDok Tryz.prog 13 S.td13 := td_struct (zs := [Go.Value.string { data := #[] }, Go.Value.int Go.IntKind.u64 0]) (info_of Tryz.type13) rfl rfl rfl rfl rfl rfl Tryz.isAgg13 Tryz.underlying13 (⟨⟨rfl, ⟨_, info_of Tryz.type9, rfl⟩, by decide, Tryz.isAgg9⟩, ⟨⟨rfl, ⟨_, info_of Tryz.type12, rfl⟩, by decide, Tryz.isAgg12⟩, trivial⟩⟩)
def S.td14 : TD := ⟨true, .struct [(0, 1, false), (1, 1, false)], 2, 24, true, [.str (ByteArray.mk #[]), .int Go.IntKind.u64 0]⟩
theorem S.tk14 : TDok Tryz.prog 14 S.td14 := td_struct (zs := [Go.Value.string { data := #[] }, Go.Value.int Go.IntKind.u64 0]) (info_of Tryz.type14) rfl rfl rfl rfl rfl rfl Tryz.isAgg14 Tryz.underlying14 (⟨⟨rfl, ⟨_, info_of Tryz.type9, rfl⟩, by decide, Tryz.isAgg9⟩, ⟨⟨rfl, ⟨_, info_of Tryz.type12, rfl⟩, by decide, Tryz.isAgg12⟩, trivial⟩⟩)
def S.td15 : TD := ⟨true, .other, 1, 8, false, [.raw (Go.Value.pointer none)]⟩
theorem S.tk15 : TDok Tryz.prog 15 S.td15 := td_raw (info_of Tryz.type15) rfl rfl rfl rfl rfl Tryz.isAgg15
def S.td16 : TD := ⟨true, .other, 1, 8, false, [.raw (Go.Value.pointer none)]⟩
theorem S.tk16 : TDok Tryz.prog 16 S.td16 := td_raw (info_of Tryz.type16) rfl rfl rfl rfl rfl Tryz.isAgg16
def S.td17 : TD := ⟨true, .other, 1, 8, false, [.raw (Go.Value.pointer none)]⟩
theorem S.tk17 : TDok Tryz.prog 17 S.td17 := td_raw (info_of Tryz.type17) rfl rfl rfl rfl rfl Tryz.isAgg17
def S.td18 : TD := ⟨true, .struct [(0, 1, false)], 1, 8, true, [.raw (Go.Value.pointer none)]⟩
theorem S.tk18 : TDok Tryz.prog 18 S.td18 := td_struct (zs := [Go.Value.pointer none]) (info_of Tryz.type18) rfl rfl rfl rfl rfl rfl Tryz.isAgg18 Tryz.underlying18 (⟨⟨rfl, ⟨_, info_of Tryz.type17, rfl⟩, by decide, Tryz.isAgg17⟩, trivial⟩)
def S.td19 : TD := ⟨true, .struct [(0, 1, false)], 1, 8, true, [.raw (Go.Value.pointer none)]⟩
theorem S.tk19 : TDok Tryz.prog 19 S.td19 := td_struct (zs := [Go.Value.pointer none]) (info_of Tryz.type19) rfl rfl rfl rfl rfl rfl Tryz.isAgg19 Tryz.underlying19 (⟨⟨rfl, ⟨_, info_of Tryz.type17, rfl⟩, by decide, Tryz.isAgg17⟩, trivial⟩)
def S.td20 : TD := ⟨true, .other, 1, 16, false, [.raw (Go.Value.nilIface)]⟩
theorem S.tk20 : TDok Tryz.prog 20 S.td20 := td_raw (info_of Tryz.type20) rfl rfl rfl rfl rfl Tryz.isAgg20
def S.td21 : TD := ⟨true, .int Go.IntKind.i32, 1, 4, false, [.int Go.IntKind.i32 0]⟩
theorem S.tk21 : TDok Tryz.prog 21 S.td21 := td_int (info_of Tryz.type21) rfl rfl rfl Tryz.isAgg21 Tryz.underlying21
def S.td22 : TD := ⟨true, .slice 42, 1, 24, false, [.nils]⟩
theorem S.tk22 : TDok Tryz.prog 22 S.td22 := td_slice (info_of Tryz.type22) rfl rfl rfl Tryz.isAgg22 Tryz.underlying22
def S.td23 : TD := ⟨true, .slice 25, 1, 24, false, [.nils]⟩
theorem S.tk23 : TDok Tryz.prog 23 S.td23 := td_slice (info_of Tryz.type23) rfl rfl rfl Tryz.isAgg23 Tryz.underlying23
def S.td24 : TD := ⟨true, .struct [(0, 1, false), (1, 1, false), (2, 1, false)], 3, 40, true, [.int Go.IntKind.i64 0, .int Go.IntKind.i64 0, .nils]⟩
theorem S.tk24 : TDok Tryz.prog 24 S.td24 := td_struct (zs := [Go.Value.int Go.IntKind.i64 0, Go.Value.int Go.IntKind.i64 0, Go.Value.slice none 0 0]) (info_of Tryz.type24) rfl rfl rfl rfl rfl rfl Tryz.isAgg24 Tryz.underlying24 (⟨⟨rfl, ⟨_, info_of Tryz.type3, rfl⟩, by decide, Tryz.isAgg3⟩, ⟨⟨rfl, ⟨_, info_of Tryz.type3, rfl⟩, by decide, Tryz.isAgg3⟩, ⟨⟨rfl, ⟨_, info_of Tryz.type23, rfl⟩, by decide, Tryz.isAgg23⟩, trivial⟩⟩⟩)
def S.td25 : TD := ⟨true, .struct [(0, 1, false), (1, 1, false), (2, 1, false)], 3, 40, true, [.int Go.IntKind.i64 0, .int Go.IntKind.i64 0, .nils]⟩
theorem S.tk25 : TDok Tryz.prog 25 S.td25 := td_struct (zs := [Go.Value.int Go.IntKind.i64 0, Go.Value.int Go.IntKind.i64 0, Go.Value.slice none 0 0]) (info_of Tryz.type25) rfl rfl rfl rfl rfl rfl Tryz.isAgg25 Tryz.underlying25 (⟨⟨rfl, ⟨_, info_of Tryz.type3, rfl⟩, by decide, Tryz.isAgg3⟩, ⟨⟨rfl, ⟨_, info_of Tryz.type3, rfl⟩, by decide, Tryz.isAgg3⟩, ⟨⟨rfl, ⟨_, info_of Tryz.type23, rfl⟩, by decide, Tryz.isAgg23⟩, trivial⟩⟩⟩)
def S.td26 : TD := ⟨true, .slice 28, 1, 24, false, [.nils]⟩
theorem S.tk26 : TDok Tryz.prog 26 S.td26 := td_slice (info_of Tryz.type26) rfl rfl rfl Tryz.isAgg26 Tryz.underlying26
def S.td27 : TD := ⟨true, .struct [(0, 1, false), (1, 1, false), (2, 1, false)], 3, 40, true, [.int Go.IntKind.i64 0, .int Go.IntKind.i64 0, .nils]⟩
theorem S.tk27 : TDok Tryz.prog 27 S.td27 := td_struct (zs := [Go.Value.int Go.IntKind.i64 0, Go.Value.int Go.IntKind.i64 0, Go.Value.slice none 0 0]) (info_of Tryz.type27) rfl rfl rfl rfl rfl rfl Tryz.isAgg27 Tryz.underlying27 (⟨⟨rfl, ⟨_, info_of Tryz.type3, rfl⟩, by decide, Tryz.isAgg3⟩, ⟨⟨rfl, ⟨_, info_of Tryz.type2, rfl⟩, by decide, Tryz.isAgg2⟩, ⟨⟨rfl, ⟨_, info_of Tryz.type26, rfl⟩, by decide, Tryz.isAgg26⟩, trivial⟩⟩⟩)
def S.td28 : TD := ⟨true, .struct [(0, 1, false), (1, 1, false), (2, 1, false)], 3, 40, true, [.int Go.IntKind.i64 0, .int Go.IntKind.i64 0, .nils]⟩
theorem S.tk28 : TDok Tryz.prog 28 S.td28 := td_struct (zs := [Go.Value.int Go.IntKind.i64 0, Go.Value.int Go.IntKind.i64 0, Go.Value.slice none 0 0]) (info_of Tryz.type28) rfl rfl rfl rfl rfl rfl Tryz.isAgg28 Tryz.underlying28 (⟨⟨rfl, ⟨_, info_of Tryz.type3, rfl⟩, by decide, Tryz.isAgg3⟩, ⟨⟨rfl, ⟨_, info_of Tryz.type2, rfl⟩, by decide, Tryz.isAgg2⟩, ⟨⟨rfl, ⟨_, info_of Tryz.type26, rfl⟩, by decide, Tryz.isAgg26⟩, trivial⟩⟩⟩)
def S.td29 : TD := ⟨true, .other, 1, 8, false, [.raw (Go.Value.nilFunc)]⟩
theorem S.tk29 : TDok Tryz.prog 29 S.td29 := td_raw (info_of Tryz.type29) rfl rfl rfl rfl rfl Tryz.isAgg29
def S.td30 : TD := ⟨true, .int Go.IntKind.i64, 1, 8, false, [.int Go.IntKind.i64 0]⟩
theorem S.tk30 : TDok Tryz.prog 30 S.td30 := td_int (info_of Tryz.type30) rfl rfl rfl Tryz.isAgg30 Tryz.underlying30
def S.td32 : TD := ⟨true, .other, 1, 8, false, [.raw (Go.Value.nilFunc)]⟩
theorem S.tk32 : TDok Tryz.prog 32 S.td32 := td_raw (info_of Tryz.type32) rfl rfl rfl rfl rfl Tryz.isAgg32
def S.td33 : TD := ⟨true, .other, 1, 8, false, [.raw (Go.Value.nilFunc)]⟩
theorem S.tk33 : TDok Tryz.prog 33 S.td33 := td_raw (info_of Tryz.type33) rfl rfl rfl rfl rfl Tryz.isAgg33
def S.td34 : TD := ⟨true, .other, 1, 8, false, [.raw (Go.Value.nilFunc)]⟩
theorem S.tk34 : TDok Tryz.prog 34 S.td34 := td_raw (info_of Tryz.type34) rfl rfl rfl rfl rfl Tryz.isAgg34
def S.td35 : TD := ⟨true, .other, 1, 8, false, [.raw (Go.Value.nilFunc)]⟩
theorem S.tk35 : TDok Tryz.prog 35 S.td35 := td_raw (info_of Tryz.type35) rfl rfl rfl rfl rfl Tryz.isAgg35
def S.td36 : TD := ⟨true, .other, 1, 8, false, [.raw (Go.Value.nilFunc)]⟩
theorem S.tk36 : TDok Tryz.prog 36 S.td36 := td_raw (info_of Tryz.type36) rfl rfl rfl rfl rfl Tryz.isAgg36
def S.td37 : TD := ⟨true, .other, 1, 8, false, [.raw (Go.Value.nilFunc)]⟩
theorem S.tk37 : TDok Tryz.prog 37 S.td37 := td_raw (info_of Tryz.type37) rfl rfl rfl rfl rfl Tryz.isAgg37
def S.td38 : TD := ⟨true, .other, 1, 8, false, [.raw (Go.Value.nilFunc)]⟩
theorem S.tk38 : TDok Tryz.prog 38 S.td38 := td_raw (info_of Tryz.type38) rfl rfl rfl rfl rfl Tryz.isAgg38
def S.td39 : TD := ⟨true, .other, 1, 8, false, [.raw (Go.Value.nilFunc)]⟩
theorem S.tk39 : TDok Tryz.prog 39 S.td39 := td_raw (info_of Tryz.type39) rfl rfl rfl rfl rfl Tryz.isAgg39
def S.td40 : TD := ⟨true, .slice 59, 1, 24, false, [.nils]⟩
theorem S.tk40 : TDok Tryz.prog 40 S.td40 := td_slice (info_of Tryz.type40) rfl rfl rfl Tryz.isAgg40 Tryz.underlying40
def S.td41 : TD := ⟨true, .struct [(0, 1, false), (1, 1, false), (2, 1, false)], 3, 48, true, [.str (ByteArray.mk #[]), .int Go.IntKind.i64 0, .nils]⟩
theorem S.tk41 : TDok Tryz.prog 41 S.td41 := td_struct (zs := [Go.Value.string { data := #[] }, Go.Value.int Go.IntKind.i64 0, Go.Value.slice none 0 0]) (info_of Tryz.type41) rfl rfl rfl rfl rfl rfl Tryz.isAgg41 Tryz.underlying41 (⟨⟨rfl, ⟨_, info_of Tryz.type9, rfl⟩, by decide, Tryz.isAgg9⟩, ⟨⟨rfl, ⟨_, info_of Tryz.type3, rfl⟩, by decide, Tryz.isAgg3⟩, ⟨⟨rfl, ⟨_, info_of Tryz.type40, rfl⟩, by decide, Tryz.isAgg40⟩, trivial⟩⟩⟩)
def S.td42 : TD := ⟨true, .struct [(0, 1, false), (1, 1, false), (2, 1, false)], 3, 48, true, [.str (ByteArray.mk #[]), .int Go.IntKind.i64 0, .nils]⟩
theorem S.tk42 : TDok Tryz.prog 42 S.td42 := td_struct (zs := [Go.Value.string { data := #[] }, Go.Value.int Go.IntKind.i64 0, Go.Value.slice none 0 0]) (info_of Tryz.type42) rfl rfl rfl rfl rfl rfl Tryz.isAgg42 Tryz.underlying42 (⟨⟨rfl, ⟨_, info_of Tryz.type9, rfl⟩, by decide, Tryz.isAgg9⟩, ⟨⟨rfl, ⟨_, info_of Tryz.type3, rfl⟩, by decide, Tryz.isAgg3⟩, ⟨⟨rfl, ⟨_, info_of Tryz.type40, rfl⟩, by decide, Tryz.isAgg40⟩, trivial⟩⟩⟩)
def S.td43 : TD := ⟨true, .other, 1, 8, false, [.raw (Go.Value.nilFunc)]⟩
theorem S.tk43 : TDok Tryz.prog 43 S.td43 := td_raw (info_of Tryz.type43) rfl rfl rfl rfl rfl Tryz.isAgg43
def S.td44 : TD := ⟨true, .other, 1, 8, false, [.raw (Go.Value.nilFunc)]⟩
theorem S.tk44 : TDok Tryz.prog 44 S.td44 := td_raw (info_of Tryz.type44) rfl rfl rfl rfl rfl Tryz.isAgg44
def S.td45 : TD := ⟨true, .slice 4, 1, 24, false, [.nils]⟩
theorem S.tk45 : TDok Tryz.prog 45 S.td45 := td_slice (info_of Tryz.type45) rfl rfl rfl Tryz.isAgg45 Tryz.underlying45
def S.td46 : TD := ⟨true, .other, 1, 8, false, [.raw (Go.Value.nilFunc)]⟩
theorem S.tk46 : TDok Tryz.prog 46 S.td46 := td_raw (info_of Tryz.type46) rfl rfl rfl rfl rfl Tryz.isAgg46
def S.td47 : TD := ⟨true, .other, 1, 8, false, [.raw (Go.Value.nilFunc)]⟩
theorem S.tk47 : TDok Tryz.prog 47 S.td47 := td_raw (info_of Tryz.type47) rfl rfl rfl rfl rfl Tryz.isAgg47
def S.td48 : TD := ⟨true, .slice 78, 1, 24, false, [.nils]⟩
theorem S.tk48 : TDok Tryz.prog 48 S.td48 := td_slice (info_of Tryz.type48) rfl rfl rfl Tryz.isAgg48 Tryz.underlying48
def S.td49 : TD := ⟨true, .struct [(0, 1, false), (1, 1, false), (2, 1, false)], 3, 56, true, [.bool false, .nils, .nils]⟩
theorem S.tk49 : TDok Tryz.prog 49 S.td49 := td_struct (zs := [Go.Value.bool false, Go.Value.slice none 0 0, Go.Value.slice none 0 0]) (info_of Tryz.type49) rfl rfl rfl rfl rfl rfl Tryz.isAgg49 Tryz.underlying49 (⟨⟨rfl, ⟨_, info_of Tryz.type4, rfl⟩, by decide, Tryz.isAgg4⟩, ⟨⟨rfl, ⟨_, info_of Tryz.type48, rfl⟩, by decide, Tryz.isAgg48⟩, ⟨⟨rfl, ⟨_, info_of Tryz.type48, rfl⟩, by decide, Tryz.isAgg48⟩, trivial⟩⟩⟩)
def S.td50 : TD := ⟨true, .struct [(0, 1, false), (1, 1, false), (2, 1, false)], 3, 56, true, [.bool false, .nils, .nils]⟩
theorem S.tk50 : TDok Tryz.prog 50 S.td50 := td_struct (zs := [Go.Value.bool false, Go.Value.slice none 0 0, Go.Value.slice none 0 0]) (info_of Tryz.type50) rfl rfl rfl rfl rfl rfl Tryz.isAgg50 Tryz.underlying50 (⟨⟨rfl, ⟨_, info_of Tryz.type4, rfl⟩, by decide, Tryz.isAgg4⟩, ⟨⟨rfl, ⟨_, info_of Tryz.type48, rfl⟩, by decide, Tryz.isAgg48⟩, ⟨⟨rfl, ⟨_, info_of Tryz.type48, rfl⟩, by decide, Tryz.isAgg48⟩, trivial⟩⟩⟩)
def S.td52 : TD := ⟨true, .other, 1, 8, false, [.raw (Go.Value.nilFunc)]⟩
theorem S.tk52 : TDok Tryz.prog 52 S.td52 := td_raw (info_of Tryz.type52) rfl rfl rfl rfl rfl Tryz.isAgg52
def S.td53 : TD := ⟨true, .slice 55, 1, 24, false, [.nils]⟩
theorem S.tk53 : TDok Tryz.prog 53 S.td53 := td_slice (info_of Tryz.type53) rfl rfl rfl Tryz.isAgg53 Tryz.underlying53
def S.td54 : TD := ⟨true, .struct [(0, 1, false), (1, 1, false)], 2, 32, true, [.int Go.IntKind.i64 0, .nils]⟩
theorem S.tk54 : TDok Tryz.prog 54 S.td54 := td_struct (zs := [Go.Value.int Go.IntKind.i64 0, Go.Value.slice none 0 0]) (info_of Tryz.type54) rfl rfl rfl rfl rfl rfl Tryz.isAgg54 Tryz.underlying54 (⟨⟨rfl, ⟨_, info_of Tryz.type3, rfl⟩, by decide, Tryz.isAgg3⟩, ⟨⟨rfl, ⟨_, info_of Tryz.type53, rfl⟩, by decide, Tryz.isAgg53⟩, trivial⟩⟩)
def S.td55 : TD := ⟨true, .struct [(0, 1, false), (1, 1, false)], 2, 32, true, [.int Go.IntKind.i64 0, .nils]⟩
theorem S.tk55 : TDok Tryz.prog 55 S.td55 := td_struct (zs := [Go.Value.int Go.IntKind.i64 0, Go.Value.slice none 0 0]) (info_of Tryz.type55) rfl rfl rfl rfl rfl rfl Tryz.isAgg55 Tryz.underlying55 (⟨⟨rfl, ⟨_, info_of Tryz.type3, rfl⟩, by decide, Tryz.isAgg3⟩, ⟨⟨rfl, ⟨_, info_of Tryz.type53, rfl⟩, by decide, Tryz.isAgg53⟩, trivial⟩⟩)
def S.td56 : TD := ⟨true, .other, 1, 8, false, [.raw (Go.Value.nilFunc)]⟩
theorem S.tk56 : TDok Tryz.prog 56 S.td56 := td_raw (info_of Tryz.type56) rfl rfl rfl rfl rfl Tryz.isAgg56
def S.td57 : TD := ⟨true, .other, 1, 8, false, [.raw (Go.Value.nilFunc)]⟩
theorem S.tk57 : TDok Tryz.prog 57 S.td57 := td_raw (info_of Tryz.type57) rfl rfl rfl rfl rfl Tryz.isAgg57
def S.td58 : TD := ⟨true, .struct [(0, 1, false), (1, 1, false)], 2, 40, true, [.str (ByteArray.mk #[]), .nils]⟩
theorem S.tk58 : TDok Tryz.prog 58 S.td58 := td_struct (zs := [Go.Value.string { data := #[] }, Go.Value.slice none 0 0]) (info_of Tryz.type58) rfl rfl rfl rfl rfl rfl Tryz.isAgg58 Tryz.underlying58 (⟨⟨rfl, ⟨_, info_of Tryz.type9, rfl⟩, by decide, Tryz.isAgg9⟩, ⟨⟨rfl, ⟨_, info_of Tryz.type23, rfl⟩, by decide, Tryz.isAgg23⟩, trivial⟩⟩)
def S.td59 : TD := ⟨true, .struct [(0, 1, false), (1, 1, false)], 2, 40, true, [.str (ByteArray.mk #[]), .nils]⟩
theorem S.tk59 : TDok Tryz.prog 59 S.td59 := td_struct (zs := [Go.Value.string { data := #[] }, Go.Value.slice none 0 0]) (info_of Tryz.type59) rfl rfl rfl rfl rfl rfl Tryz.isAgg59 Tryz.underlying59 (⟨⟨rfl, ⟨_, info_of Tryz.type9, rfl⟩, by decide, Tryz.isAgg9⟩, ⟨⟨rfl, ⟨_, info_of Tryz.type23, rfl⟩, by decide, Tryz.isAgg23⟩, trivial⟩⟩)
def S.td60 : TD := ⟨true, .other, 1, 8, false, [.raw (Go.Value.nilFunc)]⟩
theorem S.tk60 : TDok Tryz.prog 60 S.td60 := td_raw (info_of Tryz.type60) rfl rfl rfl rfl rfl Tryz.isAgg60
def S.td61 : TD := ⟨true, .other, 1, 8, false, [.raw (Go.Value.pointer none)]⟩
theorem S.tk61 : TDok Tryz.prog 61 S.td61 := td_raw (info_of Tryz.type61) rfl rfl rfl rfl rfl Tryz.isAgg61
def S.td62 : TD := ⟨true, .other, 1, 8, false, [.raw (Go.Value.nilFunc)]⟩
theorem S.tk62 : TDok Tryz.prog 62 S.td62 := td_raw (info_of Tryz.type62) rfl rfl rfl rfl rfl Tryz.isAgg62
def S.td63 : TD := ⟨true, .other, 1, 8, false, [.raw (Go.Value.nilFunc)]⟩
theorem S.tk63 : TDok Tryz.prog 63 S.td63 := td_raw (info_of Tryz.type63) rfl rfl rfl rfl rfl Tryz.isAgg63
def S.td64 : TD := ⟨true, .slice 87, 1, 24, false, [.nils]⟩
theorem S.tk64 : TDok Tryz.prog 64 S.td64 := td_slice (info_of Tryz.type64) rfl rfl rfl Tryz.isAgg64 Tryz.underlying64
def S.td65 : TD := ⟨true, .slice 111, 1, 24, false, [.nils]⟩
theorem S.tk65 : TDok Tryz.prog 65 S.td65 := td_slice (info_of Tryz.type65) rfl rfl rfl Tryz.isAgg65 Tryz.underlying65
def S.td66 : TD := ⟨true, .struct [(0, 1, false), (1, 1, false), (2, 1, false), (3, 1, false)], 4, 96, true, [.nils, .nils, .nils, .nils]⟩
theorem S.tk66 : TDok Tryz.prog 66 S.td66 := td_struct (zs := [Go.Value.slice none 0 0, Go.Value.slice none 0 0, Go.Value.slice none 0 0, Go.Value.slice none 0 0]) (info_of Tryz.type66) rfl rfl rfl rfl rfl rfl Tryz.isAgg66 Tryz.underlying66 (⟨⟨rfl, ⟨_, info_of Tryz.type22, rfl⟩, by decide, Tryz.isAgg22⟩, ⟨⟨rfl, ⟨_, info_of Tryz.type64, rfl⟩, by decide, Tryz.isAgg64⟩, ⟨⟨rfl, ⟨_, info_of Tryz.type23, rfl⟩, by decide, Tryz.isAgg23⟩, ⟨⟨rfl, ⟨_, info_of Tryz.type65, rfl⟩, by decide, Tryz.isAgg65⟩, trivial⟩⟩⟩⟩)
def S.td67 : TD := ⟨true, .struct [(0, 1, false), (1, 1, false), (2, 1, false), (3, 1, false)], 4, 96, true, [.nils, .nils, .nils, .nils]⟩
theorem S.tk67 : TDok Tryz.prog 67 S.td67 := td_struct (zs := [Go.Value.slice none 0 0, Go.Value.slice none 0 0, Go.Value.slice none 0 0, Go.Value.slice none 0 0]) (info_of Tryz.type67) rfl rfl rfl rfl rfl rfl Tryz.isAgg67 Tryz.underlying67 (⟨⟨rfl, ⟨_, info_of Tryz.type22, rfl⟩, by decide, Tryz.isAgg22⟩, ⟨⟨rfl, ⟨_, info_of Tryz.type64, rfl⟩, by decide, Tryz.isAgg64⟩, ⟨⟨rfl, ⟨_, info_of Tryz.type23, rfl⟩, by decide, Tryz.isAgg23⟩, ⟨⟨rfl, ⟨_, info_of Tryz.type65, rfl⟩, by decide, Tryz.isAgg65⟩, trivial⟩⟩⟩⟩)
def S.td68 : TD := ⟨true, .other, 1, 8, false, [.raw (Go.Value.nilFunc)]⟩
theorem S.tk68 : TDok Tryz.prog 68 S.td68 := td_raw (info_of Tryz.type68) rfl rfl rfl rfl rfl Tryz.isAgg68
def S.td69 : TD := ⟨true, .other, 1, 8, false, [.raw (Go.Value.nilFunc)]⟩
theorem S.tk69 : TDok Tryz.prog 69 S.td69 := td_raw (info_of Tryz.type69) rfl rfl rfl rfl rfl Tryz.isAgg69
def S.td70 : TD := ⟨true, .other, 1, 8, false, [.raw (Go.Value.nilFunc)]⟩
theorem S.tk70 : TDok Tryz.prog 70 S.td70 := td_raw (info_of Tryz.type70) rfl rfl rfl rfl rfl Tryz.isAgg70
def S.td71 : TD := ⟨true, .other, 1, 8, false, [.raw (Go.Value.nilFunc)]⟩
theorem S.tk71 : TDok Tryz.prog 71 S.td71 := td_raw (info_of Tryz.type71) rfl rfl rfl rfl rfl Tryz.isAgg71
def S.td72 : TD := ⟨true, .other, 1, 8, false, [.raw (Go.Value.nilFunc)]⟩
theorem S.tk72 : TDok Tryz.prog 72 S.td72 := td_raw (info_of Tryz.type72) rfl rfl rfl rfl rfl Tryz.isAgg72
def S.td73 : TD := ⟨true, .other, 1, 8, false, [.raw (Go.Value.nilFunc)]⟩
theorem S.tk73 : TDok Tryz.prog 73 S.td73 := td_raw (info_of Tryz.type73) rfl rfl rfl rfl rfl Tryz.isAgg73
def S.td74 : TD := ⟨true, .other, 1, 8, false, [.raw (Go.Value.nilFunc)]⟩
theorem S.tk74 : TDok Tryz.prog 74 S.td74 := td_raw (info_of Tryz.type74) rfl rfl rfl rfl rfl Tryz.isAgg74
def S.td75 : TD := ⟨true, .other, 1, 8, false, [.raw (Go.Value.nilFunc)]⟩
theorem S.tk75 : TDok Tryz.prog 75 S.td75 := td_raw (info_of Tryz.type75) rfl rfl rfl rfl rfl Tryz.isAgg75
def S.td76 : TD := ⟨true, .other, 1, 8, false, [.raw (Go.Value.nilFunc)]⟩
theorem S.tk76 : TDok Tryz.prog 76 S.td76 := td_raw (info_of Tryz.type76) rfl rfl rfl rfl rfl Tryz.isAgg76
def S.td77 : TD := ⟨true, .int Go.IntKind.u64, 1, 8, false, [.int Go.IntKind.u64 0]⟩
theorem S.tk77 : TDok Tryz.prog 77 S.td77 := td_int (info_of Tryz.type77) rfl rfl rfl Tryz.isAgg77 Tryz.underlying77
def S.td78 : TD := ⟨true, .int Go.IntKind.u32, 1, 4, false, [.int Go.IntKind.u32 0]⟩
theorem S.tk78 : TDok Tryz.prog 78 S.td78 := td_int (info_of Tryz.type78) rfl rfl rfl Tryz.isAgg78 Tryz.underlying78
def S.td79 : TD := ⟨true, .other, 1, 8, false, [.raw (Go.Value.nilFunc)]⟩
theorem S.tk79 : TDok Tryz.prog 79 S.td79 := td_raw (info_of Tryz.type79) rfl rfl rfl rfl rfl Tryz.isAgg79
def S.td80 : TD := ⟨true, .other, 1, 8, false, [.raw (Go.Value.pointer none)]⟩
theorem S.tk80 : TDok Tryz.prog 80 S.td80 := td_raw (info_of Tryz.type80) rfl rfl rfl rfl rfl Tryz.isAgg80
def S.td81 : TD := ⟨true, .slice 3, 1, 24, false, [.nils]⟩
theorem S.tk81 : TDok Tryz.prog 81 S.td81 := td_slice (info_of Tryz.type81) rfl rfl rfl Tryz.isAgg81 Tryz.underlying81
def S.td82 : TD := ⟨true, .slice 81, 1, 24, false, [.nils]⟩
theorem S.tk82 : TDok Tryz.prog 82 S.td82 := td_slice (info_of Tryz.type82) rfl rfl rfl Tryz.isAgg82 Tryz.underlying82
def S.td83 : TD := ⟨true, .struct [(0, 4, true), (4, 1, false), (5, 1, false), (6, 1, false), (7, 1, false)], 8, 192, true, [.nils, .nils, .nils, .nils, .nils, .nils, .nils, .nils]⟩
theorem S.tk83 : TDok Tryz.prog 83 S.td83 := td_struct (zs := [Go.Value.slice none 0 0, Go.Value.slice none 0 0, Go.Value.slice none 0 0, Go.Value.slice none 0 0, Go.Value.slice none 0 0, Go.Value.slice none 0 0, Go.Value.slice none 0 0, Go.Value.slice none 0 0]) (info_of Tryz.type83) rfl rfl rfl rfl rfl rfl Tryz.isAgg83 Tryz.underlying83 (⟨⟨rfl, ⟨_, info_of Tryz.type67, rfl⟩, by decide, Tryz.isAgg67⟩, ⟨⟨rfl, ⟨_, info_of Tryz.type81, rfl⟩, by decide, Tryz.isAgg81⟩, ⟨⟨rfl, ⟨_, info_of Tryz.type81, rfl⟩, by decide, Tryz.isAgg81⟩, ⟨⟨rfl, ⟨_, info_of Tryz.type81, rfl⟩, by decide, Tryz.isAgg81⟩, ⟨⟨rfl, ⟨_, info_of Tryz.type82, rfl⟩, by decide, Tryz.isAgg82⟩, trivial⟩⟩⟩⟩⟩)
def S.td84 : TD := ⟨true, .struct [(0, 4, true), (4, 1, false), (5, 1, false), (6, 1, false), (7, 1, false)], 8, 192, true, [.nils, .nils, .nils, .nils, .nils, .nils, .nils, .nils]⟩
theorem S.tk84 : TDok Tryz.prog 84 S.td84 := td_struct (zs := [Go.Value.slice none 0 0, Go.Value.slice none 0 0, Go.Value.slice none 0 0, Go.Value.slice none 0 0, Go.Value.slice none 0 0, Go.Value.slice none 0 0, Go.Value.slice none 0 0, Go.Value.slice none 0 0]) (info_of Tryz.type84) rfl rfl rfl rfl rfl rfl Tryz.isAgg84 Tryz.underlying84 (⟨⟨rfl, ⟨_, info_of Tryz.type67, rfl⟩, by decide, Tryz.isAgg67⟩, ⟨⟨rfl, ⟨_, info_of Tryz.type81, rfl⟩, by decide, Tryz.isAgg81⟩, ⟨⟨rfl, ⟨_, info_of Tryz.type81, rfl⟩, by decide, Tryz.isAgg81⟩, ⟨⟨rfl, ⟨_, info_of Tryz.type81, rfl⟩, by decide, Tryz.isAgg81⟩, ⟨⟨rfl, ⟨_, info_of Tryz.type82, rfl⟩, by decide, Tryz.isAgg82⟩, trivial⟩⟩⟩⟩⟩)
def S.td85 : TD := ⟨true, .other, 1, 8, false, [.raw (Go.Value.nilFunc)]⟩
theorem S.tk85 : TDok Tryz.prog 85 S.td85 := td_raw (info_of Tryz.type85) rfl rfl rfl rfl rfl Tryz.isAgg85
def S.td86 : TD := ⟨true, .struct [(0, 1, false), (1, 1, false), (2, 1, false), (3, 3, true), (6, 1, false)], 7, 112, true, [.str (ByteArray.mk #[]), .nils, .nils, .int Go.IntKind.i64 0, .int Go.IntKind.i64 0, .nils, .int Go.IntKind.i64 0]⟩
theorem S.tk86 : TDok Tryz.prog 86 S.td86 := td_struct (zs := [Go.Value.string { data := #[] }, Go.Value.slice none 0 0, Go.Value.slice none 0 0, Go.Value.int Go.IntKind.i64 0, Go.Value.int Go.IntKind.i64 0, Go.Value.slice none 0 0, Go.Value.int Go.IntKind.i64 0]) (info_of Tryz.type86) rfl rfl rfl rfl rfl rfl Tryz.isAgg86 Tryz.underlying86 (⟨⟨rfl, ⟨_, info_of Tryz.type9, rfl⟩, by decide, Tryz.isAgg9⟩, ⟨⟨rfl, ⟨_, info_of Tryz.type81, rfl⟩, by decide, Tryz.isAgg81⟩, ⟨⟨rfl, ⟨_, info_of Tryz.type81, rfl⟩, by decide, Tryz.isAgg81⟩, ⟨⟨rfl, ⟨_, info_of Tryz.type25, rfl⟩, by decide, Tryz.isAgg25⟩, ⟨⟨rfl, ⟨_, info_of Tryz.type3, rfl⟩, by decide, Tryz.isAgg3⟩, trivial⟩⟩⟩⟩⟩)
def S.td87 : TD := ⟨true, .struct [(0, 1, false), (1, 1, false), (2, 1, false), (3, 3, true), (6, 1, false)], 7, 112, true, [.str (ByteArray.mk #[]), .nils, .nils, .int Go.IntKind.i64 0, .int Go.IntKind.i64 0, .nils, .int Go.IntKind.i64 0]⟩
theorem S.tk87 : TDok Tryz.prog 87 S.td87 := td_struct (zs := [Go.Value.string { data := #[] }, Go.Value.slice none 0 0, Go.Value.slice none 0 0, Go.Value.int Go.IntKind.i64 0, Go.Value.int Go.IntKind.i64 0, Go.Value.slice none 0 0, Go.Value.int Go.IntKind.i64 0]) (info_of Tryz.type87) rfl rfl rfl rfl rfl rfl Tryz.isAgg87 Tryz.underlying87 (⟨⟨rfl, ⟨_, info_of Tryz.type9, rfl⟩, by decide, Tryz.isAgg9⟩, ⟨⟨rfl, ⟨_, info_of Tryz.type81, rfl⟩, by decide, Tryz.isAgg81⟩, ⟨⟨rfl, ⟨_, info_of Tryz.type81, rfl⟩, by decide, Tryz.isAgg81⟩, ⟨⟨rfl, ⟨_, info_of Tryz.type25, rfl⟩, by decide, Tryz.isAgg25⟩, ⟨⟨rfl, ⟨_, info_of Tryz.type3, rfl⟩, by decide, Tryz.isAgg3⟩, trivial⟩⟩⟩⟩⟩)
def S.td88 : TD := ⟨true, .other, 1, 8, false, [.raw (Go.Value.nilFunc)]⟩
theorem S.tk88 : TDok Tryz.prog 88 S.td88 := td_raw (info_of Tryz.type88) rfl rfl rfl rfl rfl Tryz.isAgg88
def S.td89 : TD := ⟨true, .other, 1, 8, false, [.raw (Go.Value.nilFunc)]⟩
theorem S.tk89 : TDok Tryz.prog 89 S.td89 := td_raw (info_of Tryz.type89) rfl rfl rfl rfl rfl Tryz.isAgg89
def S.td91 : TD := ⟨true, .other, 1, 8, false, [.raw (Go.Value.nilFunc)]⟩
theorem S.tk91 : TDok Tryz.prog 91 S.td91 := td_raw (info_of Tryz.type91) rfl rfl rfl rfl rfl Tryz.isAgg91
def S.td92 : TD := ⟨true, .other, 1, 8, false, [.raw (Go.Value.nilFunc)]⟩
theorem S.tk92 : TDok Tryz.prog 92 S.td92 := td_raw (info_of Tryz.type92) rfl rfl rfl rfl rfl Tryz.isAgg92
def S.td93 : TD := ⟨true, .slice 9, 1, 24, false, [.nils]⟩
theorem S.tk93 : TDok Tryz.prog 93 S.td93 := td_slice (info_of Tryz.type93) rfl rfl rfl Tryz.isAgg93 Tryz.underlying93
def S.td94 : TD := ⟨true, .other, 1, 8, false, [.raw (Go.Value.nilFunc)]⟩
theorem S.tk94 : TDok Tryz.prog 94 S.td94 := td_raw (info_of Tryz.type94) rfl rfl rfl rfl rfl Tryz.isAgg94
def S.td95 : TD := ⟨true, .other, 1, 8, false, [.raw (Go.Value.nilFunc)]⟩
theorem S.tk95 : TDok Tryz.prog 95 S.td95 := td_raw (info_of Tryz.type95) rfl rfl rfl rfl rfl Tryz.isAgg95
def S.td96 : TD := ⟨true, .other, 1, 8, false, [.raw (Go.Value.nilFunc)]⟩
theorem S.tk96 : TDok Tryz.prog 96 S.td96 := td_raw (info_of Tryz.type96) rfl rfl rfl rfl rfl Tryz.isAgg96
def S.td97 : TD := ⟨true, .other, 1, 8, false, [.raw (Go.Value.nilFunc)]⟩
theorem S.tk97 : TDok Tryz.prog 97 S.td97 := td_raw (info_of Tryz.type97) rfl rfl rfl rfl rfl Tryz.isAgg97
def S.td98 : TD := ⟨true, .other, 1, 8, false, [.raw (Go.Value.nilFunc)]⟩
theorem S.tk98 : TDok Tryz.prog 98 S.td98 := td_raw (info_of Tryz.type98) rfl rfl rfl rfl rfl Tryz.isAgg98
def S.td99 : TD := ⟨true, .other, 1, 8, false, [.raw (Go.Value.nilFunc)]⟩
theorem S.tk99 : TDok Tryz.prog 99 S.td99 := td_raw (info_of Tryz.type99) rfl rfl rfl rfl rfl Tryz.isAgg99
def S.td101 : TD := ⟨true, .other, 1, 8, false, [.raw (Go.Value.nilFunc)]⟩
theorem S.tk101 : TDok Tryz.prog 101 S.td101 := td_raw (info_of Tryz.type101) rfl rfl rfl rfl rfl Tryz.isAgg101
def S.td102 : TD := ⟨true, .other, 1, 8, false, [.raw (Go.Value.nilFunc)]⟩
theorem S.tk102 : TDok Tryz.prog 102 S.td102 := td_raw (info_of Tryz.type102) rfl rfl rfl rfl rfl Tryz.isAgg102
def S.td103 : TD := ⟨true, .other, 1, 8, false, [.raw (Go.Value.nilFunc)]⟩
theorem S.tk103 : TDok Tryz.prog 103 S.td103 := td_raw (info_of Tryz.type103) rfl rfl rfl rfl rfl Tryz.isAgg103
def S.td104 : TD := ⟨true, .other, 1, 8, false, [.raw (Go.Value.nilFunc)]⟩
theorem S.tk104 : TDok Tryz.prog 104 S.td104 := td_raw (info_of Tryz.type104) rfl rfl rfl rfl rfl Tryz.isAgg104
def S.td106 : TD := ⟨true, .other, 1, 8, false, [.raw (Go.Value.nilFunc)]⟩
theorem S.tk106 : TDok Tryz.prog 106 S.td106 := td_raw (info_of Tryz.type106) rfl rfl rfl rfl rfl Tryz.isAgg106
def S.td107 : TD := ⟨true, .smap, 1, 8, false, [.raw (.map Option.none)]⟩
theorem S.tk107 : TDok Tryz.prog 107 S.td107 := td_smap (info_of Tryz.type107) rfl rfl rfl Tryz.isAgg107 Tryz.underlying107 Tryz.underlying9 Tryz.underlying4 (info_of Tryz.type4) rfl
def S.td108 : TD := ⟨true, .other, 1, 8, false, [.raw (Go.Value.nilFunc)]⟩
theorem S.tk108 : TDok Tryz.prog 108 S.td108 := td_raw (info_of Tryz.type108) rfl rfl rfl rfl rfl Tryz.isAgg108
def S.td109 : TD := ⟨true, .other, 1, 8, false, [.raw (Go.Value.nilFunc)]⟩
theorem S.tk109 : TDok Tryz.prog 109 S.td109 := td_raw (info_of Tryz.type109) rfl rfl rfl rfl rfl Tryz.isAgg109
def S.td110 : TD := ⟨true, .struct [(0, 1, false), (1, 1, false), (2, 1, false), (3, 1, false), (4, 1, false), (5, 3, true)], 8, 128, true, [.int Go.IntKind.i64 0, .int Go.IntKind.i64 0, .nils, .nils, .nils, .int Go.IntKind.i64 0, .int Go.IntKind.i64 0, .nils]⟩
theorem S.tk110 : TDok Tryz.prog 110 S.td110 := td_struct (zs := [Go.Value.int Go.IntKind.i64 0, Go.Value.int Go.IntKind.i64 0, Go.Value.slice none 0 0, Go.Value.slice none 0 0, Go.Value.slice none 0 0, Go.Value.int Go.IntKind.i64 0, Go.Value.int Go.IntKind.i64 0, Go.Value.slice none 0 0]) (info_of Tryz.type110) rfl rfl rfl rfl rfl rfl Tryz.isAgg110 Tryz.underlying110 (⟨⟨rfl, ⟨_, info_of Tryz.type3, rfl⟩, by decide, Tryz.isAgg3⟩, ⟨⟨rfl, ⟨_, info_of Tryz.type2, rfl⟩, by decide, Tryz.isAgg2⟩, ⟨⟨rfl, ⟨_, info_of Tryz.type81, rfl⟩, by decide, Tryz.isAgg81⟩, ⟨⟨rfl, ⟨_, info_of Tryz.type82, rfl⟩, by decide, Tryz.isAgg82⟩, ⟨⟨rfl, ⟨_, info_of Tryz.type81, rfl⟩, by decide, Tryz.isAgg81⟩, ⟨⟨rfl, ⟨_, info_of Tryz.type25, rfl⟩, by decide, Tryz.isAgg25⟩, trivial⟩⟩⟩⟩⟩⟩)
def S.td111 : TD := ⟨true, .struct [(0, 1, false), (1, 1, false), (2, 1, false), (3, 1, false), (4, 1, false), (5, 3, true)], 8, 128, true, [.int Go.IntKind.i64 0, .int Go.IntKind.i64 0, .nils, .nils, .nils, .int Go.IntKind.i64 0, .int Go.IntKind.i64 0, .nils]⟩
theorem S.tk111 : TDok Tryz.prog 111 S.td111 := td_struct (zs := [Go.Value.int Go.IntKind.i64 0, Go.Value.int Go.IntKind.i64 0, Go.Value.slice none 0 0, Go.Value.slice none 0 0, Go.Value.slice none 0 0, Go.Value.int Go.IntKind.i64 0, Go.Value.int Go.IntKind.i64 0, Go.Value.slice none 0 0]) (info_of Tryz.type111) rfl rfl rfl rfl rfl rfl Tryz.isAgg111 Tryz.underlying111 (⟨⟨rfl, ⟨_, info_of Tryz.type3, rfl⟩, by decide, Tryz.isAgg3⟩, ⟨⟨rfl, ⟨_, info_of Tryz.type2, rfl⟩, by decide, Tryz.isAgg2⟩, ⟨⟨rfl, ⟨_, info_of Tryz.type81, rfl⟩, by decide, Tryz.isAgg81⟩, ⟨⟨rfl, ⟨_, info_of Tryz.type82, rfl⟩, by decide, Tryz.isAgg82⟩, ⟨⟨rfl, ⟨_, info_of Tryz.type81, rfl⟩, by decide, Tryz.isAgg81⟩, ⟨⟨rfl, ⟨_, info_of Tryz.type25, rfl⟩, by decide, Tryz.isAgg25⟩, trivial⟩⟩⟩⟩⟩⟩)
def S.td112 : TD := ⟨true, .other, 1, 8, false, [.raw (Go.Value.nilFunc)]⟩
theorem S.tk112 : TDok Tryz.prog 112 S.td112 := td_raw (info_of Tryz.type112) rfl rfl rfl rfl rfl Tryz.isAgg112
def S.td113 : TD := ⟨true, .other, 1, 8, false, [.raw (Go.Value.nilFunc)]⟩
theorem S.tk113 : TDok Tryz.prog 113 S.td113 := td_raw (info_of Tryz.type113) rfl rfl rfl rfl rfl Tryz.isAgg113
def S.td114 : TD := ⟨true, .other, 1, 8, false, [.raw (Go.Value.nilFunc)]⟩
theorem S.tk114 : TDok Tryz.prog 114 S.td114 := td_raw (info_of Tryz.type114) rfl rfl rfl rfl rfl Tryz.isAgg114
def S.td115 : TD := ⟨true, .other, 1, 8, false, [.raw (Go.Value.nilFunc)]⟩
theorem S.tk115 : TDok Tryz.prog 115 S.td115 := td_raw (info_of Tryz.type115) rfl rfl rfl rfl rfl Tryz.isAgg115
def S.td116 : TD := ⟨true, .other, 1, 8, false, [.raw (Go.Value.nilFunc)]⟩
theorem S.tk116 : TDok Tryz.prog 116 S.td116 := td_raw (info_of Tryz.type116) rfl rfl rfl rfl rfl Tryz.isAgg116
def S.td117 : TD := ⟨true, .other, 1, 8, false, [.raw (Go.Value.nilFunc)]⟩
theorem S.tk117 : TDok Tryz.prog 117 S.td117 := td_raw (info_of Tryz.type117) rfl rfl rfl rfl rfl Tryz.isAgg117
def S.td118 : TD := ⟨true, .other, 1, 8, false, [.raw (Go.Value.nilFunc)]⟩
theorem S.tk118 : TDok Tryz.prog 118 S.td118 := td_raw (info_of Tryz.type118) rfl rfl rfl rfl rfl Tryz.isAgg118
def S.td119 : TD := ⟨true, .other, 1, 8, false, [.raw (Go.Value.nilFunc)]⟩
theorem S.tk119 : TDok Tryz.prog 119 S.td119 := td_raw (info_of Tryz.type119) rfl rfl rfl rfl rfl Tryz.isAgg119
def S.td120 : TD := ⟨true, .other, 1, 8, false, [.raw (Go.Value.nilFunc)]⟩
theorem S.tk120 : TDok Tryz.prog 120 S.td120 := td_raw (info_of Tryz.type120) rfl rfl rfl rfl rfl Tryz.isAgg120
def S.td121 : TD := ⟨true, .other, 1, 8, false, [.raw (Go.Value.nilFunc)]⟩
theorem S.tk121 : TDok Tryz.prog 121 S.td121 := td_raw (info_of Tryz.type121) rfl rfl rfl rfl rfl Tryz.isAgg121
def S.td122 : TD := ⟨true, .other, 1, 8, false, [.raw (Go.Value.nilFunc)]⟩
theorem S.tk122 : TDok Tryz.prog 122 S.td122 := td_raw (info_of Tryz.type122) rfl rfl rfl rfl rfl Tryz.isAgg122
def S.td123 : TD := ⟨true, .slice 127, 1, 24, false, [.nils]⟩
theorem S.tk123 : TDok Tryz.prog 123 S.td123 := td_slice (info_of Tryz.type123) rfl rfl rfl Tryz.isAgg123 Tryz.underlying123
def S.td125 : TD := ⟨true, .other, 1, 8, false, [.raw (Go.Value.nilFunc)]⟩
theorem S.tk125 : TDok Tryz.prog 125 S.td125 := td_raw (info_of Tryz.type125) rfl rfl rfl rfl rfl Tryz.isAgg125
def S.td126 : TD := ⟨true, .struct [(0, 1, false), (1, 1, false), (2, 1, false)], 3, 32, true, [.int Go.IntKind.i64 0, .str (ByteArray.mk #[]), .int Go.IntKind.i64 0]⟩
theorem S.tk126 : TDok Tryz.prog 126 S.td126 := td_struct (zs := [Go.Value.int Go.IntKind.i64 0, Go.Value.string { data := #[] }, Go.Value.int Go.IntKind.i64 0]) (info_of Tryz.type126) rfl rfl rfl rfl rfl rfl Tryz.isAgg126 Tryz.underlying126 (⟨⟨rfl, ⟨_, info_of Tryz.type3, rfl⟩, by decide, Tryz.isAgg3⟩, ⟨⟨rfl, ⟨_, info_of Tryz.type9, rfl⟩, by decide, Tryz.isAgg9⟩, ⟨⟨rfl, ⟨_, info_of Tryz.type3, rfl⟩, by decide, Tryz.isAgg3⟩, trivial⟩⟩⟩)
def S.td127 : TD := ⟨true, .struct [(0, 1, false), (1, 1, false), (2, 1, false)], 3, 32, true, [.int Go.IntKind.i64 0, .str (ByteArray.mk #[]), .int Go.IntKind.i64 0]⟩
theorem S.tk127 : TDok Tryz.prog 127 S.td127 := td_struct (zs := [Go.Value.int Go.IntKind.i64 0, Go.Value.string { data := #[] }, Go.Value.int Go.IntKind.i64 0]) (info_of Tryz.type127) rfl rfl rfl rfl rfl rfl Tryz.isAgg127 Tryz.underlying127 (⟨⟨rfl, ⟨_, info_of Tryz.type3, rfl⟩, by decide, Tryz.isAgg3⟩, ⟨⟨rfl, ⟨_, info_of Tryz.type9, rfl⟩, by decide, Tryz.isAgg9⟩, ⟨⟨rfl, ⟨_, info_of Tryz.type3, rfl⟩, by decide, Tryz.isAgg3⟩, trivial⟩⟩⟩)
def S.td129 : TD := ⟨true, .other, 1, 8, false, [.raw (Go.Value.nilFunc)]⟩
theorem S.tk129 : TDok Tryz.prog 129 S.td129 := td_raw (info_of Tryz.type129) rfl rfl rfl rfl rfl Tryz.isAgg129
def S.td130 : TD := ⟨true, .other, 1, 8, false, [.raw (Go.Value.nilFunc)]⟩
theorem S.tk130 : TDok Tryz.prog 130 S.td130 := td_raw (info_of Tryz.type130) rfl rfl rfl rfl rfl Tryz.isAgg130
def S.td131 : TD := ⟨true, .other, 1, 8, false, [.raw (Go.Value.nilFunc)]⟩
theorem S.tk131 : TDok Tryz.prog 131 S.td131 := td_raw (info_of Tryz.type131) rfl rfl rfl rfl rfl Tryz.isAgg131
def S.td132 : TD := ⟨true, .other, 1, 8, false, [.raw (Go.Value.nilFunc)]⟩
theorem S.tk132 : TDok Tryz.prog 132 S.td132 := td_raw (info_of Tryz.type132) rfl rfl rfl rfl rfl Tryz.isAgg132
def S.td133 : TD := ⟨true, .slice 50, 1, 24, false, [.nils]⟩
theorem S.tk133 : TDok Tryz.prog 133 S.td133 := td_slice (info_of Tryz.type133) rfl rfl rfl Tryz.isAgg133 Tryz.underlying133
def S.td134 : TD := ⟨true, .other, 1, 8, false, [.raw (Go.Value.nilFunc)]⟩
theorem S.tk134 : TDok Tryz.prog 134 S.td134 := td_raw (info_of Tryz.type134) rfl rfl rfl rfl rfl Tryz.isAgg134
def S.td135 : TD := ⟨true, .other, 1, 8, false, [.raw (Go.Value.nilFunc)]⟩
theorem S.tk135 : TDok Tryz.prog 135 S.td135 := td_raw (info_of Tryz.type135) rfl rfl rfl rfl rfl Tryz.isAgg135
def S.td136 : TD := ⟨true, .other, 1, 8, false, [.raw (Go.Value.nilFunc)]⟩
theorem S.tk136 : TDok Tryz.prog 136 S.td136 := td_raw (info_of Tryz.type136) rfl rfl rfl rfl rfl Tryz.isAgg136
def S.td138 : TD := ⟨true, .other, 1, 8, false, [.raw (Go.Value.nilFunc)]⟩
theorem S.tk138 : TDok Tryz.prog 138 S.td138 := td_raw (info_of Tryz.type138) rfl rfl rfl rfl rfl Tryz.isAgg138
def S.td139 : TD := ⟨true, .other, 1, 8, false, [.raw (Go.Value.nilFunc)]⟩
theorem S.tk139 : TDok Tryz.prog 139 S.td139 := td_raw (info_of Tryz.type139) rfl rfl rfl rfl rfl Tryz.isAgg139
def S.td140 : TD := ⟨true, .slice 143, 1, 24, false, [.nils]⟩
theorem S.tk140 : TDok Tryz.prog 140 S.td140 := td_slice (info_of Tryz.type140) rfl rfl rfl Tryz.isAgg140 Tryz.underlying140
def S.td142 : TD := ⟨true, .other, 1, 8, false, [.raw (Go.Value.nilFunc)]⟩
theorem S.tk142 : TDok Tryz.prog 142 S.td142 := td_raw (info_of Tryz.type142) rfl rfl rfl rfl rfl Tryz.isAgg142
def S.td143 : TD := ⟨true, .struct [(0, 1, false), (1, 1, false), (2, 1, false)], 3, 32, true, [.int Go.IntKind.i64 0, .str (ByteArray.mk #[]), .int Go.IntKind.i64 0]⟩
theorem S.tk143 : TDok Tryz.prog 143 S.td143 := td_struct (zs := [Go.Value.int Go.IntKind.i64 0, Go.Value.string { data := #[] }, Go.Value.int Go.IntKind.i64 0]) (info_of Tryz.type143) rfl rfl rfl rfl rfl rfl Tryz.isAgg143 Tryz.underlying143 (⟨⟨rfl, ⟨_, info_of Tryz.type3, rfl⟩, by decide, Tryz.isAgg3⟩, ⟨⟨rfl, ⟨_, info_of Tryz.type9, rfl⟩, by decide, Tryz.isAgg9⟩, ⟨⟨rfl, ⟨_, info_of Tryz.type3, rfl⟩, by decide, Tryz.isAgg3⟩, trivial⟩⟩⟩)
def S.td144 : TD := ⟨true, .other, 1, 8, false, [.raw (Go.Value.nilFunc)]⟩
theorem S.tk144 : TDok Tryz.prog 144 S.td144 := td_raw (info_of Tryz.type144) rfl rfl rfl rfl rfl Tryz.isAgg144
def S.td145 : TD := ⟨true, .other, 1, 8, false, [.raw (Go.Value.nilFunc)]⟩
theorem S.tk145 : TDok Tryz.prog 145 S.td145 := td_raw (info_of Tryz.type145) rfl rfl rfl rfl rfl Tryz.isAgg145
def S.td146 : TD := ⟨true, .other, 1, 8, false, [.raw (Go.Value.nilFunc)]⟩
theorem S.tk146 : TDok Tryz.prog 146 S.td146 := td_raw (info_of Tryz.type146) rfl rfl rfl rfl rfl Tryz.isAgg146
def S.td147 : TD := ⟨true, .other, 1, 8, false, [.raw (Go.Value.nilFunc)]⟩
theorem S.tk147 : TDok Tryz.prog 147 S.td147 := td_raw (info_of Tryz.type147) rfl rfl rfl rfl rfl Tryz.isAgg147
def S.td148 : TD := ⟨true, .other, 1, 8, false, [.raw (Go.Value.nilFunc)]⟩
theorem S.tk148 : TDok Tryz.prog 148 S.td148 := td_raw (info_of Tryz.type148) rfl rfl rfl rfl rfl Tryz.isAgg148
def S.td149 : TD := ⟨true, .other, 1, 8, false, [.raw (Go.Value.nilFunc)]⟩
theorem S.tk149 : TDok Tryz.prog 149 S.td149 := td_raw (info_of Tryz.type149) rfl rfl rfl rfl rfl Tryz.isAgg149
def S.td150 : TD := ⟨true, .other, 1, 8, false, [.raw (Go.Value.nilFunc)]⟩
theorem S.tk150 : TDok Tryz.prog 150 S.td150 := td_raw (info_of Tryz.type150) rfl rfl rfl rfl rfl Tryz.isAgg150
def S.td151 : TD := ⟨true, .other, 1, 8, false, [.raw (Go.Value.nilFunc)]⟩
theorem S.tk151 : TDok Tryz.prog 151 S.td151 := td_raw (info_of Tryz.type151) rfl rfl rfl rfl rfl Tryz.isAgg151
def S.td153 : TD := ⟨true, .other, 1, 8, false, [.raw (Go.Value.nilFunc)]⟩
theorem S.tk153 : TDok Tryz.prog 153 S.td153 := td_raw (info_of Tryz.type153) rfl rfl rfl rfl rfl Tryz.isAgg153
def S.td154 : TD := ⟨true, .other, 1, 8, false, [.raw (Go.Value.nilFunc)]⟩
theorem S.tk154 : TDok Tryz.prog 154 S.td154 := td_raw (info_of Tryz.type154) rfl rfl rfl rfl rfl Tryz.isAgg154
def S.td155 : TD := ⟨true, .other, 1, 8, false, [.raw (Go.Value.nilFunc)]⟩
theorem S.tk155 : TDok Tryz.prog 155 S.td155 := td_raw (info_of Tryz.type155) rfl rfl rfl rfl rfl Tryz.isAgg155
def S.td156 : TD := ⟨true, .other, 1, 8, false, [.raw (Go.Value.nilFunc)]⟩
theorem S.tk156 : TDok Tryz.prog 156 S.td156 := td_raw (info_of Tryz.type156) rfl rfl rfl rfl rfl Tryz.isAgg156
def S.td157 : TD := ⟨true, .other, 1, 8, false, [.raw (Go.Value.nilFunc)]⟩
theorem S.tk157 : TDok Tryz.prog 157 S.td157 := td_raw (info_of Tryz.type157) rfl rfl rfl rfl rfl Tryz.isAgg157
def S.td158 : TD := ⟨true, .other, 1, 8, false, [.raw (Go.Value.nilFunc)]⟩
theorem S.tk158 : TDok Tryz.prog 158 S.td158 := td_raw (info_of Tryz.type158) rfl rfl rfl rfl rfl Tryz.isAgg158
def S.td159 : TD := ⟨true, .other, 1, 8, false, [.raw (Go.Value.nilFunc)]⟩
theorem S.tk159 : TDok Tryz.prog 159 S.td159 := td_raw (info_of Tryz.type159) rfl rfl rfl rfl rfl Tryz.isAgg159
def S.td162 : TD := ⟨true, .other, 1, 8, false, [.raw (Go.Value.nilFunc)]⟩
theorem S.tk162 : TDok Tryz.prog 162 S.td162 := td_raw (info_of Tryz.type162) rfl rfl rfl rfl rfl Tryz.isAgg162
def S.td163 : TD := ⟨true, .other, 1, 8, false, [.raw (Go.Value.nilFunc)]⟩
theorem S.tk163 : TDok Tryz.prog 163 S.td163 := td_raw (info_of Tryz.type163) rfl rfl rfl rfl rfl Tryz.isAgg163
def S.td164 : TD := ⟨true, .other, 1, 8, false, [.raw (Go.Value.nilFunc)]⟩
theorem S.tk164 : TDok Tryz.prog 164 S.td164 := td_raw (info_of Tryz.type164) rfl rfl rfl rfl rfl Tryz.isAgg164
def S.td165 : TD := ⟨true, .other, 1, 8, false, [.raw (Go.Value.nilFunc)]⟩
theorem S.tk165 : TDok Tryz.prog 165 S.td165 := td_raw (info_of Tryz.type165) rfl rfl rfl rfl rfl Tryz.isAgg165
def S.td166 : TD := ⟨true, .other, 1, 8, false, [.raw (Go.Value.nilFunc)]⟩
theorem S.tk166 : TDok Tryz.prog 166 S.td166 := td_raw (info_of Tryz.type166) rfl rfl rfl rfl rfl Tryz.isAgg166
def S.td168 : TD := ⟨true, .other, 1, 8, false, [.raw (Go.Value.nilFunc)]⟩
theorem S.tk168 : TDok Tryz.prog 168 S.td168 := td_raw (info_of Tryz.type168) rfl rfl rfl rfl rfl Tryz.isAgg168
def S.td169 : TD := ⟨true, .other, 1, 8, false, [.raw (Go.Value.nilFunc)]⟩
theorem S.tk169 : TDok Tryz.prog 169 S.td169 := td_raw (info_of Tryz.type169) rfl rfl rfl rfl rfl Tryz.isAgg169
def S.td170 : TD := ⟨true, .other, 1, 8, false, [.raw (Go.Value.nilFunc)]⟩
theorem S.tk170 : TDok Tryz.prog 170 S.td170 := td_raw (info_of Tryz.type170) rfl rfl rfl rfl rfl Tryz.isAgg170
def S.td171 : TD := ⟨true, .other, 1, 8, false, [.raw (Go.Value.nilFunc)]⟩
theorem S.tk171 : TDok Tryz.prog 171 S.td171 := td_raw (info_of Tryz.type171) rfl rfl rfl rfl rfl Tryz.isAgg171
def S.td172 : TD := ⟨true, .other, 1, 8, false, [.raw (Go.Value.nilFunc)]⟩
theorem S.tk172 : TDok Tryz.prog 172 S.td172 := td_raw (info_of Tryz.type172) rfl rfl rfl rfl rfl Tryz.isAgg172
def S.td173 : TD := ⟨true, .struct [(0, 1, false), (1, 1, false), (2, 1, false), (3, 1, false)], 4, 40, true, [.raw (Go.Value.pointer none), .raw (Go.Value.pointer none), .raw (Go.Value.pointer none), .str (ByteArray.mk #[])]⟩
theorem S.tk173 : TDok Tryz.prog 173 S.td173 := td_struct (zs := [Go.Value.pointer none, Go.Value.pointer none, Go.Value.pointer none, Go.Value.string { data := #[] }]) (info_of Tryz.type173) rfl rfl rfl rfl rfl rfl Tryz.isAgg173 Tryz.underlying173 (⟨⟨rfl, ⟨_, info_of Tryz.type17, rfl⟩, by decide, Tryz.isAgg17⟩, ⟨⟨rfl, ⟨_, info_of Tryz.type17, rfl⟩, by decide, Tryz.isAgg17⟩, ⟨⟨rfl, ⟨_, info_of Tryz.type17, rfl⟩, by decide, Tryz.isAgg17⟩, ⟨⟨rfl, ⟨_, info_of Tryz.type9, rfl⟩, by decide, Tryz.isAgg9⟩, trivial⟩⟩⟩⟩)
def S.td174 : TD := ⟨true, .struct [(0, 1, false), (1, 1, false), (2, 1, false), (3, 1, false)], 4, 40, true, [.raw (Go.Value.pointer none), .raw (Go.Value.pointer none), .raw (Go.Value.pointer none), .str (ByteArray.mk #[])]⟩
theorem S.tk174 : TDok Tryz.prog 174 S.td174 := td_struct (zs := [Go.Value.pointer none, Go.Value.pointer none, Go.Value.pointer none, Go.Value.string { data := #[] }]) (info_of Tryz.type174) rfl rfl rfl rfl rfl rfl Tryz.isAgg174 Tryz.underlying174 (⟨⟨rfl, ⟨_, info_of Tryz.type17, rfl⟩, by decide, Tryz.isAgg17⟩, ⟨⟨rfl, ⟨_, info_of Tryz.type17, rfl⟩, by decide, Tryz.isAgg17⟩, ⟨⟨rfl, ⟨_, info_of Tryz.type17, rfl⟩, by decide, Tryz.isAgg17⟩, ⟨⟨rfl, ⟨_, info_of Tryz.type9, rfl⟩, by decide, Tryz.isAgg9⟩, trivial⟩⟩⟩⟩)
def S.td178 : TD := ⟨true, .other, 1, 8, false, [.raw (Go.Value.nilFunc)]⟩
theorem S.tk178 : TDok Tryz.prog 178 S.td178 := td_raw (info_of Tryz.type178) rfl rfl rfl rfl rfl Tryz.isAgg178
def S.td179 : TD := ⟨true, .int Go.IntKind.u8, 1, 1, false, [.int Go.IntKind.u8 0]⟩
theorem S.tk179 : TDok Tryz.prog 179 S.td179 := td_int (info_of Tryz.type179) rfl rfl rfl Tryz.isAgg179 Tryz.underlying179
def S.td180 : TD := ⟨true, .int Go.IntKind.u8, 1, 1, false, [.int Go.IntKind.u8 0]⟩
theorem S.tk180 : TDok Tryz.prog 180 S.td180 := td_int (info_of Tryz.type180) rfl rfl rfl Tryz.isAgg180 Tryz.underlying180
def S.td181 : TD := ⟨true, .other, 1, 8, false, [.raw (Go.Value.nilFunc)]⟩
theorem S.tk181 : TDok Tryz.prog 181 S.td181 := td_raw (info_of Tryz.type181) rfl rfl rfl rfl rfl Tryz.isAgg181
def S.td182 : TD := ⟨true, .other, 1, 8, false, [.raw (Go.Value.pointer none)]⟩
theorem S.tk182 : TDok Tryz.prog 182 S.td182 := td_raw (info_of Tryz.type182) rfl rfl rfl rfl rfl Tryz.isAgg182
def S.td183 : TD := ⟨true, .int Go.IntKind.i32, 1, 4, false, [.int Go.IntKind.i32 0]⟩
theorem S.tk183 : TDok Tryz.prog 183 S.td183 := td_int (info_of Tryz.type183) rfl rfl rfl Tryz.isAgg183 Tryz.underlying183
def S.td184 : TD := ⟨true, .int Go.IntKind.i32, 1, 4, false, [.int Go.IntKind.i32 0]⟩
theorem S.tk184 : TDok Tryz.prog 184 S.td184 := td_int (info_of Tryz.type184) rfl rfl rfl Tryz.isAgg184 Tryz.underlying184
def S.td185 : TD := ⟨true, .struct [(0, 1, false), (1, 1, false), (2, 1, false), (3, 1, false), (4, 1, false), (5, 1, false), (6, 1, false), (7, 1, false), (8, 1, false), (9, 1, false), (10, 1, false)], 11, 48, true, [.int Go.IntKind.u64 0, .int Go.IntKind.u64 0, .int Go.IntKind.u32 0, .int Go.IntKind.u8 0, .int Go.IntKind.u8 0, .int Go.IntKind.u8 0, .int Go.IntKind.u8 0, .raw (Go.Value.nilFunc), .raw (Go.Value.pointer none), .int Go.IntKind.i32 0, .int Go.IntKind.i32 0]⟩
theorem S.tk185 : TDok Tryz.prog 185 S.td185 := td_struct (zs := [Go.Value.int Go.IntKind.u64 0, Go.Value.int Go.IntKind.u64 0, Go.Value.int Go.IntKind.u32 0, Go.Value.int Go.IntKind.u8 0, Go.Value.int Go.IntKind.u8 0, Go.Value.int Go.IntKind.u8 0, Go.Value.int Go.IntKind.u8 0, Go.Value.nilFunc, Go.Value.pointer none, Go.Value.int Go.IntKind.i32 0, Go.Value.int Go.IntKind.i32 0]) (info_of Tryz.type185) rfl rfl rfl rfl rfl rfl Tryz.isAgg185 Tryz.underlying185 (⟨⟨rfl, ⟨_, info_of Tryz.type12, rfl⟩, by decide, Tryz.isAgg12⟩, ⟨⟨rfl, ⟨_, info_of Tryz.type12, rfl⟩, by decide, Tryz.isAgg12⟩, ⟨⟨rfl, ⟨_, info_of Tryz.type78, rfl⟩, by decide, Tryz.isAgg78⟩, ⟨⟨rfl, ⟨_, info_of Tryz.type179, rfl⟩, by decide, Tryz.isAgg179⟩, ⟨⟨rfl, ⟨_, info_of Tryz.type5, rfl⟩, by decide, Tryz.isAgg5⟩, ⟨⟨rfl, ⟨_, info_of Tryz.type5, rfl⟩, by decide, Tryz.isAgg5⟩, ⟨⟨rfl, ⟨_, info_of Tryz.type180, rfl⟩, by decide, Tryz.isAgg180⟩, ⟨⟨rfl, ⟨_, info_of Tryz.type181, rfl⟩, by decide, Tryz.isAgg181⟩, ⟨⟨rfl, ⟨_, info_of Tryz.type182, rfl⟩, by decide, Tryz.isAgg182⟩, ⟨⟨rfl, ⟨_, info_of Tryz.type183, rfl⟩, by decide, Tryz.isAgg183⟩, ⟨⟨rfl, ⟨_, info_of Tryz.type184, rfl⟩, by decide, Tryz.isAgg184⟩, trivial⟩⟩⟩⟩⟩⟩⟩⟩⟩⟩⟩)
def S.td186 : TD := ⟨true, .struct [(0, 1, false), (1, 1, false), (2, 1, false), (3, 1, false), (4, 1, false), (5, 1, false), (6, 1, false), (7, 1, false), (8, 1, false), (9, 1, false), (10, 1, false)], 11, 48, true, [.int Go.IntKind.u64 0, .int Go.IntKind.u64 0, .int Go.IntKind.u32 0, .int Go.IntKind.u8 0, .int Go.IntKind.u8 0, .int Go.IntKind.u8 0, .int Go.IntKind.u8 0, .raw (Go.Value.nilFunc), .raw (Go.Value.pointer none), .int Go.IntKind.i32 0, .int Go.IntKind.i32 0]⟩
theorem S.tk186 : TDok Tryz.prog 186 S.td186 := td_struct (zs := [Go.Value.int Go.IntKind.u64 0, Go.Value.int Go.IntKind.u64 0, Go.Value.int Go.IntKind.u32 0, Go.Value.int Go.IntKind.u8 0, Go.Value.int Go.IntKind.u8 0, Go.Value.int Go.IntKind.u8 0, Go.Value.int Go.IntKind.u8 0, Go.Value.nilFunc, Go.Value.pointer none, Go.Value.int Go.IntKind.i32 0, Go.Value.int Go.IntKind.i32 0]) (info_of Tryz.type186) rfl rfl rfl rfl rfl rfl Tryz.isAgg186 Tryz.underlying186 (⟨⟨rfl, ⟨_, info_of Tryz.type12, rfl⟩, by decide, Tryz.isAgg12⟩, ⟨⟨rfl, ⟨_, info_of Tryz.type12, rfl⟩, by decide, Tryz.isAgg12⟩, ⟨⟨rfl, ⟨_, info_of Tryz.type78, rfl⟩, by decide, Tryz.isAgg78⟩, ⟨⟨rfl, ⟨_, info_of Tryz.type179, rfl⟩, by decide, Tryz.isAgg179⟩, ⟨⟨rfl, ⟨_, info_of Tryz.type5, rfl⟩, by decide, Tryz.isAgg5⟩, ⟨⟨rfl, ⟨_, info_of Tryz.type5, rfl⟩, by decide, Tryz.isAgg5⟩, ⟨⟨rfl, ⟨_, info_of Tryz.type180, rfl⟩, by decide, Tryz.isAgg180⟩, ⟨⟨rfl, ⟨_, info_of Tryz.type181, rfl⟩, by decide, Tryz.isAgg181⟩, ⟨⟨rfl, ⟨_, info_of Tryz.type182, rfl⟩, by decide, Tryz.isAgg182⟩, ⟨⟨rfl, ⟨_, info_of Tryz.type183, rfl⟩, by decide, Tryz.isAgg183⟩, ⟨⟨rfl, ⟨_, info_of Tryz.type184, rfl⟩, by decide, Tryz.isAgg184⟩, trivial⟩⟩⟩⟩⟩⟩⟩⟩⟩⟩⟩)
def S.tree : TTree := (.node 88 S.td88 (.node 44 S.td44 (.node 22 S.td22 (.node 11 S.td11 (.node 6 S.td6 (.node 3 S.td3 (.node 2 S.td2 (.node 1 S.td1 .leaf .leaf) .leaf) (.node 5 S.td5 (.node 4 S.td4 .leaf .leaf) .leaf)) (.node 9 S.td9 (.node 8 S.td8 (.node 7 S.td7 .leaf .leaf) .leaf) (.node 10 S.td10 .leaf .leaf))) (.node 17 S.td17 (.node 14 S.td14 (.node 13 S.td13 (.node 12 S.td12 .leaf .leaf) .leaf) (.node 16 S.td16 (.node 15 S.td15 .leaf .leaf) .leaf)) (.node 20 S.td20 (.node 19 S.td19 (.node 18 S.td18 .leaf .leaf) .leaf) (.node 21 S.td21 .leaf .leaf)))) (.node 34 S.td34 (.node 28 S.td28 (.node 25 S.td25 (.node 24 S.td24 (.node 23 S.td23 .leaf .leaf) .leaf) (.node 27 S.td27 (.node 26 S.td26 .leaf .leaf) .leaf)) (.node 32 S.td32 (.node 30 S.td30 (.node 29 S.td29 .leaf .leaf) .leaf) (.node 33 S.td33 .leaf .leaf))) (.node 39 S.td39 (.node 37 S.td37 (.node 36 S.td36 (.node 35 S.td35 .leaf .leaf) .leaf) (.node 38 S.td38 .leaf .leaf)) (.node 42 S.td42 (.node 41 S.td41 (.node 40 S.td40 .leaf .leaf) .leaf) (.node 43 S.td43 .leaf .leaf))))) (.node 67 S.td67 (.node 56 S.td56 (.node 50 S.td50 (.node 47 S.td47 (.node 46 S.td46 (.node 45 S.td45 .leaf .leaf) .leaf) (.node 49 S.td49 (.node 48 S.td48 .leaf .leaf) .leaf)) (.node 54 S.td54 (.node 53 S.td53 (.node 52 S.td52 .leaf .leaf) .leaf) (.node 55 S.td55 .leaf .leaf))) (.node 62 S.td62 (.node 59 S.td59 (.node 58 S.td58 (.node 57 S.td57 .leaf .leaf) .leaf) (.node 61 S.td61 (.node 60 S.td60 .leaf .leaf) .leaf)) (.node 65 S.td65 (.node 64 S.td64 (.node 63 S.td63 .leaf .leaf) .leaf) (.node 66 S.td66 .leaf .leaf)))) (.node 78 S.td78 (.node 73 S.td73 (.node 70 S.td70 (.node 69 S.td69 (.node 68 S.td68 .leaf .leaf) .leaf) (.node 72 S.td72 (.node 71 S.td71 .leaf .leaf) .leaf)) (.node 76 S.td76 (.node 75 S.td75 (.node 74 S.td74 .leaf .leaf) .leaf) (.node 77 S.td77 .leaf .leaf))) (.node 83 S.td83 (.node 81 S.td81 (.node 80 S.td80 (.node 79 S.td79 .leaf .leaf) .leaf) (.node 82 S.td82 .leaf .leaf)) (.node 86 S.td86 (.node 85 S.td85 (.node 84 S.td84 .leaf .leaf) .leaf) (.node 87 S.td87 .leaf .leaf)))))) (.node 136 S.td136 (.node 113 S.td113 (.node 101 S.td101 (.node 95 S.td95 (.node 92 S.td92 (.node 91 S.td91 (.node 89 S.td89 .leaf .leaf) .leaf) (.node 94 S.td94 (.node 93 S.td93 .leaf .leaf) .leaf)) (.node 98 S.td98 (.node 97 S.td97 (.node 96 S.td96 .leaf .leaf) .leaf) (.node 99 S.td99 .leaf .leaf))) (.node 108 S.td108 (.node 104 S.td104 (.node 103 S.td103 (.node 102 S.td102 .leaf .leaf) .leaf) (.node 107 S.td107 (.node 106 S.td106 .leaf .leaf) .leaf)) (.node 111 S.td111 (.node 110 S.td110 (.node 109 S.td109 .leaf .leaf) .leaf) (.node 112 S.td112 .leaf .leaf)))) (.node 125 S.td125 (.node 119 S.td119 (.node 116 S.td116 (.node 115 S.td115 (.node 114 S.td114 .leaf .leaf) .leaf) (.node 118 S.td118 (.node 117 S.td117 .leaf .leaf) .leaf)) (.node 122 S.td122 (.node 121 S.td121 (.node 120 S.td120 .leaf .leaf) .leaf) (.node 123 S.td123 .leaf .leaf))) (.node 131 S.td131 (.node 129 S.td129 (.node 127 S.td127 (.node 126 S.td126 .leaf .leaf) .leaf) (.node 130 S.td130 .leaf .leaf)) (.node 134 S.td134 (.node 133 S.td133 (.node 132 S.td132 .leaf .leaf) .leaf) (.node 135 S.td135 .leaf .leaf))))) (.node 162 S.td162 (.node 149 S.td149 (.node 144 S.td144 (.node 140 S.td140 (.node 139 S.td139 (.node 138 S.td138 .leaf .leaf) .leaf) (.node 143 S.td143 (.node 142 S.td142 .leaf .leaf) .leaf)) (.node 147 S.td147 (.node 146 S.td146 (.node 145 S.td145 .leaf .leaf) .leaf) (.node 148 S.td148 .leaf .leaf))) (.node 155 S.td155 (.node 153 S.td153 (.node 151 S.td151 (.node 150 S.td150 .leaf .leaf) .leaf) (.node 154 S.td154 .leaf .leaf)) (.node 158 S.td158 (.node 157 S.td157 (.node 156 S.td156 .leaf .leaf) .leaf) (.node 159 S.td159 .leaf .leaf)))) (.node 174 S.td174 (.node 169 S.td169 (.node 165 S.td165 (.node 164 S.td164 (.node 163 S.td163 .leaf .leaf) .leaf) (.node 168 S.td168 (.node 166 S.td166 .leaf .leaf) .leaf)) (.node 172 S.td172 (.node 171 S.td171 (.node 170 S.td170 .leaf .leaf) .leaf) (.node 173 S.td173 .leaf .leaf))) (.node 182 S.td182 (.node 180 S.td180 (.node 179 S.td179 (.node 178 S.td178 .leaf .leaf) .leaf) (.node 181 S.td181 .leaf .leaf)) (.node 185 S.td185 (.node 184 S.td184 (.node 183 S.td183 .leaf .leaf) .leaf) (.node 186 S.td186 .leaf .leaf)))))))
theorem S.tall : TAll Tryz.prog S.tree := ⟨S.tk88, ⟨S.tk44, ⟨S.tk22, ⟨S.tk11, ⟨S.tk6, ⟨S.tk3, ⟨S.tk2, ⟨S.tk1, trivial, trivial⟩, trivial⟩, ⟨S.tk5, ⟨S.tk4, trivial, trivial⟩, trivial⟩⟩, ⟨S.tk9, ⟨S.tk8, ⟨S.tk7, trivial, trivial⟩, trivial⟩, ⟨S.tk10, trivial, trivial⟩⟩⟩, ⟨S.tk17, ⟨S.tk14, ⟨S.tk13, ⟨S.tk12, trivial, trivial⟩, trivial⟩, ⟨S.tk16, ⟨S.tk15, trivial, trivial⟩, trivial⟩⟩, ⟨S.tk20, ⟨S.tk19, ⟨S.tk18, trivial, trivial⟩, trivial⟩, ⟨S.tk21, trivial, trivial⟩⟩⟩⟩, ⟨S.tk34, ⟨S.tk28, ⟨S.tk25, ⟨S.tk24, ⟨S.tk23, trivial, trivial⟩, trivial⟩, ⟨S.tk27, ⟨S.tk26, trivial, trivial⟩, trivial⟩⟩, ⟨S.tk32, ⟨S.tk30, ⟨S.tk29, trivial, trivial⟩, trivial⟩, ⟨S.tk33, trivial, trivial⟩⟩⟩, ⟨S.tk39, ⟨S.tk37, ⟨S.tk36, ⟨S.tk35, trivial, trivial⟩, trivial⟩, ⟨S.tk38, trivial, trivial⟩⟩, ⟨S.tk42, ⟨S.tk41, ⟨S.tk40, trivial, trivial⟩, trivial⟩, ⟨S.tk43, trivial, trivial⟩⟩⟩⟩⟩, ⟨S.tk67, ⟨S.tk56, ⟨S.tk50, ⟨S.tk47, ⟨S.tk46, ⟨S.tk45, trivial, trivial⟩, trivial⟩, ⟨S.tk49, ⟨S.tk48, trivial, trivial⟩, trivial⟩⟩, ⟨S.tk54, ⟨S.tk53, ⟨S.tk52, trivial, trivial⟩, trivial⟩, ⟨S.tk55, trivial, trivial⟩⟩⟩, ⟨S.tk62, ⟨S.tk59, ⟨S.tk58, ⟨S.tk57, trivial, trivial⟩, trivial⟩, ⟨S.tk61, ⟨S.tk60, trivial, trivial⟩, trivial⟩⟩, ⟨S.tk65, ⟨S.tk64, ⟨S.tk63, trivial, trivial⟩, trivial⟩, ⟨S.tk66, trivial, trivial⟩⟩⟩⟩, ⟨S.tk78, ⟨S.tk73, ⟨S.tk70, ⟨S.tk69, ⟨S.tk68, trivial, trivial⟩, trivial⟩, ⟨S.tk72, ⟨S.tk71, trivial, trivial⟩, trivial⟩⟩, ⟨S.tk76, ⟨S.tk75, ⟨S.tk74, trivial, trivial⟩, trivial⟩, ⟨S.tk77, trivial, trivial⟩⟩⟩, ⟨S.tk83, ⟨S.tk81, ⟨S.tk80, ⟨S.tk79, trivial, trivial⟩, trivial⟩, ⟨S.tk82, trivial, trivial⟩⟩, ⟨S.tk86, ⟨S.tk85, ⟨S.tk84, trivial, trivial⟩, trivial⟩, ⟨S.tk87, trivial, trivial⟩⟩⟩⟩⟩⟩, ⟨S.tk136, ⟨S.tk113, ⟨S.tk101, ⟨S.tk95, ⟨S.tk92, ⟨S.tk91, ⟨S.tk89, trivial, trivial⟩, trivial⟩, ⟨S.tk94, ⟨S.tk93, trivial, trivial⟩, trivial⟩⟩, ⟨S.tk98, ⟨S.tk97, ⟨S.tk96, trivial, trivial⟩, trivial⟩, ⟨S.tk99, trivial, trivial⟩⟩⟩, ⟨S.tk108, ⟨S.tk104, ⟨S.tk103, ⟨S.tk102, trivial, trivial⟩, trivial⟩, ⟨S.tk107, ⟨S.tk106, trivial, trivial⟩, trivial⟩⟩, ⟨S.tk111, ⟨S.tk110, ⟨S.tk109, trivial, trivial⟩, trivial⟩, ⟨S.tk112, trivial, trivial⟩⟩⟩⟩, ⟨S.tk125, ⟨S.tk119, ⟨S.tk116, ⟨S.tk115, ⟨S.tk114, trivial, trivial⟩, trivial⟩, ⟨S.tk118, ⟨S.tk117, trivial, trivial⟩, trivial⟩⟩, ⟨S.tk122, ⟨S.tk121, ⟨S.tk120, trivial, trivial⟩, trivial⟩, ⟨S.tk123, trivial, trivial⟩⟩⟩, ⟨S.tk131, ⟨S.tk129, ⟨S.tk127, ⟨S.tk126, trivial, trivial⟩, trivial⟩, ⟨S.tk130, trivial, trivial⟩⟩, ⟨S.tk134, ⟨S.tk133, ⟨S.tk132, trivial, trivial⟩, trivial⟩, ⟨S.tk135, trivial, trivial⟩⟩⟩⟩⟩, ⟨S.tk162, ⟨S.tk149, ⟨S.tk144, ⟨S.tk140, ⟨S.tk139, ⟨S.tk138, trivial, trivial⟩, trivial⟩, ⟨S.tk143, ⟨S.tk142, trivial, trivial⟩, trivial⟩⟩, ⟨S.tk147, ⟨S.tk146, ⟨S.tk145, trivial, trivial⟩, trivial⟩, ⟨S.tk148, trivial, trivial⟩⟩⟩, ⟨S.tk155, ⟨S.tk153, ⟨S.tk151, ⟨S.tk150, trivial, trivial⟩, trivial⟩, ⟨S.tk154, trivial, trivial⟩⟩, ⟨S.tk158, ⟨S.tk157, ⟨S.tk156, trivial, trivial⟩, trivial⟩, ⟨S.tk159, trivial, trivial⟩⟩⟩⟩, ⟨S.tk174, ⟨S.tk169, ⟨S.tk165, ⟨S.tk164, ⟨S.tk163, trivial, trivial⟩, trivial⟩, ⟨S.tk168, ⟨S.tk166, trivial, trivial⟩, trivial⟩⟩, ⟨S.tk172, ⟨S.tk171, ⟨S.tk170, trivial, trivial⟩, trivial⟩, ⟨S.tk173, trivial, trivial⟩⟩⟩, ⟨S.tk182, ⟨S.tk180, ⟨S.tk179, ⟨S.tk178, trivial, trivial⟩, trivial⟩, ⟨S.tk181, trivial, trivial⟩⟩, ⟨S.tk185, ⟨S.tk184, ⟨S.tk183, trivial, trivial⟩, trivial⟩, ⟨S.tk186, trivial, trivial⟩⟩⟩⟩⟩⟩⟩
def S.te : TE := fun t => tlook S.tree t
theorem S.teOk : ∀ t, TDok Tryz.prog t (S.te t) := tlook_ok S.tall
noncomputable def S.E (m : Nat) : Env := ⟨Tryz.prog, S.te, S.teOk, m⟩
end Go.AM

set_option linter.all false
namespace Go.AM
open Go.Proofs

theorem fol : Tryz.prog.follows .mixedOrders = true := by kernel_rfl

/-- A value of the language under study. -/
inductive V where | mk (k n : Int) (kids : List V)
mutual
def V.pv : V → PV | .mk k n ks => .agg [.int .i64 k, .int .i64 n, .lst 3 (V.pvL ks)]
def V.pvL : List V → List PV | [] => [] | v :: l => v.pv :: V.pvL l
end
/-- A value's tree, laid open. -/
abbrev V.ag (k n : Int) (ks : List V) : PV := .agg [.int .i64 k, .int .i64 n, .lst 3 (V.pvL ks)]
theorem V.pv_mk (k n : Int) (ks : List V) : V.pv (.mk k n ks) = V.ag k n ks := by rw [V.pv]
theorem V.pvL_eq (l : List V) : V.pvL l = l.map V.pv := by induction l <;> simp_all [V.pvL]
theorem V.pvL_len (l : List V) : (V.pvL l).length = l.length := by simp [V.pvL_eq]
theorem V.get_pvL {l : List V} {i : Nat} (h : i < l.length) : ∃ v, v ∈ l ∧ (V.pvL l)[i]? = some v.pv ∧ l[i]? = some v ∧ l.drop i = v :: l.drop (i + 1) :=
  ⟨l[i], by simp, by simp [V.pvL_eq, h], by simp [h], (List.drop_eq_getElem_cons h)⟩
theorem V.lenle {k n : Int} {ks : List V} (h : wf (V.ag k n ks)) : ks.length ≤ 9223372036854775807 := by
  have := h.2.2.1.1; rwa [V.pvL_len] at this

mutual
/-- Nodes, as counted in 64 bits. -/
def V.nod : V → Int | .mk _ _ ks => V.nodL 1 ks
def V.nodL (a : Int) : List V → Int | [] => a | v :: l => V.nodL (IntKind.wrap .i64 (a + v.nod)) l
end
/-- A leaf's kind. -/
def V.leafK (k : Int) : Bool := decide (k = 6) || decide (k = 7) || decide (k = 8)
mutual
def V.siz : V → Int | .mk k _ ks => if V.leafK k then 1 else V.sizL 1 ks
def V.sizL (a : Int) : List V → Int | [] => a | v :: l => V.sizL (IntKind.wrap .i64 (a + v.siz)) l
end
mutual
/-- The guard: at most so many nodes. -/
def V.val : V → Int → Bool × Int
  | .mk _ _ ks, n => if IntKind.wrap .i64 (n - 1) < 0 then (false, IntKind.wrap .i64 (n - 1)) else V.valL ks (IntKind.wrap .i64 (n - 1))
def V.valL : List V → Int → Bool × Int
  | [], n => (true, n)
  | v :: l, n => match V.val v n with | (true, n') => V.valL l n' | (false, n') => (false, n')
end
theorem V.recOn' {p : V → Prop} (h : ∀ k n ks, (∀ v ∈ ks, p v) → p (.mk k n ks)) (v : V) : p v := by
  have : ∀ (N : Nat) (v : V), SizeOf.sizeOf v < N → p v := by
    intro N
    induction N with
    | zero => intro v hv; omega
    | succ N ih =>
      intro v hv
      obtain ⟨k, n, ks⟩ := v
      refine h k n ks fun w hw => ih w ?_
      have := List.sizeOf_lt_of_mem hw
      simp only [V.mk.sizeOf_spec] at hv
      omega
  exact this (SizeOf.sizeOf v + 1) v (by omega)

theorem V.nod_mk (k n : Int) (ks : List V) : V.nod (.mk k n ks) = V.nodL 1 ks := by rw [V.nod]
theorem V.nodL_nil (a : Int) : V.nodL a [] = a := by rw [V.nodL]
theorem V.nodL_cons (a : Int) (v : V) (l : List V) : V.nodL a (v :: l) = V.nodL (IntKind.wrap .i64 (a + v.nod)) l := by rw [V.nodL]
theorem V.siz_mk (k n : Int) (ks : List V) : V.siz (.mk k n ks) = if V.leafK k then 1 else V.sizL 1 ks := by rw [V.siz]
theorem V.sizL_nil (a : Int) : V.sizL a [] = a := by rw [V.sizL]
theorem V.sizL_cons (a : Int) (v : V) (l : List V) : V.sizL a (v :: l) = V.sizL (IntKind.wrap .i64 (a + v.siz)) l := by rw [V.sizL]
theorem V.val_mk (k m : Int) (ks : List V) (n : Int) : V.val (.mk k m ks) n = if IntKind.wrap .i64 (n - 1) < 0 then (false, IntKind.wrap .i64 (n - 1)) else V.valL ks (IntKind.wrap .i64 (n - 1)) := by rw [V.val]
theorem V.valL_nil (n : Int) : V.valL [] n = (true, n) := by rw [V.valL]
theorem V.valL_cons (v : V) (l : List V) (n : Int) : V.valL (v :: l) n = match V.val v n with | (true, n') => V.valL l n' | (false, n') => (false, n') := by rw [V.valL]
attribute [irreducible] V.pv V.pvL V.nod V.nodL V.siz V.sizL V.val V.valL

theorem idsInH_pvs {S : Nat → Prop} {t : TypeId} {ps : List PV} : idsInB S (.box t (pvs ps)) := idsInL_pvs S ps
end Go.AM

set_option linter.all false
set_option maxRecDepth 100000
namespace Go.AM
open Go.Proofs
theorem c_kind : Tryz.prog.cellsOf 3 = 1 := by kernel_rfl
end Go.AM

set_option linter.all false
set_option maxRecDepth 100000
namespace Go.AM
open Go.Proofs Go.ChangeShapes Go.WideShapes Go.ChangeAt Go.RowKit

section
variable {H : Type} {enc : TypeId × Value → H} {w : World} {held : Bool} {spare : Nat → Bool}
theorem c_typ : Tryz.prog.cellsOf 25 = 3 := by kernel_rfl
theorem c_targs : Tryz.prog.cellsOf 23 = 1 := by kernel_rfl

/-- A value that came in. -/
theorem trod_T : ∀ (fuel : Nat) (cs : List Value) (x : DataW H × List MemPlace), DataW.trod enc Tryz.prog w 0 spare held fuel 25 cs = some x → ∃ v : V, ElemOK w v.pv cs := by
  intro fuel
  induction fuel using Nat.strongRecOn with
  | _ fuel ih =>
    intro cs x h
    obtain ⟨xs, n, rfl, _, hl, hxs, hf⟩ := DataW.trod_struct Tryz.underlying25 h
    rw [c_typ] at hl
    have hx : xs.length = 3 := by rw [hxs]; rfl
    match cs, hl, xs, hx with
    | [c0, c1, c2], _, [x0, x1, x2], _ =>
      have h0 := hf 0 _ rfl
      have h1 := hf 1 _ rfl
      have h2 := hf 2 _ rfl
      simp [c_kind, c_targs] at h0 h1 h2
      obtain ⟨k, rfl, _⟩ := trod_int1 Tryz.underlying3 h0
      obtain ⟨m, rfl, _⟩ := trod_int1 Tryz.underlying3 h1
      cases n with
      | zero => simp [DataW.trod] at h2
      | succ n =>
        obtain ⟨ps, hps, hpr, ho⟩ := trod_lst (Q := fun p => ∃ v : V, p = v.pv) Tryz.underlying23 (by rw [c_typ]; omega) h2 (fun cs y hy => by
          obtain ⟨v, hv⟩ := ih n (by omega) cs y hy
          exact ⟨v.pv, ⟨v, rfl⟩, hv⟩)
        have : ∃ ks : List V, ps = V.pvL ks := by
          clear hpr h2 h
          induction ps with
          | nil => exact ⟨[], by rw [V.pvL_eq]; rfl⟩
          | cons p ps ih2 =>
            obtain ⟨v, rfl⟩ := hps p (by simp)
            obtain ⟨ks, rfl⟩ := ih2 fun q hq => hps q (by simp [hq])
            exact ⟨v :: ks, by simp [V.pvL_eq]⟩
        obtain ⟨ks, rfl⟩ := this
        rw [c_typ] at hpr
        refine ⟨.mk k m ks, .agg #[.int .i64 k, .int .i64 m, c2], ?_, rfl, ?_⟩
        · rw [V.pv_mk]
          simp only [V.ag, PR, CR]
          exact ⟨[.int .i64 k, .int .i64 m, c2], rfl, _, _, rfl, rfl, rfl, _, _, rfl, rfl, rfl, _, _, rfl, ho, by simpa only [PR] using hpr, rfl⟩
        · intro u hu
          simp only [List.mem_cons, List.not_mem_nil, or_false] at hu
          rcases hu with rfl | rfl | rfl
          · rfl
          · rfl
          · exact ho
end
theorem arg_T {H : Type} {enc : TypeId × Value → H} {w : World} {u : Value} {d : DataW H} {p : List MemPlace} {r : Reach} {base : Nat} (ho : Value.okWide Tryz.prog w r base 25 u) (h : DataW.Trod enc Tryz.prog w 0 (fun _ => true) true 25 u d p) : ∃ v : V, PR w NoX v.pv u := by
  obtain ⟨fuel, hf⟩ := h
  obtain ⟨v, hv⟩ := trod_T fuel _ _ hf
  refine ⟨v, ?_⟩
  obtain ⟨k, n, ks⟩ := v
  rw [V.pv_mk] at hv ⊢
  obtain ⟨cs, hcs, _⟩ := okWide_struct Tryz.underlying25 ho
  exact elem_agg hv ⟨cs, hcs⟩
end Go.AM

set_option linter.all false
set_option maxRecDepth 4000
namespace Go.AM
open Go.Proofs

/-! ### The plain law -/
/-- The guard's count, in its box. -/
def cnt (n : Int) : Heap := [.box 3 [.pv (.int .i64 n)]]
mutual
def V.cnt : V → Nat | .mk _ _ ks => 1 + V.cntL ks
def V.cntL : List V → Nat | [] => 0 | v :: l => v.cnt + V.cntL l
end
theorem wrap_dec {n : Int} (h1 : -1000 ≤ n) (h2 : n ≤ 1000) : IntKind.wrap .i64 (n - 1) = n - 1 := wrapI (by omega) (by omega)
mutual
theorem V.val_spec : ∀ (v : V) (n : Int), 0 ≤ n → n ≤ 400 → ((v.val n).1 = true → (v.cnt : Int) ≤ n ∧ (v.val n).2 = n - v.cnt) ∧ (-1 ≤ (v.val n).2 ∧ (v.val n).2 ≤ n)
  | .mk k m ks, n, h0, h1 => by
    rw [V.val_mk]; simp only [V.cnt]
    rw [wrap_dec (by omega) (by omega)]
    split
    · refine ⟨fun h => by simp at h, ?_⟩
      simp only; omega
    · have := V.valL_spec ks (n - 1) (by omega) (by omega)
      refine ⟨fun h => ?_, ?_⟩
      · have := this.1 h; omega
      · omega
theorem V.valL_spec : ∀ (l : List V) (n : Int), 0 ≤ n → n ≤ 400 → ((V.valL l n).1 = true → (V.cntL l : Int) ≤ n ∧ (V.valL l n).2 = n - V.cntL l) ∧ (-1 ≤ (V.valL l n).2 ∧ (V.valL l n).2 ≤ n)
  | [], n, h0, h1 => by rw [V.valL_nil]; simp only [V.cntL]; exact ⟨fun _ => by omega, by omega⟩
  | v :: l, n, h0, h1 => by
    have hv := V.val_spec v n h0 h1
    rw [V.valL_cons]; simp only [V.cntL]
    cases hx : v.val n with
    | mk b n' =>
      rw [hx] at hv
      simp only at hv
      cases b with
      | false => exact ⟨fun h => by simp at h, hv.2⟩
      | true =>
        have h2 := hv.1 rfl
        have := V.valL_spec l n' (by omega) (by omega)
        simp only
        refine ⟨fun h => ?_, by omega⟩
        have := this.1 h; omega
end
mutual
theorem V.cnt_pos : ∀ (v : V), 1 ≤ v.cnt
  | .mk k m ks => by simp only [V.cnt]; omega
end
mutual
theorem V.nod_cnt : ∀ (v : V), v.cnt ≤ 1000 → v.nod = v.cnt
  | .mk k m ks, h => by
    simp only [V.cnt] at h ⊢
    rw [V.nod_mk]
    rw [V.nodL_cnt ks 1 (by omega) (by omega)]; omega
theorem V.nodL_cnt : ∀ (l : List V) (a : Int), 0 ≤ a → a + V.cntL l ≤ 1000 → V.nodL a l = a + V.cntL l
  | [], a, _, _ => by simp [V.nodL_nil, V.cntL]
  | v :: l, a, h0, h => by
    simp only [V.cntL] at h ⊢
    rw [V.nodL_cons]
    rw [V.nod_cnt v (by omega), wrapI (by omega) (by omega), V.nodL_cnt l _ (by omega) (by omega)]; omega
end
mutual
theorem V.siz_le : ∀ (v : V), v.cnt ≤ 1000 → 1 ≤ v.siz ∧ v.siz ≤ v.cnt
  | .mk k m ks, h => by
    simp only [V.cnt] at h ⊢
    rw [V.siz_mk]
    split
    · omega
    · have := V.sizL_le ks 1 (by omega) (by omega); omega
theorem V.sizL_le : ∀ (l : List V) (a : Int), 0 ≤ a → a + V.cntL l ≤ 1000 → a ≤ V.sizL a l ∧ V.sizL a l ≤ a + V.cntL l
  | [], a, _, _ => by simp [V.sizL_nil, V.cntL]
  | v :: l, a, h0, h => by
    simp only [V.cntL] at h ⊢
    rw [V.sizL_cons]
    have h1 := V.siz_le v (by omega)
    rw [wrapI (by omega) (by omega)]
    have := V.sizL_le l (a + v.siz) (by omega) (by omega)
    omega
end
theorem V.keep_cnt {v : V} (h : (v.val 400).1 = true) : v.cnt ≤ 400 := by
  have := (V.val_spec v 400 (by omega) (by omega)).1 h
  omega
theorem V.keep_siz {v : V} (h : (v.val 400).1 = true) : v.siz ≤ v.nod := by
  have h := V.keep_cnt h
  rw [V.nod_cnt v (by omega)]
  exact (V.siz_le v (by omega)).2
end Go.AM

set_option linter.all false
set_option maxRecDepth 2500
namespace Go.AM
open Go.Proofs

theorem typ_hdet (v : V) : ∀ n, HDet Tryz.prog 22 [.pv v.pv, .bp 0 0] (cnt n) (.pv (.bool (v.val n).1)) (cnt (v.val n).2) := by
  refine V.recOn' (p := fun v => ∀ n, HDet Tryz.prog 22 [.pv v.pv, .bp 0 0] (cnt n) (.pv (.bool (v.val n).1)) (cnt (v.val n).2)) (fun k m ks ih n => ?_) v
  rw [V.pv_mk]
  refine hdet_of_vc' (E := S.E 1) fol Tryz.func22 rfl rfl (slots := [4]) rfl rfl ?_ ?_ ?_ fun hw => ?_
  · exact Nat.le_refl 1
  · exact ⟨trivial, rfl, trivial⟩
  · exact pureH_get (H := cnt n) ⟨fun S => ⟨trivial, trivial⟩, trivial⟩ _
  have hl := V.lenle hw.1
  set_option smartUnfolding false in conv => whnf
  refine br_intro (fun h => ?_) (fun h => ?_) <;> set_option smartUnfolding false in conv => whnf
  · replace h := dT h
    have e : (V.mk k m ks).val n = (false, IntKind.wrap .i64 (n - 1)) := by rw [V.val_mk]; exact if_pos h
    rw [e]
    exact weak_ren [0] 2 (by kernel_rfl) (blk (by kernel_rfl) trivial) ⟨(by kernel_rfl), trivial⟩
  · replace h := dF h
    have e : (V.mk k m ks).val n = V.valL ks (IntKind.wrap .i64 (n - 1)) := by rw [V.val_mk]; exact if_neg h
    rw [e]
    refine vloop_intro (σ := Nat × Int) (fun x => x.1 ≤ ks.length ∧ V.valL (ks.drop x.1) x.2 = V.valL ks (IntKind.wrap .i64 (n - 1))) (fun x => [(1, .bp 0 0), (2, .bp 1 0), (5, .pv (.int .i64 x.1))])
      (fun x => [.box 3 [.pv (.int .i64 x.2)], .box 25 [.pv (.int .i64 k), .pv (.int .i64 m), .pv (.lst 3 (V.pvL ks))]]) (fun x => ks.length - x.1) (0, IntKind.wrap .i64 (n - 1)) (by simp) (weak_sub ⟨(by kernel_rfl), (by kernel_rfl), (by kernel_rfl), trivial⟩) ?_
    rintro ⟨i, s⟩ ⟨hi, hs⟩
    set_option smartUnfolding false in conv => whnf
    refine br_intro (fun h => ?_) (fun h => ?_)
    · replace h : i < ks.length := by have := dT h; rw [V.pvL_len] at this; simpa using this
      obtain ⟨⟨k', n', ks'⟩, hv, hg, _, hd⟩ := V.get_pvL h
      set_option smartUnfolding false in conv => whnf
      rw [V.pv_mk] at hg
      refine ⟨V.ag k' n' ks', ⟨by simp, by simpa using hg⟩, ?_⟩
      set_option smartUnfolding false in conv => whnf
      have hih := ih _ hv s
      rw [V.pv_mk] at hih
      refine acall_hdet hih [0] 2 rfl rfl ⟨rfl, trivial⟩ ?_
      set_option smartUnfolding false in conv => whnf
      rw [hd] at hs
      rw [V.valL_cons] at hs
      refine br_intro (fun h' => ?_) (fun h' => ?_) <;> set_option smartUnfolding false in conv => whnf
      · replace h' : ((V.mk k' n' ks').val s).1 = false := by simpa using h'
        cases hx : (V.mk k' n' ks').val s with
        | mk b n2 =>
          rw [hx] at hs h'
          simp only at h'
          subst h'
          simp only at hs
          rw [← hs]
          exact weak_ren [0] 2 (by kernel_rfl) (blk (by kernel_rfl) trivial) ⟨(by kernel_rfl), trivial⟩
      · replace h' : ((V.mk k' n' ks').val s).1 = true := by simpa using h'
        cases hx : (V.mk k' n' ks').val s with
        | mk b n2 =>
          rw [hx] at hs h'
          simp only at h'
          subst h'
          simp only at hs
          refine ⟨(i + 1, n2), ⟨h, hs⟩, weak_ren [0, 1] 2 (by kernel_rfl) (blk (by kernel_rfl) (blk (by kernel_rfl) trivial)) ⟨(by kernel_rfl), (by kernel_rfl), sI (by rw [wrapI] <;> simp <;> omega), trivial⟩, ?_⟩
          show ks.length - (i + 1) < ks.length - i
          omega
    · replace h : ¬ i < ks.length := by have := dF h; rw [V.pvL_len] at this; simpa using this
      set_option smartUnfolding false in conv => whnf
      rw [List.drop_of_length_le (by simpa using h)] at hs
      rw [← hs, V.valL_nil]
      exact weak_ren [0] 2 (by kernel_rfl) (blk (by kernel_rfl) trivial) ⟨(by kernel_rfl), trivial⟩

/-- keep.Type. -/
theorem keepT_det (v : V) : Det Tryz.prog 9 [v.pv] (.bool (v.val 250).1) := by
  obtain ⟨k, n, ks⟩ := v
  rw [V.pv_mk]
  refine det_of_vc' (E := S.E 0) rfl fol Tryz.func9 rfl rfl (slots := [2]) rfl rfl fun hw => ?_
  set_option smartUnfolding false in conv => whnf
  have hih := typ_hdet (.mk k n ks) 250
  rw [V.pv_mk] at hih
  refine acall_hdet hih [1] 2 rfl rfl ⟨rfl, trivial⟩ ?_
  set_option smartUnfolding false in conv => whnf
  exact rdP rfl
end Go.AM

set_option linter.all false
set_option maxRecDepth 4000
namespace Go.AM
open Go.Proofs

/-! ### Data types -/
structure Cn where
  name : ByteArray
  args : List V
structure Dt where
  name : ByteArray
  vars : Int
  cons : List Cn
abbrev Cn.ag (nm : ByteArray) (ts : List V) : PV := .agg [.str nm, .lst 3 (V.pvL ts)]
def Cn.pv (c : Cn) : PV := Cn.ag c.name c.args
def Cn.pvL (l : List Cn) : List PV := l.map Cn.pv
abbrev Dt.ag (nm : ByteArray) (vs : Int) (cs : List Cn) : PV := .agg [.str nm, .int .i64 vs, .lst 2 (Cn.pvL cs)]
def Dt.pv (d : Dt) : PV := Dt.ag d.name d.vars d.cons
def Dt.pvL (l : List Dt) : List PV := l.map Dt.pv
theorem Cn.pvL_len (l : List Cn) : (Cn.pvL l).length = l.length := by simp [Cn.pvL]
theorem Dt.pvL_len (l : List Dt) : (Dt.pvL l).length = l.length := by simp [Dt.pvL]
theorem Cn.get_pvL {l : List Cn} {i : Nat} (h : i < l.length) : ∃ nm ts, Cn.mk nm ts ∈ l ∧ (Cn.pvL l)[i]? = some (Cn.ag nm ts) ∧ l[i]? = some ⟨nm, ts⟩ ∧ l.drop i = ⟨nm, ts⟩ :: l.drop (i + 1) :=
  ⟨l[i].name, l[i].args, List.getElem_mem h, by simp [Cn.pvL, h]; rfl, by simp [h], (List.drop_eq_getElem_cons h)⟩
theorem Dt.get_pvL {l : List Dt} {i : Nat} (h : i < l.length) : ∃ nm vs cs, Dt.mk nm vs cs ∈ l ∧ (Dt.pvL l)[i]? = some (Dt.ag nm vs cs) ∧ l[i]? = some ⟨nm, vs, cs⟩ ∧ l.drop i = ⟨nm, vs, cs⟩ :: l.drop (i + 1) :=
  ⟨l[i].name, l[i].vars, l[i].cons, List.getElem_mem h, by simp [Dt.pvL, h]; rfl, by simp [h], (List.drop_eq_getElem_cons h)⟩
attribute [irreducible] Cn.pvL Dt.pvL Cn.pv Dt.pv

theorem V.get_elim {P : Prop} {l : List V} {i : Nat} (h : i < l.length) (k : ∀ k n us, V.mk k n us ∈ l → (V.pvL l)[i]? = some (V.ag k n us) → l[i]? = some (.mk k n us) → l.drop i = .mk k n us :: l.drop (i + 1) → P) : P := by
  obtain ⟨⟨k', n', us'⟩, h1, h2, h3, h4⟩ := V.get_pvL h
  rw [V.pv_mk] at h2
  exact k k' n' us' h1 h2 h3 h4
theorem Cn.get_elim {P : Prop} {l : List Cn} {i : Nat} (h : i < l.length) (k : ∀ nm us, Cn.mk nm us ∈ l → (Cn.pvL l)[i]? = some (Cn.ag nm us) → l[i]? = some ⟨nm, us⟩ → l.drop i = ⟨nm, us⟩ :: l.drop (i + 1) → P) : P := by
  obtain ⟨nm, us, h1, h2, h3, h4⟩ := Cn.get_pvL h
  exact k nm us h1 h2 h3 h4
theorem Dt.get_elim {P : Prop} {l : List Dt} {i : Nat} (h : i < l.length) (k : ∀ nm vs cs, Dt.mk nm vs cs ∈ l → (Dt.pvL l)[i]? = some (Dt.ag nm vs cs) → l[i]? = some ⟨nm, vs, cs⟩ → l.drop i = ⟨nm, vs, cs⟩ :: l.drop (i + 1) → P) : P := by
  obtain ⟨nm, vs, cs, h1, h2, h3, h4⟩ := Dt.get_pvL h
  exact k nm vs cs h1 h2 h3 h4
/-! ### Nodes of a type -/
theorem V.cnt_mk (k n : Int) (ts : List V) : V.cnt (.mk k n ts) = 1 + V.cntL ts := by simp [V.cnt]
theorem V.cntL_nil : V.cntL [] = 0 := by simp [V.cntL]
theorem V.cntL_cons (v : V) (l : List V) : V.cntL (v :: l) = v.cnt + V.cntL l := by simp [V.cntL]
theorem V.cnt_mem {v : V} {l : List V} (h : v ∈ l) : v.cnt ≤ V.cntL l := by
  induction l with
  | nil => simp at h
  | cons a l ih =>
    rw [V.cntL_cons]
    rcases List.mem_cons.1 h with rfl | h
    · omega
    · have := ih h; omega
theorem V.cntL_drop (l : List V) (i : Nat) : V.cntL (l.drop i) ≤ V.cntL l := by
  induction i generalizing l with
  | zero => simp
  | succ i ih => cases l with
    | nil => simp
    | cons a l => rw [List.drop_succ_cons, V.cntL_cons]; have := ih l; omega
theorem V.len_cntL (l : List V) : l.length ≤ V.cntL l := by
  induction l with
  | nil => simp
  | cons a l ih => rw [V.cntL_cons]; have := V.cnt_pos a; simp; omega

theorem tsize_det (t : V) : ∀ m : Int, 1 ≤ m → m ≤ 1000000 → Det Tryz.prog 48 [t.pv, .int .i64 m] (.int .i64 (min (t.cnt : Int) m)) := by
  refine V.recOn' (p := fun t => ∀ m : Int, 1 ≤ m → m ≤ 1000000 → Det Tryz.prog 48 [t.pv, .int .i64 m] (.int .i64 (min (t.cnt : Int) m))) (fun k n ts ih m m1 m2 => ?_) t
  rw [V.pv_mk]
  generalize hR : min ((V.mk k n ts).cnt : Int) m = R
  rw [V.cnt_mk] at hR
  refine det_of_vc' (E := S.E 0) rfl fol Tryz.func48 rfl rfl (slots := [4]) rfl rfl fun hw => ?_
  have hl := V.lenle hw.1
  set_option smartUnfolding false in conv => whnf
  refine vloop_intro (σ := Nat × Int) (fun x => x.1 ≤ ts.length ∧ min (x.2 + V.cntL (ts.drop x.1)) m = R ∧ 1 ≤ x.2 ∧ x.2 ≤ m) (fun x => [(1, .pv (.int .i64 m)), (5, .pv (.int .i64 x.2)), (9, .pv (.lst 3 (V.pvL ts))), (10, .pv (.int .i64 (V.pvL ts).length)), (11, .pv (.int .i64 x.1))])
    (fun _ => []) (fun x => ts.length - x.1) (0, 1) ⟨by simp, by simp only [List.drop_zero]; rw [← hR]; congr 1, by simp, m1⟩ (weak_bare rfl ⟨(by kernel_rfl), (by kernel_rfl), (by kernel_rfl), (by kernel_rfl), (by kernel_rfl), trivial⟩) ?_
  rintro ⟨i, s⟩ ⟨hi, hs, hs1, hs2⟩
  simp only at hi hs hs1 hs2
  set_option smartUnfolding false in conv => whnf
  refine br_intro (fun h => ?_) (fun h => ?_) <;> set_option smartUnfolding false in conv => whnf
  · replace h : i < ts.length := by have := dT h; rw [V.pvL_len] at this; simpa using this
    obtain ⟨⟨k', n', ts'⟩, hv, hg, _, hd⟩ := V.get_pvL h
    rw [V.pv_mk] at hg
    rw [hd, V.cntL_cons] at hs
    refine ⟨V.ag k' n' ts', ⟨by simp, by simpa using hg⟩, ?_⟩
    set_option smartUnfolding false in conv => whnf
    refine br_intro (fun h2 => ?_) (fun h2 => ?_) <;> set_option smartUnfolding false in conv => whnf
    · exact rdI (by have := dT h2; omega)
    · have h2 := dF h2
      have e : IntKind.wrap .i64 (m - s) = m - s := wrapI (by omega) (by omega)
      have hih := ih _ hv (m - s) (by omega) (by omega)
      rw [V.pv_mk] at hih
      rw [e]
      refine acall_det (ps := [V.ag k' n' ts', .int .i64 (m - s)]) hih ?_
      set_option smartUnfolding false in conv => whnf
      refine ⟨(i + 1, s + min ((V.mk k' n' ts').cnt : Int) (m - s)), ⟨h, ?_, ?_, ?_⟩, weak_bare rfl ⟨(by kernel_rfl), sI (wrapI (by omega) (by omega)), (by kernel_rfl), (by kernel_rfl), sUp h hl, trivial⟩, subUp h⟩
      · simp only; omega
      · simp only; omega
      · simp only; omega
  · replace h : ¬ i < ts.length := by have := dF h; rw [V.pvL_len] at this; simpa using this
    rw [List.drop_of_length_le (by omega), V.cntL_nil] at hs
    exact rdI (by split <;> omega)

theorem rtsize_det (t : V) : t.cnt ≤ 1000000 → Det Tryz.prog 57 [t.pv] (.int .i64 t.cnt) := by
  refine V.recOn' (p := fun t => t.cnt ≤ 1000000 → Det Tryz.prog 57 [t.pv] (.int .i64 t.cnt)) (fun k n ts ih hc => ?_) t
  rw [V.cnt_mk] at hc
  rw [V.pv_mk]
  generalize hR : ((V.mk k n ts).cnt : Int) = R
  rw [V.cnt_mk] at hR
  refine det_of_vc' (E := S.E 0) rfl fol Tryz.func57 rfl rfl (slots := [2]) rfl rfl fun hw => ?_
  have hl := V.lenle hw.1
  set_option smartUnfolding false in conv => whnf
  refine vloop_intro (σ := Nat × Nat) (fun x => x.1 ≤ ts.length ∧ ((x.2 + V.cntL (ts.drop x.1) : Nat) : Int) = R) (fun x => [(1, .bp 0 0), (3, .pv (.int .i64 x.2)), (4, .pv (.int .i64 x.1))])
    (fun _ => [.box 25 [.pv (.int .i64 k), .pv (.int .i64 n), .pv (.lst 3 (V.pvL ts))]]) (fun x => ts.length - x.1) (0, 1) ⟨by simp, by simpa using hR⟩ (weak_sub ⟨(by kernel_rfl), (by kernel_rfl), (by kernel_rfl), trivial⟩) ?_
  rintro ⟨i, s⟩ ⟨hi, hs⟩
  simp only at hi hs
  set_option smartUnfolding false in conv => whnf
  refine br_intro (fun h => ?_) (fun h => ?_) <;> set_option smartUnfolding false in conv => whnf
  · replace h : i < ts.length := by have := dT h; rw [V.pvL_len] at this; simpa using this
    obtain ⟨⟨k', n', ts'⟩, hv, hg, _, hd⟩ := V.get_pvL h
    rw [V.pv_mk] at hg
    rw [hd, V.cntL_cons] at hs
    have hle := V.cnt_mem hv
    refine ⟨V.ag k' n' ts', ⟨by simp, by simpa using hg⟩, ?_⟩
    set_option smartUnfolding false in conv => whnf
    have hih := ih _ hv (by omega)
    rw [V.pv_mk] at hih
    refine acall_det (ps := [V.ag k' n' ts']) hih ?_
    set_option smartUnfolding false in conv => whnf
    refine ⟨(i + 1, s + (V.mk k' n' ts').cnt), ⟨h, ?_⟩, weak_sub ⟨(by kernel_rfl), sI ?_, sUp h hl, trivial⟩, subUp h⟩
    · simp only; omega
    · simp only; rw [wrapI] <;> omega
  · replace h : ¬ i < ts.length := by have := dF h; rw [V.pvL_len] at this; simpa using this
    rw [List.drop_of_length_le (by omega), V.cntL_nil] at hs
    exact rdI (by omega)
end Go.AM

set_option linter.all false
set_option maxRecDepth 100000
namespace Go.AM
open Go.Proofs Go.ChangeShapes Go.WideShapes Go.ChangeAt Go.RowKit

section
variable {H : Type} {enc : TypeId × Value → H} {w : World} {held : Bool} {spare : Nat → Bool}
theorem c_str : Tryz.prog.cellsOf 9 = 1 := by kernel_rfl
theorem c_con : Tryz.prog.cellsOf 59 = 2 := by kernel_rfl
theorem c_cons : Tryz.prog.cellsOf 40 = 1 := by kernel_rfl
theorem c_data : Tryz.prog.cellsOf 42 = 3 := by kernel_rfl
theorem c_datas : Tryz.prog.cellsOf 22 = 1 := by kernel_rfl
theorem list_of {α : Type} {f : α → PV} : ∀ {ps : List PV}, (∀ p ∈ ps, ∃ a, p = f a) → ∃ l : List α, ps = l.map f
  | [], _ => ⟨[], rfl⟩
  | p :: ps, h => by
    obtain ⟨a, rfl⟩ := h p (by simp)
    obtain ⟨l, hl⟩ := list_of (ps := ps) (f := f) fun q hq => h q (by simp [hq])
    exact ⟨a :: l, by rw [hl]; rfl⟩
/-- A constructor that came in. -/
theorem trod_Cn (fuel : Nat) (cs : List Value) (x : DataW H × List MemPlace) (h : DataW.trod enc Tryz.prog w 0 spare held fuel 59 cs = some x) : ∃ c : Cn, ElemOK w c.pv cs := by
  obtain ⟨xs, n, rfl, _, hl, hxs, hf⟩ := DataW.trod_struct Tryz.underlying59 h
  rw [c_con] at hl
  have hx : xs.length = 2 := by rw [hxs]; rfl
  match cs, hl, xs, hx with
  | [c0, c1], _, [x0, x1], _ =>
    have h0 := hf 0 _ rfl
    have h1 := hf 1 _ rfl
    simp [c_str, c_targs] at h0 h1
    obtain ⟨s, rfl, _⟩ := trod_str1 Tryz.underlying9 h0
    cases n with
    | zero => simp [DataW.trod] at h1
    | succ n =>
      obtain ⟨ps, hps, hpr, ho⟩ := trod_lst (Q := fun p => ∃ v : V, p = v.pv) Tryz.underlying23 (by rw [c_typ]; omega) h1 (fun cs y hy => by
        obtain ⟨v, hv⟩ := trod_T n cs y hy
        exact ⟨v.pv, ⟨v, rfl⟩, hv⟩)
      obtain ⟨ts, rfl⟩ := list_of hps
      rw [← V.pvL_eq, c_typ] at hpr
      refine ⟨⟨s, ts⟩, .agg #[.string s, c1], ?_, rfl, ?_⟩
      · unfold Cn.pv
        simp only [Cn.ag, PR, CR]
        exact ⟨[.string s, c1], rfl, _, _, rfl, rfl, rfl, _, _, rfl, ho, by simpa only [PR] using hpr, rfl⟩
      · intro u hu
        simp only [List.mem_cons, List.not_mem_nil, or_false] at hu
        rcases hu with rfl | rfl
        · rfl
        · exact ho
/-- A data type that came in. -/
theorem trod_Dt (fuel : Nat) (cs : List Value) (x : DataW H × List MemPlace) (h : DataW.trod enc Tryz.prog w 0 spare held fuel 42 cs = some x) : ∃ c : Dt, ElemOK w c.pv cs := by
  obtain ⟨xs, n, rfl, _, hl, hxs, hf⟩ := DataW.trod_struct Tryz.underlying42 h
  rw [c_data] at hl
  have hx : xs.length = 3 := by rw [hxs]; rfl
  match cs, hl, xs, hx with
  | [c0, c1, c2], _, [x0, x1, x2], _ =>
    have h0 := hf 0 _ rfl
    have h1 := hf 1 _ rfl
    have h2 := hf 2 _ rfl
    simp [c_str, c_kind, c_cons] at h0 h1 h2
    obtain ⟨s, rfl, _⟩ := trod_str1 Tryz.underlying9 h0
    obtain ⟨m, rfl, _⟩ := trod_int1 Tryz.underlying3 h1
    cases n with
    | zero => simp [DataW.trod] at h2
    | succ n =>
      obtain ⟨ps, hps, hpr, ho⟩ := trod_lst (Q := fun p => ∃ v : Cn, p = v.pv) Tryz.underlying40 (by rw [c_con]; omega) h2 (fun cs y hy => by
        obtain ⟨v, hv⟩ := trod_Cn n cs y hy
        exact ⟨v.pv, ⟨v, rfl⟩, hv⟩)
      obtain ⟨ts, rfl⟩ := list_of hps
      rw [c_con] at hpr
      refine ⟨⟨s, m, ts⟩, .agg #[.string s, .int .i64 m, c2], ?_, rfl, ?_⟩
      · unfold Dt.pv
        simp only [Dt.ag]
        unfold Cn.pvL
        simp only [PR, CR]
        exact ⟨[.string s, .int .i64 m, c2], rfl, _, _, rfl, rfl, rfl, _, _, rfl, rfl, rfl, _, _, rfl, ho, by simpa only [PR] using hpr, rfl⟩
      · intro u hu
        simp only [List.mem_cons, List.not_mem_nil, or_false] at hu
        rcases hu with rfl | rfl | rfl
        · rfl
        · rfl
        · exact ho
end
theorem arg_Ds {H : Type} {enc : TypeId × Value → H} {w : World} {u : Value} {d : DataW H} {p : List MemPlace} {r : Reach} {base : Nat} (ho : Value.okWide Tryz.prog w r base 22 u) (h : DataW.Trod enc Tryz.prog w 0 (fun _ => true) true 22 u d p) : ∃ D : List Dt, PR w NoX (.lst 3 (Dt.pvL D)) u := by
  obtain ⟨fuel, hf⟩ := h
  obtain ⟨a, l, c, rfl⟩ := okWide_slice Tryz.underlying22 ho
  cases fuel with
  | zero => simp [DataW.trod] at hf
  | succ n =>
    obtain ⟨ps, hps, hpr, _⟩ := trod_lst (Q := fun p => ∃ v : Dt, p = v.pv) Tryz.underlying22 (by rw [c_data]; omega) hf (fun cs y hy => by
      obtain ⟨v, hv⟩ := trod_Dt n cs y hy
      exact ⟨v.pv, ⟨v, rfl⟩, hv⟩)
    obtain ⟨ts, rfl⟩ := list_of hps
    rw [c_data] at hpr
    exact ⟨ts, by unfold Dt.pvL; exact hpr⟩
end Go.AM

set_option linter.all false
set_option maxRecDepth 100000
namespace Go.AM
open Go.Proofs Go.ChangeShapes Go.WideShapes Go.ChangeAt Go.RowKit

section
variable {H : Type} {enc : TypeId × Value → H} {w : World} {held : Bool} {spare : Nat → Bool}
theorem c_val : Tryz.prog.cellsOf 28 = 3 := by kernel_rfl
theorem c_num : Tryz.prog.cellsOf 2 = 1 := by kernel_rfl
theorem c_kids : Tryz.prog.cellsOf 26 = 1 := by kernel_rfl

/-- A value that came in. -/
theorem trod_V : ∀ (fuel : Nat) (cs : List Value) (x : DataW H × List MemPlace), DataW.trod enc Tryz.prog w 0 spare held fuel 28 cs = some x → ∃ v : V, ElemOK w v.pv cs := by
  intro fuel
  induction fuel using Nat.strongRecOn with
  | _ fuel ih =>
    intro cs x h
    obtain ⟨xs, n, rfl, _, hl, hxs, hf⟩ := DataW.trod_struct Tryz.underlying28 h
    rw [c_val] at hl
    have hx : xs.length = 3 := by rw [hxs]; rfl
    match cs, hl, xs, hx with
    | [c0, c1, c2], _, [x0, x1, x2], _ =>
      have h0 := hf 0 _ rfl
      have h1 := hf 1 _ rfl
      have h2 := hf 2 _ rfl
      simp [c_kind, c_num, c_kids] at h0 h1 h2
      obtain ⟨k, rfl, _⟩ := trod_int1 Tryz.underlying3 h0
      obtain ⟨m, rfl, _⟩ := trod_int1 Tryz.underlying2 h1
      cases n with
      | zero => simp [DataW.trod] at h2
      | succ n =>
        obtain ⟨ps, hps, hpr, ho⟩ := trod_lst (Q := fun p => ∃ v : V, p = v.pv) Tryz.underlying26 (by rw [c_val]; omega) h2 (fun cs y hy => by
          obtain ⟨v, hv⟩ := ih n (by omega) cs y hy
          exact ⟨v.pv, ⟨v, rfl⟩, hv⟩)
        have : ∃ ks : List V, ps = V.pvL ks := by
          clear hpr h2 h
          induction ps with
          | nil => exact ⟨[], by rw [V.pvL_eq]; rfl⟩
          | cons p ps ih2 =>
            obtain ⟨v, rfl⟩ := hps p (by simp)
            obtain ⟨ks, rfl⟩ := ih2 fun q hq => hps q (by simp [hq])
            exact ⟨v :: ks, by simp [V.pvL_eq]⟩
        obtain ⟨ks, rfl⟩ := this
        rw [c_val] at hpr
        refine ⟨.mk k m ks, .agg #[.int .i64 k, .int .i64 m, c2], ?_, rfl, ?_⟩
        · rw [V.pv_mk]
          simp only [V.ag, PR, CR]
          exact ⟨[.int .i64 k, .int .i64 m, c2], rfl, _, _, rfl, rfl, rfl, _, _, rfl, rfl, rfl, _, _, rfl, ho, by simpa only [PR] using hpr, rfl⟩
        · intro u hu
          simp only [List.mem_cons, List.not_mem_nil, or_false] at hu
          rcases hu with rfl | rfl | rfl
          · rfl
          · rfl
          · exact ho
end
theorem arg_V {H : Type} {enc : TypeId × Value → H} {w : World} {u : Value} {d : DataW H} {p : List MemPlace} {r : Reach} {base : Nat} (ho : Value.okWide Tryz.prog w r base 28 u) (h : DataW.Trod enc Tryz.prog w 0 (fun _ => true) true 28 u d p) : ∃ v : V, PR w NoX v.pv u := by
  obtain ⟨fuel, hf⟩ := h
  obtain ⟨v, hv⟩ := trod_V fuel _ _ hf
  refine ⟨v, ?_⟩
  obtain ⟨k, n, ks⟩ := v
  rw [V.pv_mk] at hv ⊢
  obtain ⟨cs, hcs, _⟩ := okWide_struct Tryz.underlying28 ho
  exact elem_agg hv ⟨cs, hcs⟩
end Go.AM

set_option linter.all false
set_option maxRecDepth 100000
namespace Go.AM
open Go.Proofs Go.ChangeShapes Go.WideShapes Go.ChangeAt Go.RowKit

theorem arg_Int {H : Type} {enc : TypeId × Value → H} {w : World} {u : Value} {d : DataW H} {p : List MemPlace} {r : Reach} {base : Nat} (ho : Value.okWide Tryz.prog w r base 3 u) (h : DataW.Trod enc Tryz.prog w 0 (fun _ => true) true 3 u d p) : ∃ n : Int, PR w NoX (.int .i64 n) u := by
  obtain ⟨n, rfl⟩ := okWide_int Tryz.underlying3 ho
  exact ⟨n, by simp only [PR]⟩
end Go.AM

set_option linter.all false
set_option maxRecDepth 20000
set_option maxHeartbeats 2000000
namespace Go.AM
open Go.Proofs

/-! ### Bytes -/
def bSm (b : Int) : Bool := decide (97 ≤ b) && decide (b ≤ 122)
def bGr (b : Int) : Bool := decide (65 ≤ b) && decide (b ≤ 90)
def bDg (b : Int) : Bool := decide (48 ≤ b) && decide (b ≤ 57)
def bPt (b : Int) : Bool := bSm b || bGr b || bDg b || decide (b = 95)
theorem sm_t (b : Int) : Det Tryz.prog 155 [.int .u8 b] (.bool (bSm b)) := by
  refine det_of_vc' (E := S.E 0) rfl fol Tryz.func155 rfl rfl (slots := [2]) rfl rfl fun hw => ?_
  set_option smartUnfolding false in conv => whnf
  refine br_intro (fun h => ?_) (fun h => ?_) <;> set_option smartUnfolding false in conv => whnf
  · exact rdB (by rw [bSm, h]; rfl)
  · exact rdB (by rw [bSm, h]; rfl)
theorem gr_t (b : Int) : Det Tryz.prog 156 [.int .u8 b] (.bool (bGr b)) := by
  refine det_of_vc' (E := S.E 0) rfl fol Tryz.func156 rfl rfl (slots := [2]) rfl rfl fun hw => ?_
  set_option smartUnfolding false in conv => whnf
  refine br_intro (fun h => ?_) (fun h => ?_) <;> set_option smartUnfolding false in conv => whnf
  · exact rdB (by rw [bGr, h]; rfl)
  · exact rdB (by rw [bGr, h]; rfl)
theorem dg_t (b : Int) : Det Tryz.prog 159 [.int .u8 b] (.bool (bDg b)) := by
  refine det_of_vc' (E := S.E 0) rfl fol Tryz.func159 rfl rfl (slots := [2]) rfl rfl fun hw => ?_
  set_option smartUnfolding false in conv => whnf
  refine br_intro (fun h => ?_) (fun h => ?_) <;> set_option smartUnfolding false in conv => whnf
  · exact rdB (by rw [bDg, h]; rfl)
  · exact rdB (by rw [bDg, h]; rfl)
theorem sm_r (b : Int) : Det Tryz.prog 124 [.int .u8 b] (.bool (bSm b)) := by
  refine det_of_vc' (E := S.E 0) rfl fol Tryz.func124 rfl rfl (slots := [2]) rfl rfl fun hw => ?_
  set_option smartUnfolding false in conv => whnf
  refine br_intro (fun h => ?_) (fun h => ?_) <;> set_option smartUnfolding false in conv => whnf
  · exact rdB (by rw [bSm, h]; rfl)
  · exact rdB (by rw [bSm, h]; rfl)
theorem gr_r (b : Int) : Det Tryz.prog 125 [.int .u8 b] (.bool (bGr b)) := by
  refine det_of_vc' (E := S.E 0) rfl fol Tryz.func125 rfl rfl (slots := [2]) rfl rfl fun hw => ?_
  set_option smartUnfolding false in conv => whnf
  refine br_intro (fun h => ?_) (fun h => ?_) <;> set_option smartUnfolding false in conv => whnf
  · exact rdB (by rw [bGr, h]; rfl)
  · exact rdB (by rw [bGr, h]; rfl)
theorem dg_r (b : Int) : Det Tryz.prog 126 [.int .u8 b] (.bool (bDg b)) := by
  refine det_of_vc' (E := S.E 0) rfl fol Tryz.func126 rfl rfl (slots := [2]) rfl rfl fun hw => ?_
  set_option smartUnfolding false in conv => whnf
  refine br_intro (fun h => ?_) (fun h => ?_) <;> set_option smartUnfolding false in conv => whnf
  · exact rdB (by rw [bDg, h]; rfl)
  · exact rdB (by rw [bDg, h]; rfl)
theorem pt_t (b : Int) : Det Tryz.prog 157 [.int .u8 b] (.bool (bPt b)) := by
  refine det_of_vc' (E := S.E 0) rfl fol Tryz.func157 rfl rfl (slots := [2]) rfl rfl fun hw => ?_
  set_option smartUnfolding false in conv => whnf
  refine acall_det (ps := [.int .u8 b]) (sm_t b) ?_
  set_option smartUnfolding false in conv => whnf
  refine br_intro (fun h1 => ?_) (fun h1 => ?_) <;> set_option smartUnfolding false in conv => whnf
  · exact rdB (by rw [bPt, h1]; rfl)
  refine acall_det (ps := [.int .u8 b]) (gr_t b) ?_
  set_option smartUnfolding false in conv => whnf
  refine br_intro (fun h2 => ?_) (fun h2 => ?_) <;> set_option smartUnfolding false in conv => whnf
  · exact rdB (by rw [bPt, h1, h2]; rfl)
  refine acall_det (ps := [.int .u8 b]) (dg_t b) ?_
  set_option smartUnfolding false in conv => whnf
  refine br_intro (fun h3 => ?_) (fun h3 => ?_) <;> set_option smartUnfolding false in conv => whnf
  · exact rdB (by rw [bPt, h1, h2, h3]; rfl)
  · exact rdB (by rw [bPt, h1, h2, h3]; rfl)

attribute [irreducible] bSm bGr bDg
theorem bPt_of {b : Int} : bPt b = (bSm b || bGr b || bDg b || decide (b = 95)) := rfl
attribute [irreducible] bPt

/-! ### Words -/
def inL (s : ByteArray) : List ByteArray → Bool
  | [] => false
  | w :: l => if (s.toList == w.toList) then true else inL s l
theorem inL_nil (s : ByteArray) : inL s [] = false := rfl
theorem inL_cons (s w : ByteArray) (l : List ByteArray) : inL s (w :: l) = if (s.toList == w.toList) = true then true else inL s l := rfl
def words : List ByteArray := [⟨#[97, 114, 114, 97, 121]⟩, ⟨#[98, 111, 111, 108]⟩, ⟨#[99, 97, 116, 99, 104]⟩, ⟨#[100, 97, 116, 97]⟩, ⟨#[101, 108, 115, 101]⟩, ⟨#[101, 110, 100]⟩, ⟨#[102, 97, 108, 115, 101]⟩, ⟨#[102, 110]⟩, ⟨#[102, 117, 110]⟩, ⟨#[103, 101, 116]⟩, ⟨#[105, 102]⟩, ⟨#[105, 110]⟩, ⟨#[105, 110, 116]⟩, ⟨#[108, 101, 110]⟩, ⟨#[108, 101, 116]⟩, ⟨#[109, 97, 116, 99, 104]⟩, ⟨#[110, 101, 119]⟩, ⟨#[114, 97, 105, 115, 101]⟩, ⟨#[114, 101, 97, 100]⟩, ⟨#[114, 101, 102]⟩, ⟨#[115, 101, 116]⟩, ⟨#[116, 104, 101, 110]⟩, ⟨#[116, 105, 99, 107]⟩, ⟨#[116, 114, 117, 101]⟩, ⟨#[116, 114, 121]⟩, ⟨#[117, 110, 105, 116]⟩, ⟨#[119, 105, 116, 104]⟩, ⟨#[119, 114, 105, 116, 101]⟩]
attribute [irreducible] inL
theorem kw_t (s : ByteArray) : Det Tryz.prog 158 [.str s] (.bool (inL s words)) := by
  generalize hR : inL s words = R
  unfold words at hR
  refine det_of_vc' (E := S.E 0) rfl fol Tryz.func158 rfl rfl (slots := [2]) rfl rfl fun hw => ?_
  set_option smartUnfolding false in conv => whnf
  refine br_intro (fun h => ?_) (fun h => ?_) <;> set_option smartUnfolding false in conv => whnf
  · exact rdB (by rw [← hR, inL_cons, if_pos h])
  rw [inL_cons, if_neg (by rw [h]; simp)] at hR
  refine br_intro (fun h => ?_) (fun h => ?_) <;> set_option smartUnfolding false in conv => whnf
  · exact rdB (by rw [← hR, inL_cons, if_pos h])
  rw [inL_cons, if_neg (by rw [h]; simp)] at hR
  refine br_intro (fun h => ?_) (fun h => ?_) <;> set_option smartUnfolding false in conv => whnf
  · exact rdB (by rw [← hR, inL_cons, if_pos h])
  rw [inL_cons, if_neg (by rw [h]; simp)] at hR
  refine br_intro (fun h => ?_) (fun h => ?_) <;> set_option smartUnfolding false in conv => whnf
  · exact rdB (by rw [← hR, inL_cons, if_pos h])
  rw [inL_cons, if_neg (by rw [h]; simp)] at hR
  refine br_intro (fun h => ?_) (fun h => ?_) <;> set_option smartUnfolding false in conv => whnf
  · exact rdB (by rw [← hR, inL_cons, if_pos h])
  rw [inL_cons, if_neg (by rw [h]; simp)] at hR
  refine br_intro (fun h => ?_) (fun h => ?_) <;> set_option smartUnfolding false in conv => whnf
  · exact rdB (by rw [← hR, inL_cons, if_pos h])
  rw [inL_cons, if_neg (by rw [h]; simp)] at hR
  refine br_intro (fun h => ?_) (fun h => ?_) <;> set_option smartUnfolding false in conv => whnf
  · exact rdB (by rw [← hR, inL_cons, if_pos h])
  rw [inL_cons, if_neg (by rw [h]; simp)] at hR
  refine br_intro (fun h => ?_) (fun h => ?_) <;> set_option smartUnfolding false in conv => whnf
  · exact rdB (by rw [← hR, inL_cons, if_pos h])
  rw [inL_cons, if_neg (by rw [h]; simp)] at hR
  refine br_intro (fun h => ?_) (fun h => ?_) <;> set_option smartUnfolding false in conv => whnf
  · exact rdB (by rw [← hR, inL_cons, if_pos h])
  rw [inL_cons, if_neg (by rw [h]; simp)] at hR
  refine br_intro (fun h => ?_) (fun h => ?_) <;> set_option smartUnfolding false in conv => whnf
  · exact rdB (by rw [← hR, inL_cons, if_pos h])
  rw [inL_cons, if_neg (by rw [h]; simp)] at hR
  refine br_intro (fun h => ?_) (fun h => ?_) <;> set_option smartUnfolding false in conv => whnf
  · exact rdB (by rw [← hR, inL_cons, if_pos h])
  rw [inL_cons, if_neg (by rw [h]; simp)] at hR
  refine br_intro (fun h => ?_) (fun h => ?_) <;> set_option smartUnfolding false in conv => whnf
  · exact rdB (by rw [← hR, inL_cons, if_pos h])
  rw [inL_cons, if_neg (by rw [h]; simp)] at hR
  refine br_intro (fun h => ?_) (fun h => ?_) <;> set_option smartUnfolding false in conv => whnf
  · exact rdB (by rw [← hR, inL_cons, if_pos h])
  rw [inL_cons, if_neg (by rw [h]; simp)] at hR
  refine br_intro (fun h => ?_) (fun h => ?_) <;> set_option smartUnfolding false in conv => whnf
  · exact rdB (by rw [← hR, inL_cons, if_pos h])
  rw [inL_cons, if_neg (by rw [h]; simp)] at hR
  refine br_intro (fun h => ?_) (fun h => ?_) <;> set_option smartUnfolding false in conv => whnf
  · exact rdB (by rw [← hR, inL_cons, if_pos h])
  rw [inL_cons, if_neg (by rw [h]; simp)] at hR
  refine br_intro (fun h => ?_) (fun h => ?_) <;> set_option smartUnfolding false in conv => whnf
  · exact rdB (by rw [← hR, inL_cons, if_pos h])
  rw [inL_cons, if_neg (by rw [h]; simp)] at hR
  refine br_intro (fun h => ?_) (fun h => ?_) <;> set_option smartUnfolding false in conv => whnf
  · exact rdB (by rw [← hR, inL_cons, if_pos h])
  rw [inL_cons, if_neg (by rw [h]; simp)] at hR
  refine br_intro (fun h => ?_) (fun h => ?_) <;> set_option smartUnfolding false in conv => whnf
  · exact rdB (by rw [← hR, inL_cons, if_pos h])
  rw [inL_cons, if_neg (by rw [h]; simp)] at hR
  refine br_intro (fun h => ?_) (fun h => ?_) <;> set_option smartUnfolding false in conv => whnf
  · exact rdB (by rw [← hR, inL_cons, if_pos h])
  rw [inL_cons, if_neg (by rw [h]; simp)] at hR
  refine br_intro (fun h => ?_) (fun h => ?_) <;> set_option smartUnfolding false in conv => whnf
  · exact rdB (by rw [← hR, inL_cons, if_pos h])
  rw [inL_cons, if_neg (by rw [h]; simp)] at hR
  refine br_intro (fun h => ?_) (fun h => ?_) <;> set_option smartUnfolding false in conv => whnf
  · exact rdB (by rw [← hR, inL_cons, if_pos h])
  rw [inL_cons, if_neg (by rw [h]; simp)] at hR
  refine br_intro (fun h => ?_) (fun h => ?_) <;> set_option smartUnfolding false in conv => whnf
  · exact rdB (by rw [← hR, inL_cons, if_pos h])
  rw [inL_cons, if_neg (by rw [h]; simp)] at hR
  refine br_intro (fun h => ?_) (fun h => ?_) <;> set_option smartUnfolding false in conv => whnf
  · exact rdB (by rw [← hR, inL_cons, if_pos h])
  rw [inL_cons, if_neg (by rw [h]; simp)] at hR
  refine br_intro (fun h => ?_) (fun h => ?_) <;> set_option smartUnfolding false in conv => whnf
  · exact rdB (by rw [← hR, inL_cons, if_pos h])
  rw [inL_cons, if_neg (by rw [h]; simp)] at hR
  refine br_intro (fun h => ?_) (fun h => ?_) <;> set_option smartUnfolding false in conv => whnf
  · exact rdB (by rw [← hR, inL_cons, if_pos h])
  rw [inL_cons, if_neg (by rw [h]; simp)] at hR
  refine br_intro (fun h => ?_) (fun h => ?_) <;> set_option smartUnfolding false in conv => whnf
  · exact rdB (by rw [← hR, inL_cons, if_pos h])
  rw [inL_cons, if_neg (by rw [h]; simp)] at hR
  refine br_intro (fun h => ?_) (fun h => ?_) <;> set_option smartUnfolding false in conv => whnf
  · exact rdB (by rw [← hR, inL_cons, if_pos h])
  rw [inL_cons, if_neg (by rw [h]; simp)] at hR
  refine br_intro (fun h => ?_) (fun h => ?_) <;> set_option smartUnfolding false in conv => whnf
  · exact rdB (by rw [← hR, inL_cons, if_pos h])
  rw [inL_cons, if_neg (by rw [h]; simp)] at hR
  exact rdB (by rw [← hR, inL_nil])

def strsP (l : List ByteArray) : List PV := l.map .str
theorem strsP_len (l : List ByteArray) : (strsP l).length = l.length := by simp [strsP]
theorem strsP_get {l : List ByteArray} {i : Nat} (h : i < l.length) : ∃ a, (strsP l)[i]? = some (.str a) ∧ l.drop i = a :: l.drop (i + 1) :=
  ⟨l[i], by simp [strsP, h], List.drop_eq_getElem_cons h⟩
theorem words_len : words.length = 28 := rfl
attribute [irreducible] strsP words
theorem kw_r (s : ByteArray) : Det Tryz.prog 127 [.str s] (.bool (inL s words)) := by
  generalize hR : inL s words = R
  have hwl := words_len
  refine det_of_vc' (E := S.E 0) rfl fol Tryz.func127 rfl rfl (slots := [2]) rfl rfl fun hw => ?_
  set_option smartUnfolding false in conv => whnf
  refine vloop_intro (σ := Nat) (fun i => i ≤ 28 ∧ inL s (words.drop i) = R) (fun i => [(0, .pv (.str s)), (3, .pv (.lst 1 (strsP words))), (4, .pv (.int .i64 i))]) (fun _ => [.dead]) (fun i => 28 - i) 0 ⟨by simp, by simpa using hR⟩ (weak_read [0] rfl ⟨rfl, trivial⟩ ⟨⟨_, rfl, .inl rfl⟩, ⟨_, rfl, .inr ⟨_, rfl, rd_row (t := 9) (ps := strsP words) (.head _) (by kernel_rfl) (by rw [strsP_len, words_len])⟩⟩, ⟨_, rfl, .inl rfl⟩, trivial⟩) ?_
  rintro i ⟨hi, hs⟩
  set_option smartUnfolding false in conv => whnf
  refine br_intro (fun h => ?_) (fun h => ?_) <;> set_option smartUnfolding false in conv => whnf
  · replace h : i < 28 := by have := dT h; rw [strsP_len, hwl] at this; omega
    obtain ⟨a, hg, hd⟩ := strsP_get (l := words) (i := i) (by omega)
    rw [hd, inL_cons] at hs
    refine ⟨.str a, ⟨by simp, by simpa using hg⟩, ?_⟩
    set_option smartUnfolding false in conv => whnf
    refine br_intro (fun g => ?_) (fun g => ?_) <;> set_option smartUnfolding false in conv => whnf
    · exact rdB (by rw [← hs, if_pos (by rw [BEq.comm]; exact g)])
    · rw [if_neg (by rw [BEq.comm, g]; simp)] at hs
      exact ⟨i + 1, ⟨h, hs⟩, weak_sub ⟨(by kernel_rfl), (by kernel_rfl), sUp (n := 28) h (by omega), trivial⟩, subUp h⟩
  · replace h : ¬ i < 28 := by have := dF h; rw [strsP_len, hwl] at this; omega
    rw [List.drop_of_length_le (by omega), inL_nil] at hs
    exact rdB hs
end Go.AM
