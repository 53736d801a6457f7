import Derived.Test.YtfkkfgeepiopaaaGreatProg
import Derived.Test.YtfkkfgeepiopaaaGreatAmE
set_option linter.all false
namespace Go.AM
open Go.Proofs

def S.td1 : TD := ⟨true, .other, 1, 8, false, [.raw (Go.Value.nilFunc)]⟩
theorem S.tk1 : TDok Tryz.prog 1 S.td1 := td_raw (info_of Tryz.type1) rfl rfl rfl rfl rfl Tryz.isAgg1
def S.td2 : TD := ⟨true, .int Go.IntKind.i64, 1, 8, false, [.int Go.IntKind.i64 0]⟩
theorem S.tk2 : TDok Tryz.prog 2 S.td2 := td_int (info_of Tryz.type2) rfl rfl rfl Tryz.isAgg2 Tryz.underlying2
def S.td3 : TD := ⟨true, .int Go.IntKind.i64, 1, 8, false, [.int Go.IntKind.i64 0]⟩
theorem S.tk3 : TDok Tryz.prog 3 S.td3 := td_int (info_of Tryz.type3) rfl rfl rfl Tryz.isAgg3 Tryz.underlying3
def S.td4 : TD := ⟨true, .bool, 1, 1, false, [.bool false]⟩
theorem S.tk4 : TDok Tryz.prog 4 S.td4 := td_bool (info_of Tryz.type4) rfl rfl rfl Tryz.isAgg4 Tryz.underlying4
def S.td5 : TD := ⟨true, .int Go.IntKind.u8, 1, 1, false, [.int Go.IntKind.u8 0]⟩
theorem S.tk5 : TDok Tryz.prog 5 S.td5 := td_int (info_of Tryz.type5) rfl rfl rfl Tryz.isAgg5 Tryz.underlying5
def S.td6 : TD := ⟨true, .int Go.IntKind.u8, 1, 1, false, [.int Go.IntKind.u8 0]⟩
theorem S.tk6 : TDok Tryz.prog 6 S.td6 := td_int (info_of Tryz.type6) rfl rfl rfl Tryz.isAgg6 Tryz.underlying6
def S.td7 : TD := ⟨true, .struct [(0, 1, false), (1, 1, false), (2, 1, false), (3, 1, false)], 4, 24, true, [.int Go.IntKind.i64 0, .int Go.IntKind.i64 0, .bool false, .int Go.IntKind.u8 0]⟩
theorem S.tk7 : TDok Tryz.prog 7 S.td7 := td_struct (zs := [Go.Value.int Go.IntKind.i64 0, Go.Value.int Go.IntKind.i64 0, Go.Value.bool false, Go.Value.int Go.IntKind.u8 0]) (info_of Tryz.type7) rfl rfl rfl rfl rfl rfl Tryz.isAgg7 Tryz.underlying7 (⟨⟨rfl, ⟨_, info_of Tryz.type2, rfl⟩, by decide, Tryz.isAgg2⟩, ⟨⟨rfl, ⟨_, info_of Tryz.type3, rfl⟩, by decide, Tryz.isAgg3⟩, ⟨⟨rfl, ⟨_, info_of Tryz.type4, rfl⟩, by decide, Tryz.isAgg4⟩, ⟨⟨rfl, ⟨_, info_of Tryz.type6, rfl⟩, by decide, Tryz.isAgg6⟩, trivial⟩⟩⟩⟩)
def S.td8 : TD := ⟨true, .struct [(0, 1, false), (1, 1, false), (2, 1, false), (3, 1, false)], 4, 24, true, [.int Go.IntKind.i64 0, .int Go.IntKind.i64 0, .bool false, .int Go.IntKind.u8 0]⟩
theorem S.tk8 : TDok Tryz.prog 8 S.td8 := td_struct (zs := [Go.Value.int Go.IntKind.i64 0, Go.Value.int Go.IntKind.i64 0, Go.Value.bool false, Go.Value.int Go.IntKind.u8 0]) (info_of Tryz.type8) rfl rfl rfl rfl rfl rfl Tryz.isAgg8 Tryz.underlying8 (⟨⟨rfl, ⟨_, info_of Tryz.type2, rfl⟩, by decide, Tryz.isAgg2⟩, ⟨⟨rfl, ⟨_, info_of Tryz.type3, rfl⟩, by decide, Tryz.isAgg3⟩, ⟨⟨rfl, ⟨_, info_of Tryz.type4, rfl⟩, by decide, Tryz.isAgg4⟩, ⟨⟨rfl, ⟨_, info_of Tryz.type6, rfl⟩, by decide, Tryz.isAgg6⟩, trivial⟩⟩⟩⟩)
def S.td9 : TD := ⟨true, .string, 1, 16, false, [.str (ByteArray.mk #[])]⟩
theorem S.tk9 : TDok Tryz.prog 9 S.td9 := td_str (info_of Tryz.type9) rfl rfl rfl Tryz.isAgg9 Tryz.underlying9
def S.td10 : TD := ⟨true, .string, 1, 16, false, [.str (ByteArray.mk #[])]⟩
theorem S.tk10 : TDok Tryz.prog 10 S.td10 := td_str (info_of Tryz.type10) rfl rfl rfl Tryz.isAgg10 Tryz.underlying10
def S.td11 : TD := ⟨true, .string, 1, 16, false, [.str (ByteArray.mk #[])]⟩
theorem S.tk11 : TDok Tryz.prog 11 S.td11 := td_str (info_of Tryz.type11) rfl rfl rfl Tryz.isAgg11 Tryz.underlying11
def S.td12 : TD := ⟨true, .int Go.IntKind.u64, 1, 8, false, [.int Go.IntKind.u64 0]⟩
theorem S.tk12 : TDok Tryz.prog 12 S.td12 := td_int (info_of Tryz.type12) rfl rfl rfl Tryz.isAgg12 Tryz.underlying12
def S.td13 : TD := ⟨true, .struct [(0, 1, false), (1, 1, false)], 2, 24, true, [.str (ByteArray.mk #[]), .int Go.IntKind.u64 0]⟩
theorem S.tk13 : TDok Tryz.prog 13 S.td13 := td_struct (zs := [Go.Value.string { data := #[] }, Go.Value.int Go.IntKind.u64 0]) (info_of Tryz.type13) rfl rfl rfl rfl rfl rfl Tryz.isAgg13 Tryz.underlying13 (⟨⟨rfl, ⟨_, info_of Tryz.type9, rfl⟩, by decide, Tryz.isAgg9⟩, ⟨⟨rfl, ⟨_, info_of Tryz.type12, rfl⟩, by decide, Tryz.isAgg12⟩, trivial⟩⟩)
def S.td14 : TD := ⟨true, .struct [(0, 1, false), (1, 1, false)], 2, 24, true, [.str (ByteArray.mk #[]), .int Go.IntKind.u64 0]⟩
theorem S.tk14 : TDok Tryz.prog 14 S.td14 := td_struct (zs := [Go.Value.string { data := #[] }, Go.Value.int Go.IntKind.u64 0]) (info_of Tryz.type14) rfl rfl rfl rfl rfl rfl Tryz.isAgg14 Tryz.underlying14 (⟨⟨rfl, ⟨_, info_of Tryz.type9, rfl⟩, by decide, Tryz.isAgg9⟩, ⟨⟨rfl, ⟨_, info_of Tryz.type12, rfl⟩, by decide, Tryz.isAgg12⟩, trivial⟩⟩)
def S.td15 : TD := ⟨true, .other, 1, 8, false, [.raw (Go.Value.pointer none)]⟩
theorem S.tk15 : TDok Tryz.prog 15 S.td15 := td_raw (info_of Tryz.type15) rfl rfl rfl rfl rfl Tryz.isAgg15
def S.td16 : TD := ⟨true, .other, 1, 8, false, [.raw (Go.Value.pointer none)]⟩
theorem S.tk16 : TDok Tryz.prog 16 S.td16 := td_raw (info_of Tryz.type16) rfl rfl rfl rfl rfl Tryz.isAgg16
def S.td17 : TD := ⟨true, .other, 1, 8, false, [.raw (Go.Value.pointer none)]⟩
theorem S.tk17 : TDok Tryz.prog 17 S.td17 := td_raw (info_of Tryz.type17) rfl rfl rfl rfl rfl Tryz.isAgg17
def S.td18 : TD := ⟨true, .struct [(0, 1, false)], 1, 8, true, [.raw (Go.Value.pointer none)]⟩
theorem S.tk18 : TDok Tryz.prog 18 S.td18 := td_struct (zs := [Go.Value.pointer none]) (info_of Tryz.type18) rfl rfl rfl rfl rfl rfl Tryz.isAgg18 Tryz.underlying18 (⟨⟨rfl, ⟨_, info_of Tryz.type17, rfl⟩, by decide, Tryz.isAgg17⟩, trivial⟩)
def S.td19 : TD := ⟨true, .struct [(0, 1, false)], 1, 8, true, [.raw (Go.Value.pointer none)]⟩
theorem S.tk19 : TDok Tryz.prog 19 S.td19 := td_struct (zs := [Go.Value.pointer none]) (info_of Tryz.type19) rfl rfl rfl rfl rfl rfl Tryz.isAgg19 Tryz.underlying19 (⟨⟨rfl, ⟨_, info_of Tryz.type17, rfl⟩, by decide, Tryz.isAgg17⟩, trivial⟩)
def S.td20 : TD := ⟨true, .other, 1, 16, false, [.raw (Go.Value.nilIface)]⟩
theorem S.tk20 : TDok Tryz.prog 20 S.td20 := td_raw (info_of Tryz.type20) rfl rfl rfl rfl rfl Tryz.isAgg20
def S.td21 : TD := ⟨true, .int Go.IntKind.i32, 1, 4, false, [.int Go.IntKind.i32 0]⟩
theorem S.tk21 : TDok Tryz.prog 21 S.td21 := td_int (info_of Tryz.type21) rfl rfl rfl Tryz.isAgg21 Tryz.underlying21
def S.td22 : TD := ⟨true, .slice 36, 1, 24, false, [.nils]⟩
theorem S.tk22 : TDok Tryz.prog 22 S.td22 := td_slice (info_of Tryz.type22) rfl rfl rfl Tryz.isAgg22 Tryz.underlying22
def S.td23 : TD := ⟨true, .slice 25, 1, 24, false, [.nils]⟩
theorem S.tk23 : TDok Tryz.prog 23 S.td23 := td_slice (info_of Tryz.type23) rfl rfl rfl Tryz.isAgg23 Tryz.underlying23
def S.td24 : TD := ⟨true, .struct [(0, 1, false), (1, 1, false), (2, 1, false)], 3, 40, true, [.int Go.IntKind.i64 0, .int Go.IntKind.i64 0, .nils]⟩
theorem S.tk24 : TDok Tryz.prog 24 S.td24 := td_struct (zs := [Go.Value.int Go.IntKind.i64 0, Go.Value.int Go.IntKind.i64 0, Go.Value.slice none 0 0]) (info_of Tryz.type24) rfl rfl rfl rfl rfl rfl Tryz.isAgg24 Tryz.underlying24 (⟨⟨rfl, ⟨_, info_of Tryz.type3, rfl⟩, by decide, Tryz.isAgg3⟩, ⟨⟨rfl, ⟨_, info_of Tryz.type2, rfl⟩, by decide, Tryz.isAgg2⟩, ⟨⟨rfl, ⟨_, info_of Tryz.type23, rfl⟩, by decide, Tryz.isAgg23⟩, trivial⟩⟩⟩)
def S.td25 : TD := ⟨true, .struct [(0, 1, false), (1, 1, false), (2, 1, false)], 3, 40, true, [.int Go.IntKind.i64 0, .int Go.IntKind.i64 0, .nils]⟩
theorem S.tk25 : TDok Tryz.prog 25 S.td25 := td_struct (zs := [Go.Value.int Go.IntKind.i64 0, Go.Value.int Go.IntKind.i64 0, Go.Value.slice none 0 0]) (info_of Tryz.type25) rfl rfl rfl rfl rfl rfl Tryz.isAgg25 Tryz.underlying25 (⟨⟨rfl, ⟨_, info_of Tryz.type3, rfl⟩, by decide, Tryz.isAgg3⟩, ⟨⟨rfl, ⟨_, info_of Tryz.type2, rfl⟩, by decide, Tryz.isAgg2⟩, ⟨⟨rfl, ⟨_, info_of Tryz.type23, rfl⟩, by decide, Tryz.isAgg23⟩, trivial⟩⟩⟩)
def S.td26 : TD := ⟨true, .slice 28, 1, 24, false, [.nils]⟩
theorem S.tk26 : TDok Tryz.prog 26 S.td26 := td_slice (info_of Tryz.type26) rfl rfl rfl Tryz.isAgg26 Tryz.underlying26
def S.td27 : TD := ⟨true, .struct [(0, 1, false), (1, 1, false), (2, 1, false)], 3, 40, true, [.int Go.IntKind.i64 0, .int Go.IntKind.i64 0, .nils]⟩
theorem S.tk27 : TDok Tryz.prog 27 S.td27 := td_struct (zs := [Go.Value.int Go.IntKind.i64 0, Go.Value.int Go.IntKind.i64 0, Go.Value.slice none 0 0]) (info_of Tryz.type27) rfl rfl rfl rfl rfl rfl Tryz.isAgg27 Tryz.underlying27 (⟨⟨rfl, ⟨_, info_of Tryz.type3, rfl⟩, by decide, Tryz.isAgg3⟩, ⟨⟨rfl, ⟨_, info_of Tryz.type3, rfl⟩, by decide, Tryz.isAgg3⟩, ⟨⟨rfl, ⟨_, info_of Tryz.type26, rfl⟩, by decide, Tryz.isAgg26⟩, trivial⟩⟩⟩)
def S.td28 : TD := ⟨true, .struct [(0, 1, false), (1, 1, false), (2, 1, false)], 3, 40, true, [.int Go.IntKind.i64 0, .int Go.IntKind.i64 0, .nils]⟩
theorem S.tk28 : TDok Tryz.prog 28 S.td28 := td_struct (zs := [Go.Value.int Go.IntKind.i64 0, Go.Value.int Go.IntKind.i64 0, Go.Value.slice none 0 0]) (info_of Tryz.type28) rfl rfl rfl rfl rfl rfl Tryz.isAgg28 Tryz.underlying28 (⟨⟨rfl, ⟨_, info_of Tryz.type3, rfl⟩, by decide, Tryz.isAgg3⟩, ⟨⟨rfl, ⟨_, info_of Tryz.type3, rfl⟩, by decide, Tryz.isAgg3⟩, ⟨⟨rfl, ⟨_, info_of Tryz.type26, rfl⟩, by decide, Tryz.isAgg26⟩, trivial⟩⟩⟩)
def S.td29 : TD := ⟨true, .other, 1, 8, false, [.raw (Go.Value.nilFunc)]⟩
theorem S.tk29 : TDok Tryz.prog 29 S.td29 := td_raw (info_of Tryz.type29) rfl rfl rfl rfl rfl Tryz.isAgg29
def S.td30 : TD := ⟨true, .other, 1, 8, false, [.raw (Go.Value.nilFunc)]⟩
theorem S.tk30 : TDok Tryz.prog 30 S.td30 := td_raw (info_of Tryz.type30) rfl rfl rfl rfl rfl Tryz.isAgg30
def S.td31 : TD := ⟨true, .other, 1, 8, false, [.raw (Go.Value.nilFunc)]⟩
theorem S.tk31 : TDok Tryz.prog 31 S.td31 := td_raw (info_of Tryz.type31) rfl rfl rfl rfl rfl Tryz.isAgg31
def S.td32 : TD := ⟨true, .struct [(0, 1, false), (1, 1, false)], 2, 40, true, [.str (ByteArray.mk #[]), .nils]⟩
theorem S.tk32 : TDok Tryz.prog 32 S.td32 := td_struct (zs := [Go.Value.string { data := #[] }, Go.Value.slice none 0 0]) (info_of Tryz.type32) rfl rfl rfl rfl rfl rfl Tryz.isAgg32 Tryz.underlying32 (⟨⟨rfl, ⟨_, info_of Tryz.type9, rfl⟩, by decide, Tryz.isAgg9⟩, ⟨⟨rfl, ⟨_, info_of Tryz.type26, rfl⟩, by decide, Tryz.isAgg26⟩, trivial⟩⟩)
def S.td33 : TD := ⟨true, .struct [(0, 1, false), (1, 1, false)], 2, 40, true, [.str (ByteArray.mk #[]), .nils]⟩
theorem S.tk33 : TDok Tryz.prog 33 S.td33 := td_struct (zs := [Go.Value.string { data := #[] }, Go.Value.slice none 0 0]) (info_of Tryz.type33) rfl rfl rfl rfl rfl rfl Tryz.isAgg33 Tryz.underlying33 (⟨⟨rfl, ⟨_, info_of Tryz.type9, rfl⟩, by decide, Tryz.isAgg9⟩, ⟨⟨rfl, ⟨_, info_of Tryz.type26, rfl⟩, by decide, Tryz.isAgg26⟩, trivial⟩⟩)
def S.td34 : TD := ⟨true, .slice 33, 1, 24, false, [.nils]⟩
theorem S.tk34 : TDok Tryz.prog 34 S.td34 := td_slice (info_of Tryz.type34) rfl rfl rfl Tryz.isAgg34 Tryz.underlying34
def S.td35 : TD := ⟨true, .struct [(0, 1, false), (1, 1, false), (2, 1, false)], 3, 48, true, [.str (ByteArray.mk #[]), .int Go.IntKind.i64 0, .nils]⟩
theorem S.tk35 : TDok Tryz.prog 35 S.td35 := td_struct (zs := [Go.Value.string { data := #[] }, Go.Value.int Go.IntKind.i64 0, Go.Value.slice none 0 0]) (info_of Tryz.type35) rfl rfl rfl rfl rfl rfl Tryz.isAgg35 Tryz.underlying35 (⟨⟨rfl, ⟨_, info_of Tryz.type9, rfl⟩, by decide, Tryz.isAgg9⟩, ⟨⟨rfl, ⟨_, info_of Tryz.type3, rfl⟩, by decide, Tryz.isAgg3⟩, ⟨⟨rfl, ⟨_, info_of Tryz.type34, rfl⟩, by decide, Tryz.isAgg34⟩, trivial⟩⟩⟩)
def S.td36 : TD := ⟨true, .struct [(0, 1, false), (1, 1, false), (2, 1, false)], 3, 48, true, [.str (ByteArray.mk #[]), .int Go.IntKind.i64 0, .nils]⟩
theorem S.tk36 : TDok Tryz.prog 36 S.td36 := td_struct (zs := [Go.Value.string { data := #[] }, Go.Value.int Go.IntKind.i64 0, Go.Value.slice none 0 0]) (info_of Tryz.type36) rfl rfl rfl rfl rfl rfl Tryz.isAgg36 Tryz.underlying36 (⟨⟨rfl, ⟨_, info_of Tryz.type9, rfl⟩, by decide, Tryz.isAgg9⟩, ⟨⟨rfl, ⟨_, info_of Tryz.type3, rfl⟩, by decide, Tryz.isAgg3⟩, ⟨⟨rfl, ⟨_, info_of Tryz.type34, rfl⟩, by decide, Tryz.isAgg34⟩, trivial⟩⟩⟩)
def S.td37 : TD := ⟨true, .other, 1, 8, false, [.raw (Go.Value.nilFunc)]⟩
theorem S.tk37 : TDok Tryz.prog 37 S.td37 := td_raw (info_of Tryz.type37) rfl rfl rfl rfl rfl Tryz.isAgg37
def S.td38 : TD := ⟨true, .other, 1, 8, false, [.raw (Go.Value.nilFunc)]⟩
theorem S.tk38 : TDok Tryz.prog 38 S.td38 := td_raw (info_of Tryz.type38) rfl rfl rfl rfl rfl Tryz.isAgg38
def S.td39 : TD := ⟨true, .other, 1, 8, false, [.raw (Go.Value.nilFunc)]⟩
theorem S.tk39 : TDok Tryz.prog 39 S.td39 := td_raw (info_of Tryz.type39) rfl rfl rfl rfl rfl Tryz.isAgg39
def S.td40 : TD := ⟨true, .other, 1, 8, false, [.raw (Go.Value.nilFunc)]⟩
theorem S.tk40 : TDok Tryz.prog 40 S.td40 := td_raw (info_of Tryz.type40) rfl rfl rfl rfl rfl Tryz.isAgg40
def S.td41 : TD := ⟨true, .other, 1, 8, false, [.raw (Go.Value.pointer none)]⟩
theorem S.tk41 : TDok Tryz.prog 41 S.td41 := td_raw (info_of Tryz.type41) rfl rfl rfl rfl rfl Tryz.isAgg41
def S.td42 : TD := ⟨true, .other, 1, 8, false, [.raw (Go.Value.nilFunc)]⟩
theorem S.tk42 : TDok Tryz.prog 42 S.td42 := td_raw (info_of Tryz.type42) rfl rfl rfl rfl rfl Tryz.isAgg42
def S.td43 : TD := ⟨true, .other, 1, 8, false, [.raw (Go.Value.nilFunc)]⟩
theorem S.tk43 : TDok Tryz.prog 43 S.td43 := td_raw (info_of Tryz.type43) rfl rfl rfl rfl rfl Tryz.isAgg43
def S.td44 : TD := ⟨true, .other, 1, 8, false, [.raw (Go.Value.nilFunc)]⟩
theorem S.tk44 : TDok Tryz.prog 44 S.td44 := td_raw (info_of Tryz.type44) rfl rfl rfl rfl rfl Tryz.isAgg44
def S.td45 : TD := ⟨true, .other, 1, 8, false, [.raw (Go.Value.nilFunc)]⟩
theorem S.tk45 : TDok Tryz.prog 45 S.td45 := td_raw (info_of Tryz.type45) rfl rfl rfl rfl rfl Tryz.isAgg45
def S.td46 : TD := ⟨true, .slice 4, 1, 24, false, [.nils]⟩
theorem S.tk46 : TDok Tryz.prog 46 S.td46 := td_slice (info_of Tryz.type46) rfl rfl rfl Tryz.isAgg46 Tryz.underlying46
def S.td47 : TD := ⟨true, .other, 1, 8, false, [.raw (Go.Value.nilFunc)]⟩
theorem S.tk47 : TDok Tryz.prog 47 S.td47 := td_raw (info_of Tryz.type47) rfl rfl rfl rfl rfl Tryz.isAgg47
def S.td48 : TD := ⟨true, .other, 1, 8, false, [.raw (Go.Value.nilFunc)]⟩
theorem S.tk48 : TDok Tryz.prog 48 S.td48 := td_raw (info_of Tryz.type48) rfl rfl rfl rfl rfl Tryz.isAgg48
def S.td49 : TD := ⟨true, .other, 1, 8, false, [.raw (Go.Value.nilFunc)]⟩
theorem S.tk49 : TDok Tryz.prog 49 S.td49 := td_raw (info_of Tryz.type49) rfl rfl rfl rfl rfl Tryz.isAgg49
def S.td50 : TD := ⟨true, .other, 1, 8, false, [.raw (Go.Value.nilFunc)]⟩
theorem S.tk50 : TDok Tryz.prog 50 S.td50 := td_raw (info_of Tryz.type50) rfl rfl rfl rfl rfl Tryz.isAgg50
def S.td51 : TD := ⟨true, .other, 1, 8, false, [.raw (Go.Value.nilFunc)]⟩
theorem S.tk51 : TDok Tryz.prog 51 S.td51 := td_raw (info_of Tryz.type51) rfl rfl rfl rfl rfl Tryz.isAgg51
def S.td52 : TD := ⟨true, .other, 1, 8, false, [.raw (Go.Value.nilFunc)]⟩
theorem S.tk52 : TDok Tryz.prog 52 S.td52 := td_raw (info_of Tryz.type52) rfl rfl rfl rfl rfl Tryz.isAgg52
def S.td53 : TD := ⟨true, .slice 75, 1, 24, false, [.nils]⟩
theorem S.tk53 : TDok Tryz.prog 53 S.td53 := td_slice (info_of Tryz.type53) rfl rfl rfl Tryz.isAgg53 Tryz.underlying53
def S.td54 : TD := ⟨true, .slice 91, 1, 24, false, [.nils]⟩
theorem S.tk54 : TDok Tryz.prog 54 S.td54 := td_slice (info_of Tryz.type54) rfl rfl rfl Tryz.isAgg54 Tryz.underlying54
def S.td55 : TD := ⟨true, .struct [(0, 1, false), (1, 1, false), (2, 1, false), (3, 1, false)], 4, 96, true, [.nils, .nils, .nils, .nils]⟩
theorem S.tk55 : TDok Tryz.prog 55 S.td55 := td_struct (zs := [Go.Value.slice none 0 0, Go.Value.slice none 0 0, Go.Value.slice none 0 0, Go.Value.slice none 0 0]) (info_of Tryz.type55) rfl rfl rfl rfl rfl rfl Tryz.isAgg55 Tryz.underlying55 (⟨⟨rfl, ⟨_, info_of Tryz.type22, rfl⟩, by decide, Tryz.isAgg22⟩, ⟨⟨rfl, ⟨_, info_of Tryz.type53, rfl⟩, by decide, Tryz.isAgg53⟩, ⟨⟨rfl, ⟨_, info_of Tryz.type26, rfl⟩, by decide, Tryz.isAgg26⟩, ⟨⟨rfl, ⟨_, info_of Tryz.type54, rfl⟩, by decide, Tryz.isAgg54⟩, trivial⟩⟩⟩⟩)
def S.td56 : TD := ⟨true, .struct [(0, 1, false), (1, 1, false), (2, 1, false), (3, 1, false)], 4, 96, true, [.nils, .nils, .nils, .nils]⟩
theorem S.tk56 : TDok Tryz.prog 56 S.td56 := td_struct (zs := [Go.Value.slice none 0 0, Go.Value.slice none 0 0, Go.Value.slice none 0 0, Go.Value.slice none 0 0]) (info_of Tryz.type56) rfl rfl rfl rfl rfl rfl Tryz.isAgg56 Tryz.underlying56 (⟨⟨rfl, ⟨_, info_of Tryz.type22, rfl⟩, by decide, Tryz.isAgg22⟩, ⟨⟨rfl, ⟨_, info_of Tryz.type53, rfl⟩, by decide, Tryz.isAgg53⟩, ⟨⟨rfl, ⟨_, info_of Tryz.type26, rfl⟩, by decide, Tryz.isAgg26⟩, ⟨⟨rfl, ⟨_, info_of Tryz.type54, rfl⟩, by decide, Tryz.isAgg54⟩, trivial⟩⟩⟩⟩)
def S.td57 : TD := ⟨true, .other, 1, 8, false, [.raw (Go.Value.nilFunc)]⟩
theorem S.tk57 : TDok Tryz.prog 57 S.td57 := td_raw (info_of Tryz.type57) rfl rfl rfl rfl rfl Tryz.isAgg57
def S.td59 : TD := ⟨true, .other, 1, 8, false, [.raw (Go.Value.nilFunc)]⟩
theorem S.tk59 : TDok Tryz.prog 59 S.td59 := td_raw (info_of Tryz.type59) rfl rfl rfl rfl rfl Tryz.isAgg59
def S.td60 : TD := ⟨true, .other, 1, 8, false, [.raw (Go.Value.nilFunc)]⟩
theorem S.tk60 : TDok Tryz.prog 60 S.td60 := td_raw (info_of Tryz.type60) rfl rfl rfl rfl rfl Tryz.isAgg60
def S.td61 : TD := ⟨true, .slice 9, 1, 24, false, [.nils]⟩
theorem S.tk61 : TDok Tryz.prog 61 S.td61 := td_slice (info_of Tryz.type61) rfl rfl rfl Tryz.isAgg61 Tryz.underlying61
def S.td62 : TD := ⟨true, .other, 1, 8, false, [.raw (Go.Value.nilFunc)]⟩
theorem S.tk62 : TDok Tryz.prog 62 S.td62 := td_raw (info_of Tryz.type62) rfl rfl rfl rfl rfl Tryz.isAgg62
def S.td63 : TD := ⟨true, .other, 1, 8, false, [.raw (Go.Value.nilFunc)]⟩
theorem S.tk63 : TDok Tryz.prog 63 S.td63 := td_raw (info_of Tryz.type63) rfl rfl rfl rfl rfl Tryz.isAgg63
def S.td64 : TD := ⟨true, .other, 1, 8, false, [.raw (Go.Value.nilFunc)]⟩
theorem S.tk64 : TDok Tryz.prog 64 S.td64 := td_raw (info_of Tryz.type64) rfl rfl rfl rfl rfl Tryz.isAgg64
def S.td65 : TD := ⟨true, .other, 1, 8, false, [.raw (Go.Value.nilFunc)]⟩
theorem S.tk65 : TDok Tryz.prog 65 S.td65 := td_raw (info_of Tryz.type65) rfl rfl rfl rfl rfl Tryz.isAgg65
def S.td66 : TD := ⟨true, .other, 1, 8, false, [.raw (Go.Value.nilFunc)]⟩
theorem S.tk66 : TDok Tryz.prog 66 S.td66 := td_raw (info_of Tryz.type66) rfl rfl rfl rfl rfl Tryz.isAgg66
def S.td67 : TD := ⟨true, .other, 1, 8, false, [.raw (Go.Value.pointer none)]⟩
theorem S.tk67 : TDok Tryz.prog 67 S.td67 := td_raw (info_of Tryz.type67) rfl rfl rfl rfl rfl Tryz.isAgg67
def S.td68 : TD := ⟨true, .slice 3, 1, 24, false, [.nils]⟩
theorem S.tk68 : TDok Tryz.prog 68 S.td68 := td_slice (info_of Tryz.type68) rfl rfl rfl Tryz.isAgg68 Tryz.underlying68
def S.td69 : TD := ⟨true, .slice 68, 1, 24, false, [.nils]⟩
theorem S.tk69 : TDok Tryz.prog 69 S.td69 := td_slice (info_of Tryz.type69) rfl rfl rfl Tryz.isAgg69 Tryz.underlying69
def S.td70 : TD := ⟨true, .struct [(0, 4, true), (4, 1, false), (5, 1, false), (6, 1, false), (7, 1, false)], 8, 192, true, [.nils, .nils, .nils, .nils, .nils, .nils, .nils, .nils]⟩
theorem S.tk70 : TDok Tryz.prog 70 S.td70 := td_struct (zs := [Go.Value.slice none 0 0, Go.Value.slice none 0 0, Go.Value.slice none 0 0, Go.Value.slice none 0 0, Go.Value.slice none 0 0, Go.Value.slice none 0 0, Go.Value.slice none 0 0, Go.Value.slice none 0 0]) (info_of Tryz.type70) rfl rfl rfl rfl rfl rfl Tryz.isAgg70 Tryz.underlying70 (⟨⟨rfl, ⟨_, info_of Tryz.type56, rfl⟩, by decide, Tryz.isAgg56⟩, ⟨⟨rfl, ⟨_, info_of Tryz.type68, rfl⟩, by decide, Tryz.isAgg68⟩, ⟨⟨rfl, ⟨_, info_of Tryz.type68, rfl⟩, by decide, Tryz.isAgg68⟩, ⟨⟨rfl, ⟨_, info_of Tryz.type68, rfl⟩, by decide, Tryz.isAgg68⟩, ⟨⟨rfl, ⟨_, info_of Tryz.type69, rfl⟩, by decide, Tryz.isAgg69⟩, trivial⟩⟩⟩⟩⟩)
def S.td71 : TD := ⟨true, .struct [(0, 4, true), (4, 1, false), (5, 1, false), (6, 1, false), (7, 1, false)], 8, 192, true, [.nils, .nils, .nils, .nils, .nils, .nils, .nils, .nils]⟩
theorem S.tk71 : TDok Tryz.prog 71 S.td71 := td_struct (zs := [Go.Value.slice none 0 0, Go.Value.slice none 0 0, Go.Value.slice none 0 0, Go.Value.slice none 0 0, Go.Value.slice none 0 0, Go.Value.slice none 0 0, Go.Value.slice none 0 0, Go.Value.slice none 0 0]) (info_of Tryz.type71) rfl rfl rfl rfl rfl rfl Tryz.isAgg71 Tryz.underlying71 (⟨⟨rfl, ⟨_, info_of Tryz.type56, rfl⟩, by decide, Tryz.isAgg56⟩, ⟨⟨rfl, ⟨_, info_of Tryz.type68, rfl⟩, by decide, Tryz.isAgg68⟩, ⟨⟨rfl, ⟨_, info_of Tryz.type68, rfl⟩, by decide, Tryz.isAgg68⟩, ⟨⟨rfl, ⟨_, info_of Tryz.type68, rfl⟩, by decide, Tryz.isAgg68⟩, ⟨⟨rfl, ⟨_, info_of Tryz.type69, rfl⟩, by decide, Tryz.isAgg69⟩, trivial⟩⟩⟩⟩⟩)
def S.td72 : TD := ⟨true, .other, 1, 8, false, [.raw (Go.Value.nilFunc)]⟩
theorem S.tk72 : TDok Tryz.prog 72 S.td72 := td_raw (info_of Tryz.type72) rfl rfl rfl rfl rfl Tryz.isAgg72
def S.td73 : TD := ⟨true, .other, 1, 8, false, [.raw (Go.Value.nilFunc)]⟩
theorem S.tk73 : TDok Tryz.prog 73 S.td73 := td_raw (info_of Tryz.type73) rfl rfl rfl rfl rfl Tryz.isAgg73
def S.td74 : TD := ⟨true, .struct [(0, 1, false), (1, 1, false), (2, 1, false), (3, 3, true), (6, 1, false)], 7, 112, true, [.str (ByteArray.mk #[]), .nils, .nils, .int Go.IntKind.i64 0, .int Go.IntKind.i64 0, .nils, .int Go.IntKind.i64 0]⟩
theorem S.tk74 : TDok Tryz.prog 74 S.td74 := td_struct (zs := [Go.Value.string { data := #[] }, Go.Value.slice none 0 0, Go.Value.slice none 0 0, Go.Value.int Go.IntKind.i64 0, Go.Value.int Go.IntKind.i64 0, Go.Value.slice none 0 0, Go.Value.int Go.IntKind.i64 0]) (info_of Tryz.type74) rfl rfl rfl rfl rfl rfl Tryz.isAgg74 Tryz.underlying74 (⟨⟨rfl, ⟨_, info_of Tryz.type9, rfl⟩, by decide, Tryz.isAgg9⟩, ⟨⟨rfl, ⟨_, info_of Tryz.type68, rfl⟩, by decide, Tryz.isAgg68⟩, ⟨⟨rfl, ⟨_, info_of Tryz.type68, rfl⟩, by decide, Tryz.isAgg68⟩, ⟨⟨rfl, ⟨_, info_of Tryz.type28, rfl⟩, by decide, Tryz.isAgg28⟩, ⟨⟨rfl, ⟨_, info_of Tryz.type3, rfl⟩, by decide, Tryz.isAgg3⟩, trivial⟩⟩⟩⟩⟩)
def S.td75 : TD := ⟨true, .struct [(0, 1, false), (1, 1, false), (2, 1, false), (3, 3, true), (6, 1, false)], 7, 112, true, [.str (ByteArray.mk #[]), .nils, .nils, .int Go.IntKind.i64 0, .int Go.IntKind.i64 0, .nils, .int Go.IntKind.i64 0]⟩
theorem S.tk75 : TDok Tryz.prog 75 S.td75 := td_struct (zs := [Go.Value.string { data := #[] }, Go.Value.slice none 0 0, Go.Value.slice none 0 0, Go.Value.int Go.IntKind.i64 0, Go.Value.int Go.IntKind.i64 0, Go.Value.slice none 0 0, Go.Value.int Go.IntKind.i64 0]) (info_of Tryz.type75) rfl rfl rfl rfl rfl rfl Tryz.isAgg75 Tryz.underlying75 (⟨⟨rfl, ⟨_, info_of Tryz.type9, rfl⟩, by decide, Tryz.isAgg9⟩, ⟨⟨rfl, ⟨_, info_of Tryz.type68, rfl⟩, by decide, Tryz.isAgg68⟩, ⟨⟨rfl, ⟨_, info_of Tryz.type68, rfl⟩, by decide, Tryz.isAgg68⟩, ⟨⟨rfl, ⟨_, info_of Tryz.type28, rfl⟩, by decide, Tryz.isAgg28⟩, ⟨⟨rfl, ⟨_, info_of Tryz.type3, rfl⟩, by decide, Tryz.isAgg3⟩, trivial⟩⟩⟩⟩⟩)
def S.td76 : TD := ⟨true, .other, 1, 8, false, [.raw (Go.Value.nilFunc)]⟩
theorem S.tk76 : TDok Tryz.prog 76 S.td76 := td_raw (info_of Tryz.type76) rfl rfl rfl rfl rfl Tryz.isAgg76
def S.td77 : TD := ⟨true, .other, 1, 8, false, [.raw (Go.Value.nilFunc)]⟩
theorem S.tk77 : TDok Tryz.prog 77 S.td77 := td_raw (info_of Tryz.type77) rfl rfl rfl rfl rfl Tryz.isAgg77
def S.td78 : TD := ⟨true, .other, 1, 8, false, [.raw (Go.Value.nilFunc)]⟩
theorem S.tk78 : TDok Tryz.prog 78 S.td78 := td_raw (info_of Tryz.type78) rfl rfl rfl rfl rfl Tryz.isAgg78
def S.td79 : TD := ⟨true, .other, 1, 8, false, [.raw (Go.Value.nilFunc)]⟩
theorem S.tk79 : TDok Tryz.prog 79 S.td79 := td_raw (info_of Tryz.type79) rfl rfl rfl rfl rfl Tryz.isAgg79
def S.td80 : TD := ⟨true, .other, 1, 8, false, [.raw (Go.Value.nilFunc)]⟩
theorem S.tk80 : TDok Tryz.prog 80 S.td80 := td_raw (info_of Tryz.type80) rfl rfl rfl rfl rfl Tryz.isAgg80
def S.td81 : TD := ⟨true, .slice 86, 1, 24, false, [.nils]⟩
theorem S.tk81 : TDok Tryz.prog 81 S.td81 := td_slice (info_of Tryz.type81) rfl rfl rfl Tryz.isAgg81 Tryz.underlying81
def S.td82 : TD := ⟨true, .int Go.IntKind.i64, 1, 8, false, [.int Go.IntKind.i64 0]⟩
theorem S.tk82 : TDok Tryz.prog 82 S.td82 := td_int (info_of Tryz.type82) rfl rfl rfl Tryz.isAgg82 Tryz.underlying82
def S.td84 : TD := ⟨true, .other, 1, 8, false, [.raw (Go.Value.nilFunc)]⟩
theorem S.tk84 : TDok Tryz.prog 84 S.td84 := td_raw (info_of Tryz.type84) rfl rfl rfl rfl rfl Tryz.isAgg84
def S.td85 : TD := ⟨true, .struct [(0, 1, false), (1, 1, false), (2, 1, false)], 3, 32, true, [.int Go.IntKind.i64 0, .str (ByteArray.mk #[]), .int Go.IntKind.i64 0]⟩
theorem S.tk85 : TDok Tryz.prog 85 S.td85 := td_struct (zs := [Go.Value.int Go.IntKind.i64 0, Go.Value.string { data := #[] }, Go.Value.int Go.IntKind.i64 0]) (info_of Tryz.type85) rfl rfl rfl rfl rfl rfl Tryz.isAgg85 Tryz.underlying85 (⟨⟨rfl, ⟨_, info_of Tryz.type3, rfl⟩, by decide, Tryz.isAgg3⟩, ⟨⟨rfl, ⟨_, info_of Tryz.type9, rfl⟩, by decide, Tryz.isAgg9⟩, ⟨⟨rfl, ⟨_, info_of Tryz.type3, rfl⟩, by decide, Tryz.isAgg3⟩, trivial⟩⟩⟩)
def S.td86 : TD := ⟨true, .struct [(0, 1, false), (1, 1, false), (2, 1, false)], 3, 32, true, [.int Go.IntKind.i64 0, .str (ByteArray.mk #[]), .int Go.IntKind.i64 0]⟩
theorem S.tk86 : TDok Tryz.prog 86 S.td86 := td_struct (zs := [Go.Value.int Go.IntKind.i64 0, Go.Value.string { data := #[] }, Go.Value.int Go.IntKind.i64 0]) (info_of Tryz.type86) rfl rfl rfl rfl rfl rfl Tryz.isAgg86 Tryz.underlying86 (⟨⟨rfl, ⟨_, info_of Tryz.type3, rfl⟩, by decide, Tryz.isAgg3⟩, ⟨⟨rfl, ⟨_, info_of Tryz.type9, rfl⟩, by decide, Tryz.isAgg9⟩, ⟨⟨rfl, ⟨_, info_of Tryz.type3, rfl⟩, by decide, Tryz.isAgg3⟩, trivial⟩⟩⟩)
def S.td87 : TD := ⟨true, .smap, 1, 8, false, [.raw (.map Option.none)]⟩
theorem S.tk87 : TDok Tryz.prog 87 S.td87 := td_smap (info_of Tryz.type87) rfl rfl rfl Tryz.isAgg87 Tryz.underlying87 Tryz.underlying9 Tryz.underlying4 (info_of Tryz.type4) rfl
def S.td88 : TD := ⟨true, .other, 1, 8, false, [.raw (Go.Value.nilFunc)]⟩
theorem S.tk88 : TDok Tryz.prog 88 S.td88 := td_raw (info_of Tryz.type88) rfl rfl rfl rfl rfl Tryz.isAgg88
def S.td89 : TD := ⟨true, .other, 1, 8, false, [.raw (Go.Value.nilFunc)]⟩
theorem S.tk89 : TDok Tryz.prog 89 S.td89 := td_raw (info_of Tryz.type89) rfl rfl rfl rfl rfl Tryz.isAgg89
def S.td90 : TD := ⟨true, .struct [(0, 1, false), (1, 1, false), (2, 1, false), (3, 1, false), (4, 1, false), (5, 3, true)], 8, 128, true, [.int Go.IntKind.i64 0, .int Go.IntKind.i64 0, .nils, .nils, .nils, .int Go.IntKind.i64 0, .int Go.IntKind.i64 0, .nils]⟩
theorem S.tk90 : TDok Tryz.prog 90 S.td90 := td_struct (zs := [Go.Value.int Go.IntKind.i64 0, Go.Value.int Go.IntKind.i64 0, Go.Value.slice none 0 0, Go.Value.slice none 0 0, Go.Value.slice none 0 0, Go.Value.int Go.IntKind.i64 0, Go.Value.int Go.IntKind.i64 0, Go.Value.slice none 0 0]) (info_of Tryz.type90) rfl rfl rfl rfl rfl rfl Tryz.isAgg90 Tryz.underlying90 (⟨⟨rfl, ⟨_, info_of Tryz.type3, rfl⟩, by decide, Tryz.isAgg3⟩, ⟨⟨rfl, ⟨_, info_of Tryz.type2, rfl⟩, by decide, Tryz.isAgg2⟩, ⟨⟨rfl, ⟨_, info_of Tryz.type68, rfl⟩, by decide, Tryz.isAgg68⟩, ⟨⟨rfl, ⟨_, info_of Tryz.type69, rfl⟩, by decide, Tryz.isAgg69⟩, ⟨⟨rfl, ⟨_, info_of Tryz.type68, rfl⟩, by decide, Tryz.isAgg68⟩, ⟨⟨rfl, ⟨_, info_of Tryz.type28, rfl⟩, by decide, Tryz.isAgg28⟩, trivial⟩⟩⟩⟩⟩⟩)
def S.td91 : TD := ⟨true, .struct [(0, 1, false), (1, 1, false), (2, 1, false), (3, 1, false), (4, 1, false), (5, 3, true)], 8, 128, true, [.int Go.IntKind.i64 0, .int Go.IntKind.i64 0, .nils, .nils, .nils, .int Go.IntKind.i64 0, .int Go.IntKind.i64 0, .nils]⟩
theorem S.tk91 : TDok Tryz.prog 91 S.td91 := td_struct (zs := [Go.Value.int Go.IntKind.i64 0, Go.Value.int Go.IntKind.i64 0, Go.Value.slice none 0 0, Go.Value.slice none 0 0, Go.Value.slice none 0 0, Go.Value.int Go.IntKind.i64 0, Go.Value.int Go.IntKind.i64 0, Go.Value.slice none 0 0]) (info_of Tryz.type91) rfl rfl rfl rfl rfl rfl Tryz.isAgg91 Tryz.underlying91 (⟨⟨rfl, ⟨_, info_of Tryz.type3, rfl⟩, by decide, Tryz.isAgg3⟩, ⟨⟨rfl, ⟨_, info_of Tryz.type2, rfl⟩, by decide, Tryz.isAgg2⟩, ⟨⟨rfl, ⟨_, info_of Tryz.type68, rfl⟩, by decide, Tryz.isAgg68⟩, ⟨⟨rfl, ⟨_, info_of Tryz.type69, rfl⟩, by decide, Tryz.isAgg69⟩, ⟨⟨rfl, ⟨_, info_of Tryz.type68, rfl⟩, by decide, Tryz.isAgg68⟩, ⟨⟨rfl, ⟨_, info_of Tryz.type28, rfl⟩, by decide, Tryz.isAgg28⟩, trivial⟩⟩⟩⟩⟩⟩)
def S.td92 : TD := ⟨true, .other, 1, 8, false, [.raw (Go.Value.nilFunc)]⟩
theorem S.tk92 : TDok Tryz.prog 92 S.td92 := td_raw (info_of Tryz.type92) rfl rfl rfl rfl rfl Tryz.isAgg92
def S.td93 : TD := ⟨true, .other, 1, 8, false, [.raw (Go.Value.nilFunc)]⟩
theorem S.tk93 : TDok Tryz.prog 93 S.td93 := td_raw (info_of Tryz.type93) rfl rfl rfl rfl rfl Tryz.isAgg93
def S.td94 : TD := ⟨true, .other, 1, 8, false, [.raw (Go.Value.nilFunc)]⟩
theorem S.tk94 : TDok Tryz.prog 94 S.td94 := td_raw (info_of Tryz.type94) rfl rfl rfl rfl rfl Tryz.isAgg94
def S.td95 : TD := ⟨true, .other, 1, 8, false, [.raw (Go.Value.nilFunc)]⟩
theorem S.tk95 : TDok Tryz.prog 95 S.td95 := td_raw (info_of Tryz.type95) rfl rfl rfl rfl rfl Tryz.isAgg95
def S.td96 : TD := ⟨true, .other, 1, 8, false, [.raw (Go.Value.nilFunc)]⟩
theorem S.tk96 : TDok Tryz.prog 96 S.td96 := td_raw (info_of Tryz.type96) rfl rfl rfl rfl rfl Tryz.isAgg96
def S.td97 : TD := ⟨true, .other, 1, 8, false, [.raw (Go.Value.nilFunc)]⟩
theorem S.tk97 : TDok Tryz.prog 97 S.td97 := td_raw (info_of Tryz.type97) rfl rfl rfl rfl rfl Tryz.isAgg97
def S.td98 : TD := ⟨true, .other, 1, 8, false, [.raw (Go.Value.nilFunc)]⟩
theorem S.tk98 : TDok Tryz.prog 98 S.td98 := td_raw (info_of Tryz.type98) rfl rfl rfl rfl rfl Tryz.isAgg98
def S.td99 : TD := ⟨true, .other, 1, 8, false, [.raw (Go.Value.nilFunc)]⟩
theorem S.tk99 : TDok Tryz.prog 99 S.td99 := td_raw (info_of Tryz.type99) rfl rfl rfl rfl rfl Tryz.isAgg99
def S.td100 : TD := ⟨true, .other, 1, 8, false, [.raw (Go.Value.nilFunc)]⟩
theorem S.tk100 : TDok Tryz.prog 100 S.td100 := td_raw (info_of Tryz.type100) rfl rfl rfl rfl rfl Tryz.isAgg100
def S.td102 : TD := ⟨true, .other, 1, 8, false, [.raw (Go.Value.nilFunc)]⟩
theorem S.tk102 : TDok Tryz.prog 102 S.td102 := td_raw (info_of Tryz.type102) rfl rfl rfl rfl rfl Tryz.isAgg102
def S.td103 : TD := ⟨true, .other, 1, 8, false, [.raw (Go.Value.nilFunc)]⟩
theorem S.tk103 : TDok Tryz.prog 103 S.td103 := td_raw (info_of Tryz.type103) rfl rfl rfl rfl rfl Tryz.isAgg103
def S.td104 : TD := ⟨true, .slice 107, 1, 24, false, [.nils]⟩
theorem S.tk104 : TDok Tryz.prog 104 S.td104 := td_slice (info_of Tryz.type104) rfl rfl rfl Tryz.isAgg104 Tryz.underlying104
def S.td106 : TD := ⟨true, .other, 1, 8, false, [.raw (Go.Value.nilFunc)]⟩
theorem S.tk106 : TDok Tryz.prog 106 S.td106 := td_raw (info_of Tryz.type106) rfl rfl rfl rfl rfl Tryz.isAgg106
def S.td107 : TD := ⟨true, .struct [(0, 1, false), (1, 1, false), (2, 1, false)], 3, 32, true, [.int Go.IntKind.i64 0, .str (ByteArray.mk #[]), .int Go.IntKind.i64 0]⟩
theorem S.tk107 : TDok Tryz.prog 107 S.td107 := td_struct (zs := [Go.Value.int Go.IntKind.i64 0, Go.Value.string { data := #[] }, Go.Value.int Go.IntKind.i64 0]) (info_of Tryz.type107) rfl rfl rfl rfl rfl rfl Tryz.isAgg107 Tryz.underlying107 (⟨⟨rfl, ⟨_, info_of Tryz.type3, rfl⟩, by decide, Tryz.isAgg3⟩, ⟨⟨rfl, ⟨_, info_of Tryz.type9, rfl⟩, by decide, Tryz.isAgg9⟩, ⟨⟨rfl, ⟨_, info_of Tryz.type3, rfl⟩, by decide, Tryz.isAgg3⟩, trivial⟩⟩⟩)
def S.td108 : TD := ⟨true, .other, 1, 8, false, [.raw (Go.Value.nilFunc)]⟩
theorem S.tk108 : TDok Tryz.prog 108 S.td108 := td_raw (info_of Tryz.type108) rfl rfl rfl rfl rfl Tryz.isAgg108
def S.td109 : TD := ⟨true, .other, 1, 8, false, [.raw (Go.Value.nilFunc)]⟩
theorem S.tk109 : TDok Tryz.prog 109 S.td109 := td_raw (info_of Tryz.type109) rfl rfl rfl rfl rfl Tryz.isAgg109
def S.td110 : TD := ⟨true, .other, 1, 8, false, [.raw (Go.Value.nilFunc)]⟩
theorem S.tk110 : TDok Tryz.prog 110 S.td110 := td_raw (info_of Tryz.type110) rfl rfl rfl rfl rfl Tryz.isAgg110
def S.td111 : TD := ⟨true, .other, 1, 8, false, [.raw (Go.Value.nilFunc)]⟩
theorem S.tk111 : TDok Tryz.prog 111 S.td111 := td_raw (info_of Tryz.type111) rfl rfl rfl rfl rfl Tryz.isAgg111
def S.td112 : TD := ⟨true, .other, 1, 8, false, [.raw (Go.Value.nilFunc)]⟩
theorem S.tk112 : TDok Tryz.prog 112 S.td112 := td_raw (info_of Tryz.type112) rfl rfl rfl rfl rfl Tryz.isAgg112
def S.td113 : TD := ⟨true, .other, 1, 8, false, [.raw (Go.Value.nilFunc)]⟩
theorem S.tk113 : TDok Tryz.prog 113 S.td113 := td_raw (info_of Tryz.type113) rfl rfl rfl rfl rfl Tryz.isAgg113
def S.td115 : TD := ⟨true, .other, 1, 8, false, [.raw (Go.Value.nilFunc)]⟩
theorem S.tk115 : TDok Tryz.prog 115 S.td115 := td_raw (info_of Tryz.type115) rfl rfl rfl rfl rfl Tryz.isAgg115
def S.td116 : TD := ⟨true, .other, 1, 8, false, [.raw (Go.Value.nilFunc)]⟩
theorem S.tk116 : TDok Tryz.prog 116 S.td116 := td_raw (info_of Tryz.type116) rfl rfl rfl rfl rfl Tryz.isAgg116
def S.td117 : TD := ⟨true, .other, 1, 8, false, [.raw (Go.Value.nilFunc)]⟩
theorem S.tk117 : TDok Tryz.prog 117 S.td117 := td_raw (info_of Tryz.type117) rfl rfl rfl rfl rfl Tryz.isAgg117
def S.td118 : TD := ⟨true, .other, 1, 8, false, [.raw (Go.Value.nilFunc)]⟩
theorem S.tk118 : TDok Tryz.prog 118 S.td118 := td_raw (info_of Tryz.type118) rfl rfl rfl rfl rfl Tryz.isAgg118
def S.td119 : TD := ⟨true, .other, 1, 8, false, [.raw (Go.Value.nilFunc)]⟩
theorem S.tk119 : TDok Tryz.prog 119 S.td119 := td_raw (info_of Tryz.type119) rfl rfl rfl rfl rfl Tryz.isAgg119
def S.td120 : TD := ⟨true, .other, 1, 8, false, [.raw (Go.Value.nilFunc)]⟩
theorem S.tk120 : TDok Tryz.prog 120 S.td120 := td_raw (info_of Tryz.type120) rfl rfl rfl rfl rfl Tryz.isAgg120
def S.td121 : TD := ⟨true, .other, 1, 8, false, [.raw (Go.Value.nilFunc)]⟩
theorem S.tk121 : TDok Tryz.prog 121 S.td121 := td_raw (info_of Tryz.type121) rfl rfl rfl rfl rfl Tryz.isAgg121
def S.td122 : TD := ⟨true, .struct [(0, 1, false), (1, 1, false), (2, 1, false), (3, 1, false)], 4, 40, true, [.raw (Go.Value.pointer none), .raw (Go.Value.pointer none), .raw (Go.Value.pointer none), .str (ByteArray.mk #[])]⟩
theorem S.tk122 : TDok Tryz.prog 122 S.td122 := td_struct (zs := [Go.Value.pointer none, Go.Value.pointer none, Go.Value.pointer none, Go.Value.string { data := #[] }]) (info_of Tryz.type122) rfl rfl rfl rfl rfl rfl Tryz.isAgg122 Tryz.underlying122 (⟨⟨rfl, ⟨_, info_of Tryz.type17, rfl⟩, by decide, Tryz.isAgg17⟩, ⟨⟨rfl, ⟨_, info_of Tryz.type17, rfl⟩, by decide, Tryz.isAgg17⟩, ⟨⟨rfl, ⟨_, info_of Tryz.type17, rfl⟩, by decide, Tryz.isAgg17⟩, ⟨⟨rfl, ⟨_, info_of Tryz.type9, rfl⟩, by decide, Tryz.isAgg9⟩, trivial⟩⟩⟩⟩)
def S.td123 : TD := ⟨true, .struct [(0, 1, false), (1, 1, false), (2, 1, false), (3, 1, false)], 4, 40, true, [.raw (Go.Value.pointer none), .raw (Go.Value.pointer none), .raw (Go.Value.pointer none), .str (ByteArray.mk #[])]⟩
theorem S.tk123 : TDok Tryz.prog 123 S.td123 := td_struct (zs := [Go.Value.pointer none, Go.Value.pointer none, Go.Value.pointer none, Go.Value.string { data := #[] }]) (info_of Tryz.type123) rfl rfl rfl rfl rfl rfl Tryz.isAgg123 Tryz.underlying123 (⟨⟨rfl, ⟨_, info_of Tryz.type17, rfl⟩, by decide, Tryz.isAgg17⟩, ⟨⟨rfl, ⟨_, info_of Tryz.type17, rfl⟩, by decide, Tryz.isAgg17⟩, ⟨⟨rfl, ⟨_, info_of Tryz.type17, rfl⟩, by decide, Tryz.isAgg17⟩, ⟨⟨rfl, ⟨_, info_of Tryz.type9, rfl⟩, by decide, Tryz.isAgg9⟩, trivial⟩⟩⟩⟩)
def S.td127 : TD := ⟨true, .other, 1, 8, false, [.raw (Go.Value.nilFunc)]⟩
theorem S.tk127 : TDok Tryz.prog 127 S.td127 := td_raw (info_of Tryz.type127) rfl rfl rfl rfl rfl Tryz.isAgg127
def S.td128 : TD := ⟨true, .int Go.IntKind.u32, 1, 4, false, [.int Go.IntKind.u32 0]⟩
theorem S.tk128 : TDok Tryz.prog 128 S.td128 := td_int (info_of Tryz.type128) rfl rfl rfl Tryz.isAgg128 Tryz.underlying128
def S.td129 : TD := ⟨true, .int Go.IntKind.u8, 1, 1, false, [.int Go.IntKind.u8 0]⟩
theorem S.tk129 : TDok Tryz.prog 129 S.td129 := td_int (info_of Tryz.type129) rfl rfl rfl Tryz.isAgg129 Tryz.underlying129
def S.td130 : TD := ⟨true, .int Go.IntKind.u8, 1, 1, false, [.int Go.IntKind.u8 0]⟩
theorem S.tk130 : TDok Tryz.prog 130 S.td130 := td_int (info_of Tryz.type130) rfl rfl rfl Tryz.isAgg130 Tryz.underlying130
def S.td131 : TD := ⟨true, .other, 1, 8, false, [.raw (Go.Value.nilFunc)]⟩
theorem S.tk131 : TDok Tryz.prog 131 S.td131 := td_raw (info_of Tryz.type131) rfl rfl rfl rfl rfl Tryz.isAgg131
def S.td132 : TD := ⟨true, .other, 1, 8, false, [.raw (Go.Value.pointer none)]⟩
theorem S.tk132 : TDok Tryz.prog 132 S.td132 := td_raw (info_of Tryz.type132) rfl rfl rfl rfl rfl Tryz.isAgg132
def S.td133 : TD := ⟨true, .int Go.IntKind.i32, 1, 4, false, [.int Go.IntKind.i32 0]⟩
theorem S.tk133 : TDok Tryz.prog 133 S.td133 := td_int (info_of Tryz.type133) rfl rfl rfl Tryz.isAgg133 Tryz.underlying133
def S.td134 : TD := ⟨true, .int Go.IntKind.i32, 1, 4, false, [.int Go.IntKind.i32 0]⟩
theorem S.tk134 : TDok Tryz.prog 134 S.td134 := td_int (info_of Tryz.type134) rfl rfl rfl Tryz.isAgg134 Tryz.underlying134
def S.td135 : TD := ⟨true, .struct [(0, 1, false), (1, 1, false), (2, 1, false), (3, 1, false), (4, 1, false), (5, 1, false), (6, 1, false), (7, 1, false), (8, 1, false), (9, 1, false), (10, 1, false)], 11, 48, true, [.int Go.IntKind.u64 0, .int Go.IntKind.u64 0, .int Go.IntKind.u32 0, .int Go.IntKind.u8 0, .int Go.IntKind.u8 0, .int Go.IntKind.u8 0, .int Go.IntKind.u8 0, .raw (Go.Value.nilFunc), .raw (Go.Value.pointer none), .int Go.IntKind.i32 0, .int Go.IntKind.i32 0]⟩
theorem S.tk135 : TDok Tryz.prog 135 S.td135 := td_struct (zs := [Go.Value.int Go.IntKind.u64 0, Go.Value.int Go.IntKind.u64 0, Go.Value.int Go.IntKind.u32 0, Go.Value.int Go.IntKind.u8 0, Go.Value.int Go.IntKind.u8 0, Go.Value.int Go.IntKind.u8 0, Go.Value.int Go.IntKind.u8 0, Go.Value.nilFunc, Go.Value.pointer none, Go.Value.int Go.IntKind.i32 0, Go.Value.int Go.IntKind.i32 0]) (info_of Tryz.type135) rfl rfl rfl rfl rfl rfl Tryz.isAgg135 Tryz.underlying135 (⟨⟨rfl, ⟨_, info_of Tryz.type12, rfl⟩, by decide, Tryz.isAgg12⟩, ⟨⟨rfl, ⟨_, info_of Tryz.type12, rfl⟩, by decide, Tryz.isAgg12⟩, ⟨⟨rfl, ⟨_, info_of Tryz.type128, rfl⟩, by decide, Tryz.isAgg128⟩, ⟨⟨rfl, ⟨_, info_of Tryz.type129, rfl⟩, by decide, Tryz.isAgg129⟩, ⟨⟨rfl, ⟨_, info_of Tryz.type5, rfl⟩, by decide, Tryz.isAgg5⟩, ⟨⟨rfl, ⟨_, info_of Tryz.type5, rfl⟩, by decide, Tryz.isAgg5⟩, ⟨⟨rfl, ⟨_, info_of Tryz.type130, rfl⟩, by decide, Tryz.isAgg130⟩, ⟨⟨rfl, ⟨_, info_of Tryz.type131, rfl⟩, by decide, Tryz.isAgg131⟩, ⟨⟨rfl, ⟨_, info_of Tryz.type132, rfl⟩, by decide, Tryz.isAgg132⟩, ⟨⟨rfl, ⟨_, info_of Tryz.type133, rfl⟩, by decide, Tryz.isAgg133⟩, ⟨⟨rfl, ⟨_, info_of Tryz.type134, rfl⟩, by decide, Tryz.isAgg134⟩, trivial⟩⟩⟩⟩⟩⟩⟩⟩⟩⟩⟩)
def S.td136 : TD := ⟨true, .struct [(0, 1, false), (1, 1, false), (2, 1, false), (3, 1, false), (4, 1, false), (5, 1, false), (6, 1, false), (7, 1, false), (8, 1, false), (9, 1, false), (10, 1, false)], 11, 48, true, [.int Go.IntKind.u64 0, .int Go.IntKind.u64 0, .int Go.IntKind.u32 0, .int Go.IntKind.u8 0, .int Go.IntKind.u8 0, .int Go.IntKind.u8 0, .int Go.IntKind.u8 0, .raw (Go.Value.nilFunc), .raw (Go.Value.pointer none), .int Go.IntKind.i32 0, .int Go.IntKind.i32 0]⟩
theorem S.tk136 : TDok Tryz.prog 136 S.td136 := td_struct (zs := [Go.Value.int Go.IntKind.u64 0, Go.Value.int Go.IntKind.u64 0, Go.Value.int Go.IntKind.u32 0, Go.Value.int Go.IntKind.u8 0, Go.Value.int Go.IntKind.u8 0, Go.Value.int Go.IntKind.u8 0, Go.Value.int Go.IntKind.u8 0, Go.Value.nilFunc, Go.Value.pointer none, Go.Value.int Go.IntKind.i32 0, Go.Value.int Go.IntKind.i32 0]) (info_of Tryz.type136) rfl rfl rfl rfl rfl rfl Tryz.isAgg136 Tryz.underlying136 (⟨⟨rfl, ⟨_, info_of Tryz.type12, rfl⟩, by decide, Tryz.isAgg12⟩, ⟨⟨rfl, ⟨_, info_of Tryz.type12, rfl⟩, by decide, Tryz.isAgg12⟩, ⟨⟨rfl, ⟨_, info_of Tryz.type128, rfl⟩, by decide, Tryz.isAgg128⟩, ⟨⟨rfl, ⟨_, info_of Tryz.type129, rfl⟩, by decide, Tryz.isAgg129⟩, ⟨⟨rfl, ⟨_, info_of Tryz.type5, rfl⟩, by decide, Tryz.isAgg5⟩, ⟨⟨rfl, ⟨_, info_of Tryz.type5, rfl⟩, by decide, Tryz.isAgg5⟩, ⟨⟨rfl, ⟨_, info_of Tryz.type130, rfl⟩, by decide, Tryz.isAgg130⟩, ⟨⟨rfl, ⟨_, info_of Tryz.type131, rfl⟩, by decide, Tryz.isAgg131⟩, ⟨⟨rfl, ⟨_, info_of Tryz.type132, rfl⟩, by decide, Tryz.isAgg132⟩, ⟨⟨rfl, ⟨_, info_of Tryz.type133, rfl⟩, by decide, Tryz.isAgg133⟩, ⟨⟨rfl, ⟨_, info_of Tryz.type134, rfl⟩, by decide, Tryz.isAgg134⟩, trivial⟩⟩⟩⟩⟩⟩⟩⟩⟩⟩⟩)
def S.tree : TTree := (.node 66 S.td66 (.node 33 S.td33 (.node 17 S.td17 (.node 9 S.td9 (.node 5 S.td5 (.node 3 S.td3 (.node 2 S.td2 (.node 1 S.td1 .leaf .leaf) .leaf) (.node 4 S.td4 .leaf .leaf)) (.node 7 S.td7 (.node 6 S.td6 .leaf .leaf) (.node 8 S.td8 .leaf .leaf))) (.node 13 S.td13 (.node 11 S.td11 (.node 10 S.td10 .leaf .leaf) (.node 12 S.td12 .leaf .leaf)) (.node 15 S.td15 (.node 14 S.td14 .leaf .leaf) (.node 16 S.td16 .leaf .leaf)))) (.node 25 S.td25 (.node 21 S.td21 (.node 19 S.td19 (.node 18 S.td18 .leaf .leaf) (.node 20 S.td20 .leaf .leaf)) (.node 23 S.td23 (.node 22 S.td22 .leaf .leaf) (.node 24 S.td24 .leaf .leaf))) (.node 29 S.td29 (.node 27 S.td27 (.node 26 S.td26 .leaf .leaf) (.node 28 S.td28 .leaf .leaf)) (.node 31 S.td31 (.node 30 S.td30 .leaf .leaf) (.node 32 S.td32 .leaf .leaf))))) (.node 49 S.td49 (.node 41 S.td41 (.node 37 S.td37 (.node 35 S.td35 (.node 34 S.td34 .leaf .leaf) (.node 36 S.td36 .leaf .leaf)) (.node 39 S.td39 (.node 38 S.td38 .leaf .leaf) (.node 40 S.td40 .leaf .leaf))) (.node 45 S.td45 (.node 43 S.td43 (.node 42 S.td42 .leaf .leaf) (.node 44 S.td44 .leaf .leaf)) (.node 47 S.td47 (.node 46 S.td46 .leaf .leaf) (.node 48 S.td48 .leaf .leaf)))) (.node 57 S.td57 (.node 53 S.td53 (.node 51 S.td51 (.node 50 S.td50 .leaf .leaf) (.node 52 S.td52 .leaf .leaf)) (.node 55 S.td55 (.node 54 S.td54 .leaf .leaf) (.node 56 S.td56 .leaf .leaf))) (.node 62 S.td62 (.node 60 S.td60 (.node 59 S.td59 .leaf .leaf) (.node 61 S.td61 .leaf .leaf)) (.node 64 S.td64 (.node 63 S.td63 .leaf .leaf) (.node 65 S.td65 .leaf .leaf)))))) (.node 99 S.td99 (.node 82 S.td82 (.node 74 S.td74 (.node 70 S.td70 (.node 68 S.td68 (.node 67 S.td67 .leaf .leaf) (.node 69 S.td69 .leaf .leaf)) (.node 72 S.td72 (.node 71 S.td71 .leaf .leaf) (.node 73 S.td73 .leaf .leaf))) (.node 78 S.td78 (.node 76 S.td76 (.node 75 S.td75 .leaf .leaf) (.node 77 S.td77 .leaf .leaf)) (.node 80 S.td80 (.node 79 S.td79 .leaf .leaf) (.node 81 S.td81 .leaf .leaf)))) (.node 91 S.td91 (.node 87 S.td87 (.node 85 S.td85 (.node 84 S.td84 .leaf .leaf) (.node 86 S.td86 .leaf .leaf)) (.node 89 S.td89 (.node 88 S.td88 .leaf .leaf) (.node 90 S.td90 .leaf .leaf))) (.node 95 S.td95 (.node 93 S.td93 (.node 92 S.td92 .leaf .leaf) (.node 94 S.td94 .leaf .leaf)) (.node 97 S.td97 (.node 96 S.td96 .leaf .leaf) (.node 98 S.td98 .leaf .leaf))))) (.node 118 S.td118 (.node 109 S.td109 (.node 104 S.td104 (.node 102 S.td102 (.node 100 S.td100 .leaf .leaf) (.node 103 S.td103 .leaf .leaf)) (.node 107 S.td107 (.node 106 S.td106 .leaf .leaf) (.node 108 S.td108 .leaf .leaf))) (.node 113 S.td113 (.node 111 S.td111 (.node 110 S.td110 .leaf .leaf) (.node 112 S.td112 .leaf .leaf)) (.node 116 S.td116 (.node 115 S.td115 .leaf .leaf) (.node 117 S.td117 .leaf .leaf)))) (.node 129 S.td129 (.node 122 S.td122 (.node 120 S.td120 (.node 119 S.td119 .leaf .leaf) (.node 121 S.td121 .leaf .leaf)) (.node 127 S.td127 (.node 123 S.td123 .leaf .leaf) (.node 128 S.td128 .leaf .leaf))) (.node 133 S.td133 (.node 131 S.td131 (.node 130 S.td130 .leaf .leaf) (.node 132 S.td132 .leaf .leaf)) (.node 135 S.td135 (.node 134 S.td134 .leaf .leaf) (.node 136 S.td136 .leaf .leaf)))))))
theorem S.tall : TAll Tryz.prog S.tree := ⟨S.tk66, ⟨S.tk33, ⟨S.tk17, ⟨S.tk9, ⟨S.tk5, ⟨S.tk3, ⟨S.tk2, ⟨S.tk1, trivial, trivial⟩, trivial⟩, ⟨S.tk4, trivial, trivial⟩⟩, ⟨S.tk7, ⟨S.tk6, trivial, trivial⟩, ⟨S.tk8, trivial, trivial⟩⟩⟩, ⟨S.tk13, ⟨S.tk11, ⟨S.tk10, trivial, trivial⟩, ⟨S.tk12, trivial, trivial⟩⟩, ⟨S.tk15, ⟨S.tk14, trivial, trivial⟩, ⟨S.tk16, trivial, trivial⟩⟩⟩⟩, ⟨S.tk25, ⟨S.tk21, ⟨S.tk19, ⟨S.tk18, trivial, trivial⟩, ⟨S.tk20, trivial, trivial⟩⟩, ⟨S.tk23, ⟨S.tk22, trivial, trivial⟩, ⟨S.tk24, trivial, trivial⟩⟩⟩, ⟨S.tk29, ⟨S.tk27, ⟨S.tk26, trivial, trivial⟩, ⟨S.tk28, trivial, trivial⟩⟩, ⟨S.tk31, ⟨S.tk30, trivial, trivial⟩, ⟨S.tk32, trivial, trivial⟩⟩⟩⟩⟩, ⟨S.tk49, ⟨S.tk41, ⟨S.tk37, ⟨S.tk35, ⟨S.tk34, trivial, trivial⟩, ⟨S.tk36, trivial, trivial⟩⟩, ⟨S.tk39, ⟨S.tk38, trivial, trivial⟩, ⟨S.tk40, trivial, trivial⟩⟩⟩, ⟨S.tk45, ⟨S.tk43, ⟨S.tk42, trivial, trivial⟩, ⟨S.tk44, trivial, trivial⟩⟩, ⟨S.tk47, ⟨S.tk46, trivial, trivial⟩, ⟨S.tk48, trivial, trivial⟩⟩⟩⟩, ⟨S.tk57, ⟨S.tk53, ⟨S.tk51, ⟨S.tk50, trivial, trivial⟩, ⟨S.tk52, trivial, trivial⟩⟩, ⟨S.tk55, ⟨S.tk54, trivial, trivial⟩, ⟨S.tk56, trivial, trivial⟩⟩⟩, ⟨S.tk62, ⟨S.tk60, ⟨S.tk59, trivial, trivial⟩, ⟨S.tk61, trivial, trivial⟩⟩, ⟨S.tk64, ⟨S.tk63, trivial, trivial⟩, ⟨S.tk65, trivial, trivial⟩⟩⟩⟩⟩⟩, ⟨S.tk99, ⟨S.tk82, ⟨S.tk74, ⟨S.tk70, ⟨S.tk68, ⟨S.tk67, trivial, trivial⟩, ⟨S.tk69, trivial, trivial⟩⟩, ⟨S.tk72, ⟨S.tk71, trivial, trivial⟩, ⟨S.tk73, trivial, trivial⟩⟩⟩, ⟨S.tk78, ⟨S.tk76, ⟨S.tk75, trivial, trivial⟩, ⟨S.tk77, trivial, trivial⟩⟩, ⟨S.tk80, ⟨S.tk79, trivial, trivial⟩, ⟨S.tk81, trivial, trivial⟩⟩⟩⟩, ⟨S.tk91, ⟨S.tk87, ⟨S.tk85, ⟨S.tk84, trivial, trivial⟩, ⟨S.tk86, trivial, trivial⟩⟩, ⟨S.tk89, ⟨S.tk88, trivial, trivial⟩, ⟨S.tk90, trivial, trivial⟩⟩⟩, ⟨S.tk95, ⟨S.tk93, ⟨S.tk92, trivial, trivial⟩, ⟨S.tk94, trivial, trivial⟩⟩, ⟨S.tk97, ⟨S.tk96, trivial, trivial⟩, ⟨S.tk98, trivial, trivial⟩⟩⟩⟩⟩, ⟨S.tk118, ⟨S.tk109, ⟨S.tk104, ⟨S.tk102, ⟨S.tk100, trivial, trivial⟩, ⟨S.tk103, trivial, trivial⟩⟩, ⟨S.tk107, ⟨S.tk106, trivial, trivial⟩, ⟨S.tk108, trivial, trivial⟩⟩⟩, ⟨S.tk113, ⟨S.tk111, ⟨S.tk110, trivial, trivial⟩, ⟨S.tk112, trivial, trivial⟩⟩, ⟨S.tk116, ⟨S.tk115, trivial, trivial⟩, ⟨S.tk117, trivial, trivial⟩⟩⟩⟩, ⟨S.tk129, ⟨S.tk122, ⟨S.tk120, ⟨S.tk119, trivial, trivial⟩, ⟨S.tk121, trivial, trivial⟩⟩, ⟨S.tk127, ⟨S.tk123, trivial, trivial⟩, ⟨S.tk128, trivial, trivial⟩⟩⟩, ⟨S.tk133, ⟨S.tk131, ⟨S.tk130, trivial, trivial⟩, ⟨S.tk132, trivial, trivial⟩⟩, ⟨S.tk135, ⟨S.tk134, trivial, trivial⟩, ⟨S.tk136, trivial, trivial⟩⟩⟩⟩⟩⟩⟩
def S.te : TE := fun t => tlook S.tree t
theorem S.teOk : ∀ t, TDok Tryz.prog t (S.te t) := tlook_ok S.tall
noncomputable def S.E (m : Nat) : Env := ⟨Tryz.prog, S.te, S.teOk, m⟩
end Go.AM
