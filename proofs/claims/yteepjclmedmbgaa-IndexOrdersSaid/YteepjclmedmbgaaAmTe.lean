import Derived.Test.YteepjclmedmbgaaProg
import Derived.Test.YteepjclmedmbgaaAmD
set_option linter.all false
namespace Go.AM
open Go.Proofs

def S.td1 : TD := ⟨true, .other, 1, 8, false, [.raw (Go.Value.nilFunc)]⟩
theorem S.tk1 : TDok Try.prog 1 S.td1 := td_raw (info_of Try.type1) rfl rfl rfl rfl rfl Try.isAgg1
def S.td2 : TD := ⟨true, .int Go.IntKind.i64, 1, 8, false, [.int Go.IntKind.i64 0]⟩
theorem S.tk2 : TDok Try.prog 2 S.td2 := td_int (info_of Try.type2) rfl rfl rfl Try.isAgg2 Try.underlying2
def S.td3 : TD := ⟨true, .int Go.IntKind.i64, 1, 8, false, [.int Go.IntKind.i64 0]⟩
theorem S.tk3 : TDok Try.prog 3 S.td3 := td_int (info_of Try.type3) rfl rfl rfl Try.isAgg3 Try.underlying3
def S.td4 : TD := ⟨true, .bool, 1, 1, false, [.bool false]⟩
theorem S.tk4 : TDok Try.prog 4 S.td4 := td_bool (info_of Try.type4) rfl rfl rfl Try.isAgg4 Try.underlying4
def S.td5 : TD := ⟨true, .int Go.IntKind.u8, 1, 1, false, [.int Go.IntKind.u8 0]⟩
theorem S.tk5 : TDok Try.prog 5 S.td5 := td_int (info_of Try.type5) rfl rfl rfl Try.isAgg5 Try.underlying5
def S.td6 : TD := ⟨true, .int Go.IntKind.u8, 1, 1, false, [.int Go.IntKind.u8 0]⟩
theorem S.tk6 : TDok Try.prog 6 S.td6 := td_int (info_of Try.type6) rfl rfl rfl Try.isAgg6 Try.underlying6
def S.td7 : TD := ⟨true, .struct [(0, 1, false), (1, 1, false), (2, 1, false), (3, 1, false)], 4, 24, true, [.int Go.IntKind.i64 0, .int Go.IntKind.i64 0, .bool false, .int Go.IntKind.u8 0]⟩
theorem S.tk7 : TDok Try.prog 7 S.td7 := td_struct (zs := [Go.Value.int Go.IntKind.i64 0, Go.Value.int Go.IntKind.i64 0, Go.Value.bool false, Go.Value.int Go.IntKind.u8 0]) (info_of Try.type7) rfl rfl rfl rfl rfl rfl Try.isAgg7 Try.underlying7 (⟨⟨rfl, ⟨_, info_of Try.type2, rfl⟩, by decide, Try.isAgg2⟩, ⟨⟨rfl, ⟨_, info_of Try.type3, rfl⟩, by decide, Try.isAgg3⟩, ⟨⟨rfl, ⟨_, info_of Try.type4, rfl⟩, by decide, Try.isAgg4⟩, ⟨⟨rfl, ⟨_, info_of Try.type6, rfl⟩, by decide, Try.isAgg6⟩, trivial⟩⟩⟩⟩)
def S.td8 : TD := ⟨true, .struct [(0, 1, false), (1, 1, false), (2, 1, false), (3, 1, false)], 4, 24, true, [.int Go.IntKind.i64 0, .int Go.IntKind.i64 0, .bool false, .int Go.IntKind.u8 0]⟩
theorem S.tk8 : TDok Try.prog 8 S.td8 := td_struct (zs := [Go.Value.int Go.IntKind.i64 0, Go.Value.int Go.IntKind.i64 0, Go.Value.bool false, Go.Value.int Go.IntKind.u8 0]) (info_of Try.type8) rfl rfl rfl rfl rfl rfl Try.isAgg8 Try.underlying8 (⟨⟨rfl, ⟨_, info_of Try.type2, rfl⟩, by decide, Try.isAgg2⟩, ⟨⟨rfl, ⟨_, info_of Try.type3, rfl⟩, by decide, Try.isAgg3⟩, ⟨⟨rfl, ⟨_, info_of Try.type4, rfl⟩, by decide, Try.isAgg4⟩, ⟨⟨rfl, ⟨_, info_of Try.type6, rfl⟩, by decide, Try.isAgg6⟩, trivial⟩⟩⟩⟩)
def S.td9 : TD := ⟨true, .string, 1, 16, false, [.str (ByteArray.mk #[])]⟩
theorem S.tk9 : TDok Try.prog 9 S.td9 := td_str (info_of Try.type9) rfl rfl rfl Try.isAgg9 Try.underlying9
def S.td10 : TD := ⟨true, .string, 1, 16, false, [.str (ByteArray.mk #[])]⟩
theorem S.tk10 : TDok Try.prog 10 S.td10 := td_str (info_of Try.type10) rfl rfl rfl Try.isAgg10 Try.underlying10
def S.td11 : TD := ⟨true, .string, 1, 16, false, [.str (ByteArray.mk #[])]⟩
theorem S.tk11 : TDok Try.prog 11 S.td11 := td_str (info_of Try.type11) rfl rfl rfl Try.isAgg11 Try.underlying11
def S.td12 : TD := ⟨true, .int Go.IntKind.u64, 1, 8, false, [.int Go.IntKind.u64 0]⟩
theorem S.tk12 : TDok Try.prog 12 S.td12 := td_int (info_of Try.type12) rfl rfl rfl Try.isAgg12 Try.underlying12
def S.td13 : TD := ⟨true, .struct [(0, 1, false), (1, 1, false)], 2, 24, true, [.str (ByteArray.mk #[]), .int Go.IntKind.u64 0]⟩
theorem S.tk13 : TDok Try.prog 13 S.td13 := td_struct (zs := [Go.Value.string { data := #[] }, Go.Value.int Go.IntKind.u64 0]) (info_of Try.type13) rfl rfl rfl rfl rfl rfl Try.isAgg13 Try.underlying13 (⟨⟨rfl, ⟨_, info_of Try.type9, rfl⟩, by decide, Try.isAgg9⟩, ⟨⟨rfl, ⟨_, info_of Try.type12, rfl⟩, by decide, Try.isAgg12⟩, trivial⟩⟩)
def S.td14 : TD := ⟨true, .struct [(0, 1, false), (1, 1, false)], 2, 24, true, [.str (ByteArray.mk #[]), .int Go.IntKind.u64 0]⟩
theorem S.tk14 : TDok Try.prog 14 S.td14 := td_struct (zs := [Go.Value.string { data := #[] }, Go.Value.int Go.IntKind.u64 0]) (info_of Try.type14) rfl rfl rfl rfl rfl rfl Try.isAgg14 Try.underlying14 (⟨⟨rfl, ⟨_, info_of Try.type9, rfl⟩, by decide, Try.isAgg9⟩, ⟨⟨rfl, ⟨_, info_of Try.type12, rfl⟩, by decide, Try.isAgg12⟩, trivial⟩⟩)
def S.td15 : TD := ⟨true, .other, 1, 8, false, [.raw (Go.Value.pointer none)]⟩
theorem S.tk15 : TDok Try.prog 15 S.td15 := td_raw (info_of Try.type15) rfl rfl rfl rfl rfl Try.isAgg15
def S.td16 : TD := ⟨true, .other, 1, 8, false, [.raw (Go.Value.pointer none)]⟩
theorem S.tk16 : TDok Try.prog 16 S.td16 := td_raw (info_of Try.type16) rfl rfl rfl rfl rfl Try.isAgg16
def S.td17 : TD := ⟨true, .other, 1, 8, false, [.raw (Go.Value.pointer none)]⟩
theorem S.tk17 : TDok Try.prog 17 S.td17 := td_raw (info_of Try.type17) rfl rfl rfl rfl rfl Try.isAgg17
def S.td18 : TD := ⟨true, .struct [(0, 1, false)], 1, 8, true, [.raw (Go.Value.pointer none)]⟩
theorem S.tk18 : TDok Try.prog 18 S.td18 := td_struct (zs := [Go.Value.pointer none]) (info_of Try.type18) rfl rfl rfl rfl rfl rfl Try.isAgg18 Try.underlying18 (⟨⟨rfl, ⟨_, info_of Try.type17, rfl⟩, by decide, Try.isAgg17⟩, trivial⟩)
def S.td19 : TD := ⟨true, .struct [(0, 1, false)], 1, 8, true, [.raw (Go.Value.pointer none)]⟩
theorem S.tk19 : TDok Try.prog 19 S.td19 := td_struct (zs := [Go.Value.pointer none]) (info_of Try.type19) rfl rfl rfl rfl rfl rfl Try.isAgg19 Try.underlying19 (⟨⟨rfl, ⟨_, info_of Try.type17, rfl⟩, by decide, Try.isAgg17⟩, trivial⟩)
def S.td20 : TD := ⟨true, .other, 1, 16, false, [.raw (Go.Value.nilIface)]⟩
theorem S.tk20 : TDok Try.prog 20 S.td20 := td_raw (info_of Try.type20) rfl rfl rfl rfl rfl Try.isAgg20
def S.td21 : TD := ⟨true, .int Go.IntKind.i32, 1, 4, false, [.int Go.IntKind.i32 0]⟩
theorem S.tk21 : TDok Try.prog 21 S.td21 := td_int (info_of Try.type21) rfl rfl rfl Try.isAgg21 Try.underlying21
def S.td22 : TD := ⟨true, .slice 24, 1, 24, false, [.nils]⟩
theorem S.tk22 : TDok Try.prog 22 S.td22 := td_slice (info_of Try.type22) rfl rfl rfl Try.isAgg22 Try.underlying22
def S.td23 : TD := ⟨true, .struct [(0, 1, false), (1, 1, false), (2, 1, false)], 3, 40, true, [.int Go.IntKind.i64 0, .int Go.IntKind.i64 0, .nils]⟩
theorem S.tk23 : TDok Try.prog 23 S.td23 := td_struct (zs := [Go.Value.int Go.IntKind.i64 0, Go.Value.int Go.IntKind.i64 0, Go.Value.slice none 0 0]) (info_of Try.type23) rfl rfl rfl rfl rfl rfl Try.isAgg23 Try.underlying23 (⟨⟨rfl, ⟨_, info_of Try.type3, rfl⟩, by decide, Try.isAgg3⟩, ⟨⟨rfl, ⟨_, info_of Try.type2, rfl⟩, by decide, Try.isAgg2⟩, ⟨⟨rfl, ⟨_, info_of Try.type22, rfl⟩, by decide, Try.isAgg22⟩, trivial⟩⟩⟩)
def S.td24 : TD := ⟨true, .struct [(0, 1, false), (1, 1, false), (2, 1, false)], 3, 40, true, [.int Go.IntKind.i64 0, .int Go.IntKind.i64 0, .nils]⟩
theorem S.tk24 : TDok Try.prog 24 S.td24 := td_struct (zs := [Go.Value.int Go.IntKind.i64 0, Go.Value.int Go.IntKind.i64 0, Go.Value.slice none 0 0]) (info_of Try.type24) rfl rfl rfl rfl rfl rfl Try.isAgg24 Try.underlying24 (⟨⟨rfl, ⟨_, info_of Try.type3, rfl⟩, by decide, Try.isAgg3⟩, ⟨⟨rfl, ⟨_, info_of Try.type2, rfl⟩, by decide, Try.isAgg2⟩, ⟨⟨rfl, ⟨_, info_of Try.type22, rfl⟩, by decide, Try.isAgg22⟩, trivial⟩⟩⟩)
def S.td25 : TD := ⟨true, .other, 1, 8, false, [.raw (Go.Value.nilFunc)]⟩
theorem S.tk25 : TDok Try.prog 25 S.td25 := td_raw (info_of Try.type25) rfl rfl rfl rfl rfl Try.isAgg25
def S.td26 : TD := ⟨true, .other, 1, 8, false, [.raw (Go.Value.nilFunc)]⟩
theorem S.tk26 : TDok Try.prog 26 S.td26 := td_raw (info_of Try.type26) rfl rfl rfl rfl rfl Try.isAgg26
def S.td27 : TD := ⟨true, .other, 1, 8, false, [.raw (Go.Value.nilFunc)]⟩
theorem S.tk27 : TDok Try.prog 27 S.td27 := td_raw (info_of Try.type27) rfl rfl rfl rfl rfl Try.isAgg27
def S.td28 : TD := ⟨true, .other, 1, 8, false, [.raw (Go.Value.nilFunc)]⟩
theorem S.tk28 : TDok Try.prog 28 S.td28 := td_raw (info_of Try.type28) rfl rfl rfl rfl rfl Try.isAgg28
def S.td29 : TD := ⟨true, .other, 1, 8, false, [.raw (Go.Value.nilFunc)]⟩
theorem S.tk29 : TDok Try.prog 29 S.td29 := td_raw (info_of Try.type29) rfl rfl rfl rfl rfl Try.isAgg29
def S.td30 : TD := ⟨true, .slice 32, 1, 24, false, [.nils]⟩
theorem S.tk30 : TDok Try.prog 30 S.td30 := td_slice (info_of Try.type30) rfl rfl rfl Try.isAgg30 Try.underlying30
def S.td31 : TD := ⟨true, .struct [(0, 1, false), (1, 1, false)], 2, 32, true, [.int Go.IntKind.i64 0, .nils]⟩
theorem S.tk31 : TDok Try.prog 31 S.td31 := td_struct (zs := [Go.Value.int Go.IntKind.i64 0, Go.Value.slice none 0 0]) (info_of Try.type31) rfl rfl rfl rfl rfl rfl Try.isAgg31 Try.underlying31 (⟨⟨rfl, ⟨_, info_of Try.type3, rfl⟩, by decide, Try.isAgg3⟩, ⟨⟨rfl, ⟨_, info_of Try.type30, rfl⟩, by decide, Try.isAgg30⟩, trivial⟩⟩)
def S.td32 : TD := ⟨true, .struct [(0, 1, false), (1, 1, false)], 2, 32, true, [.int Go.IntKind.i64 0, .nils]⟩
theorem S.tk32 : TDok Try.prog 32 S.td32 := td_struct (zs := [Go.Value.int Go.IntKind.i64 0, Go.Value.slice none 0 0]) (info_of Try.type32) rfl rfl rfl rfl rfl rfl Try.isAgg32 Try.underlying32 (⟨⟨rfl, ⟨_, info_of Try.type3, rfl⟩, by decide, Try.isAgg3⟩, ⟨⟨rfl, ⟨_, info_of Try.type30, rfl⟩, by decide, Try.isAgg30⟩, trivial⟩⟩)
def S.td33 : TD := ⟨true, .other, 1, 8, false, [.raw (Go.Value.nilFunc)]⟩
theorem S.tk33 : TDok Try.prog 33 S.td33 := td_raw (info_of Try.type33) rfl rfl rfl rfl rfl Try.isAgg33
def S.td34 : TD := ⟨true, .other, 1, 8, false, [.raw (Go.Value.nilFunc)]⟩
theorem S.tk34 : TDok Try.prog 34 S.td34 := td_raw (info_of Try.type34) rfl rfl rfl rfl rfl Try.isAgg34
def S.td35 : TD := ⟨true, .other, 1, 8, false, [.raw (Go.Value.nilFunc)]⟩
theorem S.tk35 : TDok Try.prog 35 S.td35 := td_raw (info_of Try.type35) rfl rfl rfl rfl rfl Try.isAgg35
def S.td36 : TD := ⟨true, .other, 1, 8, false, [.raw (Go.Value.nilFunc)]⟩
theorem S.tk36 : TDok Try.prog 36 S.td36 := td_raw (info_of Try.type36) rfl rfl rfl rfl rfl Try.isAgg36
def S.td37 : TD := ⟨true, .other, 1, 8, false, [.raw (Go.Value.nilFunc)]⟩
theorem S.tk37 : TDok Try.prog 37 S.td37 := td_raw (info_of Try.type37) rfl rfl rfl rfl rfl Try.isAgg37
def S.td38 : TD := ⟨true, .other, 1, 8, false, [.raw (Go.Value.pointer none)]⟩
theorem S.tk38 : TDok Try.prog 38 S.td38 := td_raw (info_of Try.type38) rfl rfl rfl rfl rfl Try.isAgg38
def S.td39 : TD := ⟨true, .other, 1, 8, false, [.raw (Go.Value.nilFunc)]⟩
theorem S.tk39 : TDok Try.prog 39 S.td39 := td_raw (info_of Try.type39) rfl rfl rfl rfl rfl Try.isAgg39
def S.td40 : TD := ⟨true, .other, 1, 8, false, [.raw (Go.Value.nilFunc)]⟩
theorem S.tk40 : TDok Try.prog 40 S.td40 := td_raw (info_of Try.type40) rfl rfl rfl rfl rfl Try.isAgg40
def S.td41 : TD := ⟨true, .other, 1, 8, false, [.raw (Go.Value.nilFunc)]⟩
theorem S.tk41 : TDok Try.prog 41 S.td41 := td_raw (info_of Try.type41) rfl rfl rfl rfl rfl Try.isAgg41
def S.td42 : TD := ⟨true, .other, 1, 8, false, [.raw (Go.Value.nilFunc)]⟩
theorem S.tk42 : TDok Try.prog 42 S.td42 := td_raw (info_of Try.type42) rfl rfl rfl rfl rfl Try.isAgg42
def S.td43 : TD := ⟨true, .other, 1, 8, false, [.raw (Go.Value.nilFunc)]⟩
theorem S.tk43 : TDok Try.prog 43 S.td43 := td_raw (info_of Try.type43) rfl rfl rfl rfl rfl Try.isAgg43
def S.td44 : TD := ⟨true, .other, 1, 8, false, [.raw (Go.Value.nilFunc)]⟩
theorem S.tk44 : TDok Try.prog 44 S.td44 := td_raw (info_of Try.type44) rfl rfl rfl rfl rfl Try.isAgg44
def S.td45 : TD := ⟨true, .other, 1, 8, false, [.raw (Go.Value.nilFunc)]⟩
theorem S.tk45 : TDok Try.prog 45 S.td45 := td_raw (info_of Try.type45) rfl rfl rfl rfl rfl Try.isAgg45
def S.td46 : TD := ⟨true, .other, 1, 8, false, [.raw (Go.Value.nilFunc)]⟩
theorem S.tk46 : TDok Try.prog 46 S.td46 := td_raw (info_of Try.type46) rfl rfl rfl rfl rfl Try.isAgg46
def S.td47 : TD := ⟨true, .slice 3, 1, 24, false, [.nils]⟩
theorem S.tk47 : TDok Try.prog 47 S.td47 := td_slice (info_of Try.type47) rfl rfl rfl Try.isAgg47 Try.underlying47
def S.td48 : TD := ⟨true, .other, 1, 8, false, [.raw (Go.Value.nilFunc)]⟩
theorem S.tk48 : TDok Try.prog 48 S.td48 := td_raw (info_of Try.type48) rfl rfl rfl rfl rfl Try.isAgg48
def S.td49 : TD := ⟨true, .other, 1, 8, false, [.raw (Go.Value.nilFunc)]⟩
theorem S.tk49 : TDok Try.prog 49 S.td49 := td_raw (info_of Try.type49) rfl rfl rfl rfl rfl Try.isAgg49
def S.td50 : TD := ⟨true, .other, 1, 8, false, [.raw (Go.Value.nilFunc)]⟩
theorem S.tk50 : TDok Try.prog 50 S.td50 := td_raw (info_of Try.type50) rfl rfl rfl rfl rfl Try.isAgg50
def S.td51 : TD := ⟨true, .struct [(0, 1, false), (1, 1, false), (2, 1, false), (3, 1, false)], 4, 40, true, [.raw (Go.Value.pointer none), .raw (Go.Value.pointer none), .raw (Go.Value.pointer none), .str (ByteArray.mk #[])]⟩
theorem S.tk51 : TDok Try.prog 51 S.td51 := td_struct (zs := [Go.Value.pointer none, Go.Value.pointer none, Go.Value.pointer none, Go.Value.string { data := #[] }]) (info_of Try.type51) rfl rfl rfl rfl rfl rfl Try.isAgg51 Try.underlying51 (⟨⟨rfl, ⟨_, info_of Try.type17, rfl⟩, by decide, Try.isAgg17⟩, ⟨⟨rfl, ⟨_, info_of Try.type17, rfl⟩, by decide, Try.isAgg17⟩, ⟨⟨rfl, ⟨_, info_of Try.type17, rfl⟩, by decide, Try.isAgg17⟩, ⟨⟨rfl, ⟨_, info_of Try.type9, rfl⟩, by decide, Try.isAgg9⟩, trivial⟩⟩⟩⟩)
def S.td52 : TD := ⟨true, .struct [(0, 1, false), (1, 1, false), (2, 1, false), (3, 1, false)], 4, 40, true, [.raw (Go.Value.pointer none), .raw (Go.Value.pointer none), .raw (Go.Value.pointer none), .str (ByteArray.mk #[])]⟩
theorem S.tk52 : TDok Try.prog 52 S.td52 := td_struct (zs := [Go.Value.pointer none, Go.Value.pointer none, Go.Value.pointer none, Go.Value.string { data := #[] }]) (info_of Try.type52) rfl rfl rfl rfl rfl rfl Try.isAgg52 Try.underlying52 (⟨⟨rfl, ⟨_, info_of Try.type17, rfl⟩, by decide, Try.isAgg17⟩, ⟨⟨rfl, ⟨_, info_of Try.type17, rfl⟩, by decide, Try.isAgg17⟩, ⟨⟨rfl, ⟨_, info_of Try.type17, rfl⟩, by decide, Try.isAgg17⟩, ⟨⟨rfl, ⟨_, info_of Try.type9, rfl⟩, by decide, Try.isAgg9⟩, trivial⟩⟩⟩⟩)
def S.td56 : TD := ⟨true, .other, 1, 8, false, [.raw (Go.Value.nilFunc)]⟩
theorem S.tk56 : TDok Try.prog 56 S.td56 := td_raw (info_of Try.type56) rfl rfl rfl rfl rfl Try.isAgg56
def S.td57 : TD := ⟨true, .int Go.IntKind.u32, 1, 4, false, [.int Go.IntKind.u32 0]⟩
theorem S.tk57 : TDok Try.prog 57 S.td57 := td_int (info_of Try.type57) rfl rfl rfl Try.isAgg57 Try.underlying57
def S.td58 : TD := ⟨true, .int Go.IntKind.u8, 1, 1, false, [.int Go.IntKind.u8 0]⟩
theorem S.tk58 : TDok Try.prog 58 S.td58 := td_int (info_of Try.type58) rfl rfl rfl Try.isAgg58 Try.underlying58
def S.td59 : TD := ⟨true, .int Go.IntKind.u8, 1, 1, false, [.int Go.IntKind.u8 0]⟩
theorem S.tk59 : TDok Try.prog 59 S.td59 := td_int (info_of Try.type59) rfl rfl rfl Try.isAgg59 Try.underlying59
def S.td60 : TD := ⟨true, .other, 1, 8, false, [.raw (Go.Value.nilFunc)]⟩
theorem S.tk60 : TDok Try.prog 60 S.td60 := td_raw (info_of Try.type60) rfl rfl rfl rfl rfl Try.isAgg60
def S.td61 : TD := ⟨true, .other, 1, 8, false, [.raw (Go.Value.pointer none)]⟩
theorem S.tk61 : TDok Try.prog 61 S.td61 := td_raw (info_of Try.type61) rfl rfl rfl rfl rfl Try.isAgg61
def S.td62 : TD := ⟨true, .int Go.IntKind.i32, 1, 4, false, [.int Go.IntKind.i32 0]⟩
theorem S.tk62 : TDok Try.prog 62 S.td62 := td_int (info_of Try.type62) rfl rfl rfl Try.isAgg62 Try.underlying62
def S.td63 : TD := ⟨true, .int Go.IntKind.i32, 1, 4, false, [.int Go.IntKind.i32 0]⟩
theorem S.tk63 : TDok Try.prog 63 S.td63 := td_int (info_of Try.type63) rfl rfl rfl Try.isAgg63 Try.underlying63
def S.td64 : TD := ⟨true, .struct [(0, 1, false), (1, 1, false), (2, 1, false), (3, 1, false), (4, 1, false), (5, 1, false), (6, 1, false), (7, 1, false), (8, 1, false), (9, 1, false), (10, 1, false)], 11, 48, true, [.int Go.IntKind.u64 0, .int Go.IntKind.u64 0, .int Go.IntKind.u32 0, .int Go.IntKind.u8 0, .int Go.IntKind.u8 0, .int Go.IntKind.u8 0, .int Go.IntKind.u8 0, .raw (Go.Value.nilFunc), .raw (Go.Value.pointer none), .int Go.IntKind.i32 0, .int Go.IntKind.i32 0]⟩
theorem S.tk64 : TDok Try.prog 64 S.td64 := td_struct (zs := [Go.Value.int Go.IntKind.u64 0, Go.Value.int Go.IntKind.u64 0, Go.Value.int Go.IntKind.u32 0, Go.Value.int Go.IntKind.u8 0, Go.Value.int Go.IntKind.u8 0, Go.Value.int Go.IntKind.u8 0, Go.Value.int Go.IntKind.u8 0, Go.Value.nilFunc, Go.Value.pointer none, Go.Value.int Go.IntKind.i32 0, Go.Value.int Go.IntKind.i32 0]) (info_of Try.type64) rfl rfl rfl rfl rfl rfl Try.isAgg64 Try.underlying64 (⟨⟨rfl, ⟨_, info_of Try.type12, rfl⟩, by decide, Try.isAgg12⟩, ⟨⟨rfl, ⟨_, info_of Try.type12, rfl⟩, by decide, Try.isAgg12⟩, ⟨⟨rfl, ⟨_, info_of Try.type57, rfl⟩, by decide, Try.isAgg57⟩, ⟨⟨rfl, ⟨_, info_of Try.type58, rfl⟩, by decide, Try.isAgg58⟩, ⟨⟨rfl, ⟨_, info_of Try.type5, rfl⟩, by decide, Try.isAgg5⟩, ⟨⟨rfl, ⟨_, info_of Try.type5, rfl⟩, by decide, Try.isAgg5⟩, ⟨⟨rfl, ⟨_, info_of Try.type59, rfl⟩, by decide, Try.isAgg59⟩, ⟨⟨rfl, ⟨_, info_of Try.type60, rfl⟩, by decide, Try.isAgg60⟩, ⟨⟨rfl, ⟨_, info_of Try.type61, rfl⟩, by decide, Try.isAgg61⟩, ⟨⟨rfl, ⟨_, info_of Try.type62, rfl⟩, by decide, Try.isAgg62⟩, ⟨⟨rfl, ⟨_, info_of Try.type63, rfl⟩, by decide, Try.isAgg63⟩, trivial⟩⟩⟩⟩⟩⟩⟩⟩⟩⟩⟩)
def S.td65 : TD := ⟨true, .struct [(0, 1, false), (1, 1, false), (2, 1, false), (3, 1, false), (4, 1, false), (5, 1, false), (6, 1, false), (7, 1, false), (8, 1, false), (9, 1, false), (10, 1, false)], 11, 48, true, [.int Go.IntKind.u64 0, .int Go.IntKind.u64 0, .int Go.IntKind.u32 0, .int Go.IntKind.u8 0, .int Go.IntKind.u8 0, .int Go.IntKind.u8 0, .int Go.IntKind.u8 0, .raw (Go.Value.nilFunc), .raw (Go.Value.pointer none), .int Go.IntKind.i32 0, .int Go.IntKind.i32 0]⟩
theorem S.tk65 : TDok Try.prog 65 S.td65 := td_struct (zs := [Go.Value.int Go.IntKind.u64 0, Go.Value.int Go.IntKind.u64 0, Go.Value.int Go.IntKind.u32 0, Go.Value.int Go.IntKind.u8 0, Go.Value.int Go.IntKind.u8 0, Go.Value.int Go.IntKind.u8 0, Go.Value.int Go.IntKind.u8 0, Go.Value.nilFunc, Go.Value.pointer none, Go.Value.int Go.IntKind.i32 0, Go.Value.int Go.IntKind.i32 0]) (info_of Try.type65) rfl rfl rfl rfl rfl rfl Try.isAgg65 Try.underlying65 (⟨⟨rfl, ⟨_, info_of Try.type12, rfl⟩, by decide, Try.isAgg12⟩, ⟨⟨rfl, ⟨_, info_of Try.type12, rfl⟩, by decide, Try.isAgg12⟩, ⟨⟨rfl, ⟨_, info_of Try.type57, rfl⟩, by decide, Try.isAgg57⟩, ⟨⟨rfl, ⟨_, info_of Try.type58, rfl⟩, by decide, Try.isAgg58⟩, ⟨⟨rfl, ⟨_, info_of Try.type5, rfl⟩, by decide, Try.isAgg5⟩, ⟨⟨rfl, ⟨_, info_of Try.type5, rfl⟩, by decide, Try.isAgg5⟩, ⟨⟨rfl, ⟨_, info_of Try.type59, rfl⟩, by decide, Try.isAgg59⟩, ⟨⟨rfl, ⟨_, info_of Try.type60, rfl⟩, by decide, Try.isAgg60⟩, ⟨⟨rfl, ⟨_, info_of Try.type61, rfl⟩, by decide, Try.isAgg61⟩, ⟨⟨rfl, ⟨_, info_of Try.type62, rfl⟩, by decide, Try.isAgg62⟩, ⟨⟨rfl, ⟨_, info_of Try.type63, rfl⟩, by decide, Try.isAgg63⟩, trivial⟩⟩⟩⟩⟩⟩⟩⟩⟩⟩⟩)
def S.tree : TTree := (.node 32 S.td32 (.node 16 S.td16 (.node 8 S.td8 (.node 4 S.td4 (.node 2 S.td2 (.node 1 S.td1 .leaf .leaf) (.node 3 S.td3 .leaf .leaf)) (.node 6 S.td6 (.node 5 S.td5 .leaf .leaf) (.node 7 S.td7 .leaf .leaf))) (.node 12 S.td12 (.node 10 S.td10 (.node 9 S.td9 .leaf .leaf) (.node 11 S.td11 .leaf .leaf)) (.node 14 S.td14 (.node 13 S.td13 .leaf .leaf) (.node 15 S.td15 .leaf .leaf)))) (.node 24 S.td24 (.node 20 S.td20 (.node 18 S.td18 (.node 17 S.td17 .leaf .leaf) (.node 19 S.td19 .leaf .leaf)) (.node 22 S.td22 (.node 21 S.td21 .leaf .leaf) (.node 23 S.td23 .leaf .leaf))) (.node 28 S.td28 (.node 26 S.td26 (.node 25 S.td25 .leaf .leaf) (.node 27 S.td27 .leaf .leaf)) (.node 30 S.td30 (.node 29 S.td29 .leaf .leaf) (.node 31 S.td31 .leaf .leaf))))) (.node 48 S.td48 (.node 40 S.td40 (.node 36 S.td36 (.node 34 S.td34 (.node 33 S.td33 .leaf .leaf) (.node 35 S.td35 .leaf .leaf)) (.node 38 S.td38 (.node 37 S.td37 .leaf .leaf) (.node 39 S.td39 .leaf .leaf))) (.node 44 S.td44 (.node 42 S.td42 (.node 41 S.td41 .leaf .leaf) (.node 43 S.td43 .leaf .leaf)) (.node 46 S.td46 (.node 45 S.td45 .leaf .leaf) (.node 47 S.td47 .leaf .leaf)))) (.node 59 S.td59 (.node 52 S.td52 (.node 50 S.td50 (.node 49 S.td49 .leaf .leaf) (.node 51 S.td51 .leaf .leaf)) (.node 57 S.td57 (.node 56 S.td56 .leaf .leaf) (.node 58 S.td58 .leaf .leaf))) (.node 63 S.td63 (.node 61 S.td61 (.node 60 S.td60 .leaf .leaf) (.node 62 S.td62 .leaf .leaf)) (.node 65 S.td65 (.node 64 S.td64 .leaf .leaf) .leaf)))))
theorem S.tall : TAll Try.prog S.tree := ⟨S.tk32, ⟨S.tk16, ⟨S.tk8, ⟨S.tk4, ⟨S.tk2, ⟨S.tk1, trivial, trivial⟩, ⟨S.tk3, trivial, trivial⟩⟩, ⟨S.tk6, ⟨S.tk5, trivial, trivial⟩, ⟨S.tk7, trivial, trivial⟩⟩⟩, ⟨S.tk12, ⟨S.tk10, ⟨S.tk9, trivial, trivial⟩, ⟨S.tk11, trivial, trivial⟩⟩, ⟨S.tk14, ⟨S.tk13, trivial, trivial⟩, ⟨S.tk15, trivial, trivial⟩⟩⟩⟩, ⟨S.tk24, ⟨S.tk20, ⟨S.tk18, ⟨S.tk17, trivial, trivial⟩, ⟨S.tk19, trivial, trivial⟩⟩, ⟨S.tk22, ⟨S.tk21, trivial, trivial⟩, ⟨S.tk23, trivial, trivial⟩⟩⟩, ⟨S.tk28, ⟨S.tk26, ⟨S.tk25, trivial, trivial⟩, ⟨S.tk27, trivial, trivial⟩⟩, ⟨S.tk30, ⟨S.tk29, trivial, trivial⟩, ⟨S.tk31, trivial, trivial⟩⟩⟩⟩⟩, ⟨S.tk48, ⟨S.tk40, ⟨S.tk36, ⟨S.tk34, ⟨S.tk33, trivial, trivial⟩, ⟨S.tk35, trivial, trivial⟩⟩, ⟨S.tk38, ⟨S.tk37, trivial, trivial⟩, ⟨S.tk39, trivial, trivial⟩⟩⟩, ⟨S.tk44, ⟨S.tk42, ⟨S.tk41, trivial, trivial⟩, ⟨S.tk43, trivial, trivial⟩⟩, ⟨S.tk46, ⟨S.tk45, trivial, trivial⟩, ⟨S.tk47, trivial, trivial⟩⟩⟩⟩, ⟨S.tk59, ⟨S.tk52, ⟨S.tk50, ⟨S.tk49, trivial, trivial⟩, ⟨S.tk51, trivial, trivial⟩⟩, ⟨S.tk57, ⟨S.tk56, trivial, trivial⟩, ⟨S.tk58, trivial, trivial⟩⟩⟩, ⟨S.tk63, ⟨S.tk61, ⟨S.tk60, trivial, trivial⟩, ⟨S.tk62, trivial, trivial⟩⟩, ⟨S.tk65, ⟨S.tk64, trivial, trivial⟩, trivial⟩⟩⟩⟩⟩
def S.te : TE := fun t => tlook S.tree t
theorem S.teOk : ∀ t, TDok Try.prog t (S.te t) := tlook_ok S.tall
noncomputable def S.E (m : Nat) : Env := ⟨Try.prog, S.te, S.teOk, m⟩
end Go.AM
