/- The types of the program, as the lifted calculus asks them. -/
import Derived.Test.YthlibdhjcjangaaDoorProg
import Derived.Test.YthlibdhjcjangaaDoorLiftD
import Derived.Shelf.Unicode.DecodeSlow
set_option linter.unusedSimpArgs false
set_option linter.unusedVariables false
namespace Go.Proofs.YthlibdhjcjangaaDoor
open Go Go.RowKit Go.Proofs.YthlibdhjcjangaaDoor.Lift
set_option maxRecDepth 100000
abbrev i1 : TyI := ⟨.func, 1, 8, [Value.nilFunc]⟩
theorem a1 : Agrees Tryd.prog 1 i1 := ⟨⟨_, _, _, Tryd.underlying1⟩, by rw [info_at Tryd.type1]; rfl⟩
abbrev i2 : TyI := ⟨.int .i64, 1, 8, [Value.int .i64 0]⟩
theorem a2 : Agrees Tryd.prog 2 i2 := ⟨Tryd.underlying2, by rw [info_at Tryd.type2]; rfl⟩
abbrev i3 : TyI := ⟨.int .i64, 1, 8, [Value.int .i64 0]⟩
theorem a3 : Agrees Tryd.prog 3 i3 := ⟨Tryd.underlying3, by rw [info_at Tryd.type3]; rfl⟩
abbrev i4 : TyI := ⟨.bool, 1, 1, [Value.bool false]⟩
theorem a4 : Agrees Tryd.prog 4 i4 := ⟨Tryd.underlying4, by rw [info_at Tryd.type4]; rfl⟩
abbrev i5 : TyI := ⟨.int .u8, 1, 1, [Value.int .u8 0]⟩
theorem a5 : Agrees Tryd.prog 5 i5 := ⟨Tryd.underlying5, by rw [info_at Tryd.type5]; rfl⟩
abbrev i6 : TyI := ⟨.int .u8, 1, 1, [Value.int .u8 0]⟩
theorem a6 : Agrees Tryd.prog 6 i6 := ⟨Tryd.underlying6, by rw [info_at Tryd.type6]; rfl⟩
abbrev i7 : TyI := ⟨.struct [(0, 2), (1, 3), (2, 4), (3, 6)], 4, 24, [Value.int .i64 0, Value.int .i64 0, Value.bool false, Value.int .u8 0]⟩
theorem a7 : Agrees Tryd.prog 7 i7 := ⟨⟨_, Tryd.underlying7, rfl⟩, by rw [info_at Tryd.type7]; rfl⟩
abbrev i8 : TyI := ⟨.struct [(0, 2), (1, 3), (2, 4), (3, 6)], 4, 24, [Value.int .i64 0, Value.int .i64 0, Value.bool false, Value.int .u8 0]⟩
theorem a8 : Agrees Tryd.prog 8 i8 := ⟨⟨_, Tryd.underlying8, rfl⟩, by rw [info_at Tryd.type8]; rfl⟩
abbrev i9 : TyI := ⟨.str, 1, 16, [Value.string ⟨#[]⟩]⟩
theorem a9 : Agrees Tryd.prog 9 i9 := ⟨Tryd.underlying9, by rw [info_at Tryd.type9]; rfl⟩
abbrev i10 : TyI := ⟨.str, 1, 16, [Value.string ⟨#[]⟩]⟩
theorem a10 : Agrees Tryd.prog 10 i10 := ⟨Tryd.underlying10, by rw [info_at Tryd.type10]; rfl⟩
abbrev i11 : TyI := ⟨.str, 1, 16, [Value.string ⟨#[]⟩]⟩
theorem a11 : Agrees Tryd.prog 11 i11 := ⟨Tryd.underlying11, by rw [info_at Tryd.type11]; rfl⟩
abbrev i12 : TyI := ⟨.int .u64, 1, 8, [Value.int .u64 0]⟩
theorem a12 : Agrees Tryd.prog 12 i12 := ⟨Tryd.underlying12, by rw [info_at Tryd.type12]; rfl⟩
abbrev i13 : TyI := ⟨.struct [(0, 9), (1, 12)], 2, 24, [Value.string ⟨#[]⟩, Value.int .u64 0]⟩
theorem a13 : Agrees Tryd.prog 13 i13 := ⟨⟨_, Tryd.underlying13, rfl⟩, by rw [info_at Tryd.type13]; rfl⟩
abbrev i14 : TyI := ⟨.struct [(0, 9), (1, 12)], 2, 24, [Value.string ⟨#[]⟩, Value.int .u64 0]⟩
theorem a14 : Agrees Tryd.prog 14 i14 := ⟨⟨_, Tryd.underlying14, rfl⟩, by rw [info_at Tryd.type14]; rfl⟩
abbrev i15 : TyI := ⟨.ptr 100, 1, 8, [Value.pointer none]⟩
theorem a15 : Agrees Tryd.prog 15 i15 := ⟨Tryd.underlying15, by rw [info_at Tryd.type15]; rfl⟩
abbrev i16 : TyI := ⟨.ptr 103, 1, 8, [Value.pointer none]⟩
theorem a16 : Agrees Tryd.prog 16 i16 := ⟨Tryd.underlying16, by rw [info_at Tryd.type16]; rfl⟩
abbrev i17 : TyI := ⟨.ptr 110, 1, 8, [Value.pointer none]⟩
theorem a17 : Agrees Tryd.prog 17 i17 := ⟨Tryd.underlying17, by rw [info_at Tryd.type17]; rfl⟩
abbrev i18 : TyI := ⟨.struct [(0, 17)], 1, 8, [Value.pointer none]⟩
theorem a18 : Agrees Tryd.prog 18 i18 := ⟨⟨_, Tryd.underlying18, rfl⟩, by rw [info_at Tryd.type18]; rfl⟩
abbrev i19 : TyI := ⟨.struct [(0, 17)], 1, 8, [Value.pointer none]⟩
theorem a19 : Agrees Tryd.prog 19 i19 := ⟨⟨_, Tryd.underlying19, rfl⟩, by rw [info_at Tryd.type19]; rfl⟩
abbrev i20 : TyI := ⟨.iface, 1, 16, [Value.nilIface]⟩
theorem a20 : Agrees Tryd.prog 20 i20 := ⟨⟨_, Tryd.underlying20⟩, by rw [info_at Tryd.type20]; rfl⟩
abbrev i21 : TyI := ⟨.int .i32, 1, 4, [Value.int .i32 0]⟩
theorem a21 : Agrees Tryd.prog 21 i21 := ⟨Tryd.underlying21, by rw [info_at Tryd.type21]; rfl⟩
abbrev i22 : TyI := ⟨.func, 1, 8, [Value.nilFunc]⟩
theorem a22 : Agrees Tryd.prog 22 i22 := ⟨⟨_, _, _, Tryd.underlying22⟩, by rw [info_at Tryd.type22]; rfl⟩
abbrev i23 : TyI := ⟨.struct [(0, 9), (1, 4)], 2, 24, [Value.string ⟨#[]⟩, Value.bool false]⟩
theorem a23 : Agrees Tryd.prog 23 i23 := ⟨⟨_, Tryd.underlying23, rfl⟩, by rw [info_at Tryd.type23]; rfl⟩
abbrev i24 : TyI := ⟨.struct [(0, 9), (1, 4)], 2, 24, [Value.string ⟨#[]⟩, Value.bool false]⟩
theorem a24 : Agrees Tryd.prog 24 i24 := ⟨⟨_, Tryd.underlying24, rfl⟩, by rw [info_at Tryd.type24]; rfl⟩
abbrev i25 : TyI := ⟨.int .i64, 1, 8, [Value.int .i64 0]⟩
theorem a25 : Agrees Tryd.prog 25 i25 := ⟨Tryd.underlying25, by rw [info_at Tryd.type25]; rfl⟩
abbrev i27 : TyI := ⟨.func, 1, 8, [Value.nilFunc]⟩
theorem a27 : Agrees Tryd.prog 27 i27 := ⟨⟨_, _, _, Tryd.underlying27⟩, by rw [info_at Tryd.type27]; rfl⟩
abbrev i28 : TyI := ⟨.slice 3, 1, 24, [Value.slice none 0 0]⟩
theorem a28 : Agrees Tryd.prog 28 i28 := ⟨Tryd.underlying28, by rw [info_at Tryd.type28]; rfl⟩
abbrev i30 : TyI := ⟨.func, 1, 8, [Value.nilFunc]⟩
theorem a30 : Agrees Tryd.prog 30 i30 := ⟨⟨_, _, _, Tryd.underlying30⟩, by rw [info_at Tryd.type30]; rfl⟩
abbrev i31 : TyI := ⟨.func, 1, 8, [Value.nilFunc]⟩
theorem a31 : Agrees Tryd.prog 31 i31 := ⟨⟨_, _, _, Tryd.underlying31⟩, by rw [info_at Tryd.type31]; rfl⟩
abbrev i32 : TyI := ⟨.func, 1, 8, [Value.nilFunc]⟩
theorem a32 : Agrees Tryd.prog 32 i32 := ⟨⟨_, _, _, Tryd.underlying32⟩, by rw [info_at Tryd.type32]; rfl⟩
abbrev i33 : TyI := ⟨.func, 1, 8, [Value.nilFunc]⟩
theorem a33 : Agrees Tryd.prog 33 i33 := ⟨⟨_, _, _, Tryd.underlying33⟩, by rw [info_at Tryd.type33]; rfl⟩
abbrev i34 : TyI := ⟨.slice 5, 1, 24, [Value.slice none 0 0]⟩
theorem a34 : Agrees Tryd.prog 34 i34 := ⟨Tryd.underlying34, by rw [info_at Tryd.type34]; rfl⟩
abbrev i36 : TyI := ⟨.func, 1, 8, [Value.nilFunc]⟩
theorem a36 : Agrees Tryd.prog 36 i36 := ⟨⟨_, _, _, Tryd.underlying36⟩, by rw [info_at Tryd.type36]; rfl⟩
abbrev i37 : TyI := ⟨.func, 1, 8, [Value.nilFunc]⟩
theorem a37 : Agrees Tryd.prog 37 i37 := ⟨⟨_, _, _, Tryd.underlying37⟩, by rw [info_at Tryd.type37]; rfl⟩
abbrev i38 : TyI := ⟨.func, 1, 8, [Value.nilFunc]⟩
theorem a38 : Agrees Tryd.prog 38 i38 := ⟨⟨_, _, _, Tryd.underlying38⟩, by rw [info_at Tryd.type38]; rfl⟩
abbrev i39 : TyI := ⟨.func, 1, 8, [Value.nilFunc]⟩
theorem a39 : Agrees Tryd.prog 39 i39 := ⟨⟨_, _, _, Tryd.underlying39⟩, by rw [info_at Tryd.type39]; rfl⟩
abbrev i40 : TyI := ⟨.func, 1, 8, [Value.nilFunc]⟩
theorem a40 : Agrees Tryd.prog 40 i40 := ⟨⟨_, _, _, Tryd.underlying40⟩, by rw [info_at Tryd.type40]; rfl⟩
abbrev i41 : TyI := ⟨.func, 1, 8, [Value.nilFunc]⟩
theorem a41 : Agrees Tryd.prog 41 i41 := ⟨⟨_, _, _, Tryd.underlying41⟩, by rw [info_at Tryd.type41]; rfl⟩
abbrev i42 : TyI := ⟨.func, 1, 8, [Value.nilFunc]⟩
theorem a42 : Agrees Tryd.prog 42 i42 := ⟨⟨_, _, _, Tryd.underlying42⟩, by rw [info_at Tryd.type42]; rfl⟩
abbrev i43 : TyI := ⟨.func, 1, 8, [Value.nilFunc]⟩
theorem a43 : Agrees Tryd.prog 43 i43 := ⟨⟨_, _, _, Tryd.underlying43⟩, by rw [info_at Tryd.type43]; rfl⟩
abbrev i44 : TyI := ⟨.func, 1, 8, [Value.nilFunc]⟩
theorem a44 : Agrees Tryd.prog 44 i44 := ⟨⟨_, _, _, Tryd.underlying44⟩, by rw [info_at Tryd.type44]; rfl⟩
abbrev i46 : TyI := ⟨.func, 1, 8, [Value.nilFunc]⟩
theorem a46 : Agrees Tryd.prog 46 i46 := ⟨⟨_, _, _, Tryd.underlying46⟩, by rw [info_at Tryd.type46]; rfl⟩
abbrev i48 : TyI := ⟨.func, 1, 8, [Value.nilFunc]⟩
theorem a48 : Agrees Tryd.prog 48 i48 := ⟨⟨_, _, _, Tryd.underlying48⟩, by rw [info_at Tryd.type48]; rfl⟩
abbrev i49 : TyI := ⟨.struct [(0, 3), (1, 25)], 2, 16, [Value.int .i64 0, Value.int .i64 0]⟩
theorem a49 : Agrees Tryd.prog 49 i49 := ⟨⟨_, Tryd.underlying49, rfl⟩, by rw [info_at Tryd.type49]; rfl⟩
abbrev i50 : TyI := ⟨.struct [(0, 3), (1, 25)], 2, 16, [Value.int .i64 0, Value.int .i64 0]⟩
theorem a50 : Agrees Tryd.prog 50 i50 := ⟨⟨_, Tryd.underlying50, rfl⟩, by rw [info_at Tryd.type50]; rfl⟩
abbrev i52 : TyI := ⟨.func, 1, 8, [Value.nilFunc]⟩
theorem a52 : Agrees Tryd.prog 52 i52 := ⟨⟨_, _, _, Tryd.underlying52⟩, by rw [info_at Tryd.type52]; rfl⟩
abbrev i53 : TyI := ⟨.ptr 55, 1, 8, [Value.pointer none]⟩
theorem a53 : Agrees Tryd.prog 53 i53 := ⟨Tryd.underlying53, by rw [info_at Tryd.type53]; rfl⟩
abbrev i54 : TyI := ⟨.struct [(0, 9), (1, 3)], 2, 24, [Value.string ⟨#[]⟩, Value.int .i64 0]⟩
theorem a54 : Agrees Tryd.prog 54 i54 := ⟨⟨_, Tryd.underlying54, rfl⟩, by rw [info_at Tryd.type54]; rfl⟩
abbrev i55 : TyI := ⟨.struct [(0, 9), (1, 3)], 2, 24, [Value.string ⟨#[]⟩, Value.int .i64 0]⟩
theorem a55 : Agrees Tryd.prog 55 i55 := ⟨⟨_, Tryd.underlying55, rfl⟩, by rw [info_at Tryd.type55]; rfl⟩
abbrev i56 : TyI := ⟨.slice 21, 1, 24, [Value.slice none 0 0]⟩
theorem a56 : Agrees Tryd.prog 56 i56 := ⟨Tryd.underlying56, by rw [info_at Tryd.type56]; rfl⟩
abbrev i57 : TyI := ⟨.func, 1, 8, [Value.nilFunc]⟩
theorem a57 : Agrees Tryd.prog 57 i57 := ⟨⟨_, _, _, Tryd.underlying57⟩, by rw [info_at Tryd.type57]; rfl⟩
abbrev i58 : TyI := ⟨.func, 1, 8, [Value.nilFunc]⟩
theorem a58 : Agrees Tryd.prog 58 i58 := ⟨⟨_, _, _, Tryd.underlying58⟩, by rw [info_at Tryd.type58]; rfl⟩
abbrev i59 : TyI := ⟨.func, 1, 8, [Value.nilFunc]⟩
theorem a59 : Agrees Tryd.prog 59 i59 := ⟨⟨_, _, _, Tryd.underlying59⟩, by rw [info_at Tryd.type59]; rfl⟩
abbrev i61 : TyI := ⟨.func, 1, 8, [Value.nilFunc]⟩
theorem a61 : Agrees Tryd.prog 61 i61 := ⟨⟨_, _, _, Tryd.underlying61⟩, by rw [info_at Tryd.type61]; rfl⟩
abbrev i63 : TyI := ⟨.func, 1, 8, [Value.nilFunc]⟩
theorem a63 : Agrees Tryd.prog 63 i63 := ⟨⟨_, _, _, Tryd.underlying63⟩, by rw [info_at Tryd.type63]; rfl⟩
abbrev i64 : TyI := ⟨.func, 1, 8, [Value.nilFunc]⟩
theorem a64 : Agrees Tryd.prog 64 i64 := ⟨⟨_, _, _, Tryd.underlying64⟩, by rw [info_at Tryd.type64]; rfl⟩
abbrev i65 : TyI := ⟨.func, 1, 8, [Value.nilFunc]⟩
theorem a65 : Agrees Tryd.prog 65 i65 := ⟨⟨_, _, _, Tryd.underlying65⟩, by rw [info_at Tryd.type65]; rfl⟩
abbrev i66 : TyI := ⟨.func, 1, 8, [Value.nilFunc]⟩
theorem a66 : Agrees Tryd.prog 66 i66 := ⟨⟨_, _, _, Tryd.underlying66⟩, by rw [info_at Tryd.type66]; rfl⟩
abbrev i67 : TyI := ⟨.func, 1, 8, [Value.nilFunc]⟩
theorem a67 : Agrees Tryd.prog 67 i67 := ⟨⟨_, _, _, Tryd.underlying67⟩, by rw [info_at Tryd.type67]; rfl⟩
abbrev i68 : TyI := ⟨.slice 24, 1, 24, [Value.slice none 0 0]⟩
theorem a68 : Agrees Tryd.prog 68 i68 := ⟨Tryd.underlying68, by rw [info_at Tryd.type68]; rfl⟩
abbrev i69 : TyI := ⟨.ptr 71, 1, 8, [Value.pointer none]⟩
theorem a69 : Agrees Tryd.prog 69 i69 := ⟨Tryd.underlying69, by rw [info_at Tryd.type69]; rfl⟩
abbrev i70 : TyI := ⟨.struct [(0, 69), (1, 34)], 2, 32, [Value.pointer none, Value.slice none 0 0]⟩
theorem a70 : Agrees Tryd.prog 70 i70 := ⟨⟨_, Tryd.underlying70, rfl⟩, by rw [info_at Tryd.type70]; rfl⟩
abbrev i71 : TyI := ⟨.struct [(0, 69), (1, 34)], 2, 32, [Value.pointer none, Value.slice none 0 0]⟩
theorem a71 : Agrees Tryd.prog 71 i71 := ⟨⟨_, Tryd.underlying71, rfl⟩, by rw [info_at Tryd.type71]; rfl⟩
abbrev i72 : TyI := ⟨.iface, 1, 16, [Value.nilIface]⟩
theorem a72 : Agrees Tryd.prog 72 i72 := ⟨⟨_, Tryd.underlying72⟩, by rw [info_at Tryd.type72]; rfl⟩
abbrev i73 : TyI := ⟨.iface, 1, 16, [Value.nilIface]⟩
theorem a73 : Agrees Tryd.prog 73 i73 := ⟨⟨_, Tryd.underlying73⟩, by rw [info_at Tryd.type73]; rfl⟩
abbrev i75 : TyI := ⟨.func, 1, 8, [Value.nilFunc]⟩
theorem a75 : Agrees Tryd.prog 75 i75 := ⟨⟨_, _, _, Tryd.underlying75⟩, by rw [info_at Tryd.type75]; rfl⟩
abbrev i76 : TyI := ⟨.func, 1, 8, [Value.nilFunc]⟩
theorem a76 : Agrees Tryd.prog 76 i76 := ⟨⟨_, _, _, Tryd.underlying76⟩, by rw [info_at Tryd.type76]; rfl⟩
abbrev i77 : TyI := ⟨.func, 1, 8, [Value.nilFunc]⟩
theorem a77 : Agrees Tryd.prog 77 i77 := ⟨⟨_, _, _, Tryd.underlying77⟩, by rw [info_at Tryd.type77]; rfl⟩
abbrev i78 : TyI := ⟨.func, 1, 8, [Value.nilFunc]⟩
theorem a78 : Agrees Tryd.prog 78 i78 := ⟨⟨_, _, _, Tryd.underlying78⟩, by rw [info_at Tryd.type78]; rfl⟩
abbrev i79 : TyI := ⟨.func, 1, 8, [Value.nilFunc]⟩
theorem a79 : Agrees Tryd.prog 79 i79 := ⟨⟨_, _, _, Tryd.underlying79⟩, by rw [info_at Tryd.type79]; rfl⟩
abbrev i80 : TyI := ⟨.func, 1, 8, [Value.nilFunc]⟩
theorem a80 : Agrees Tryd.prog 80 i80 := ⟨⟨_, _, _, Tryd.underlying80⟩, by rw [info_at Tryd.type80]; rfl⟩
abbrev i81 : TyI := ⟨.func, 1, 8, [Value.nilFunc]⟩
theorem a81 : Agrees Tryd.prog 81 i81 := ⟨⟨_, _, _, Tryd.underlying81⟩, by rw [info_at Tryd.type81]; rfl⟩
abbrev i82 : TyI := ⟨.func, 1, 8, [Value.nilFunc]⟩
theorem a82 : Agrees Tryd.prog 82 i82 := ⟨⟨_, _, _, Tryd.underlying82⟩, by rw [info_at Tryd.type82]; rfl⟩
abbrev i83 : TyI := ⟨.func, 1, 8, [Value.nilFunc]⟩
theorem a83 : Agrees Tryd.prog 83 i83 := ⟨⟨_, _, _, Tryd.underlying83⟩, by rw [info_at Tryd.type83]; rfl⟩
abbrev i84 : TyI := ⟨.map 5 3, 1, 8, [Value.map none]⟩
theorem a84 : Agrees Tryd.prog 84 i84 := ⟨Tryd.underlying84, by rw [info_at Tryd.type84]; rfl⟩
abbrev i85 : TyI := ⟨.int .u64, 1, 8, [Value.int .u64 0]⟩
theorem a85 : Agrees Tryd.prog 85 i85 := ⟨Tryd.underlying85, by rw [info_at Tryd.type85]; rfl⟩
abbrev i86 : TyI := ⟨.func, 1, 8, [Value.nilFunc]⟩
theorem a86 : Agrees Tryd.prog 86 i86 := ⟨⟨_, _, _, Tryd.underlying86⟩, by rw [info_at Tryd.type86]; rfl⟩
abbrev i87 : TyI := ⟨.func, 1, 8, [Value.nilFunc]⟩
theorem a87 : Agrees Tryd.prog 87 i87 := ⟨⟨_, _, _, Tryd.underlying87⟩, by rw [info_at Tryd.type87]; rfl⟩
abbrev i88 : TyI := ⟨.ptr 5, 1, 8, [Value.pointer none]⟩
theorem a88 : Agrees Tryd.prog 88 i88 := ⟨Tryd.underlying88, by rw [info_at Tryd.type88]; rfl⟩
abbrev i90 : TyI := ⟨.struct [(0, 5), (1, 5)], 2, 2, [Value.int .u8 0, Value.int .u8 0]⟩
theorem a90 : Agrees Tryd.prog 90 i90 := ⟨⟨_, Tryd.underlying90, rfl⟩, by rw [info_at Tryd.type90]; rfl⟩
abbrev i91 : TyI := ⟨.struct [(0, 5), (1, 5)], 2, 2, [Value.int .u8 0, Value.int .u8 0]⟩
theorem a91 : Agrees Tryd.prog 91 i91 := ⟨⟨_, Tryd.underlying91, rfl⟩, by rw [info_at Tryd.type91]; rfl⟩
abbrev i92 : TyI := ⟨.array 16 91, 32, 32, [Value.int .u8 0, Value.int .u8 0, Value.int .u8 0, Value.int .u8 0, Value.int .u8 0, Value.int .u8 0, Value.int .u8 0, Value.int .u8 0, Value.int .u8 0, Value.int .u8 0, Value.int .u8 0, Value.int .u8 0, Value.int .u8 0, Value.int .u8 0, Value.int .u8 0, Value.int .u8 0, Value.int .u8 0, Value.int .u8 0, Value.int .u8 0, Value.int .u8 0, Value.int .u8 0, Value.int .u8 0, Value.int .u8 0, Value.int .u8 0, Value.int .u8 0, Value.int .u8 0, Value.int .u8 0, Value.int .u8 0, Value.int .u8 0, Value.int .u8 0, Value.int .u8 0, Value.int .u8 0]⟩
theorem a92 : Agrees Tryd.prog 92 i92 := ⟨Tryd.underlying92, by rw [info_at Tryd.type92]; rfl⟩
abbrev i93 : TyI := ⟨.uptr, 1, 8, [Value.pointer none]⟩
theorem a93 : Agrees Tryd.prog 93 i93 := ⟨Tryd.underlying93, by rw [info_at Tryd.type93]; rfl⟩
abbrev i94 : TyI := ⟨.func, 1, 8, [Value.nilFunc]⟩
theorem a94 : Agrees Tryd.prog 94 i94 := ⟨⟨_, _, _, Tryd.underlying94⟩, by rw [info_at Tryd.type94]; rfl⟩
abbrev i95 : TyI := ⟨.func, 1, 8, [Value.nilFunc]⟩
theorem a95 : Agrees Tryd.prog 95 i95 := ⟨⟨_, _, _, Tryd.underlying95⟩, by rw [info_at Tryd.type95]; rfl⟩
abbrev i96 : TyI := ⟨.int .u32, 1, 4, [Value.int .u32 0]⟩
theorem a96 : Agrees Tryd.prog 96 i96 := ⟨Tryd.underlying96, by rw [info_at Tryd.type96]; rfl⟩
abbrev i98 : TyI := ⟨.func, 1, 8, [Value.nilFunc]⟩
theorem a98 : Agrees Tryd.prog 98 i98 := ⟨⟨_, _, _, Tryd.underlying98⟩, by rw [info_at Tryd.type98]; rfl⟩
abbrev i99 : TyI := ⟨.struct [(0, 17), (1, 17), (2, 17), (3, 9)], 4, 40, [Value.pointer none, Value.pointer none, Value.pointer none, Value.string ⟨#[]⟩]⟩
theorem a99 : Agrees Tryd.prog 99 i99 := ⟨⟨_, Tryd.underlying99, rfl⟩, by rw [info_at Tryd.type99]; rfl⟩
abbrev i100 : TyI := ⟨.struct [(0, 17), (1, 17), (2, 17), (3, 9)], 4, 40, [Value.pointer none, Value.pointer none, Value.pointer none, Value.string ⟨#[]⟩]⟩
theorem a100 : Agrees Tryd.prog 100 i100 := ⟨⟨_, Tryd.underlying100, rfl⟩, by rw [info_at Tryd.type100]; rfl⟩
abbrev i101 : TyI := ⟨.array 0 16, 0, 0, []⟩
theorem a101 : Agrees Tryd.prog 101 i101 := ⟨Tryd.underlying101, by rw [info_at Tryd.type101]; rfl⟩
abbrev i102 : TyI := ⟨.struct [(0, 101)], 0, 0, []⟩
theorem a102 : Agrees Tryd.prog 102 i102 := ⟨⟨_, Tryd.underlying102, rfl⟩, by rw [info_at Tryd.type102]; rfl⟩
abbrev i103 : TyI := ⟨.struct [(0, 101)], 0, 0, []⟩
theorem a103 : Agrees Tryd.prog 103 i103 := ⟨⟨_, Tryd.underlying103, rfl⟩, by rw [info_at Tryd.type103]; rfl⟩
abbrev i104 : TyI := ⟨.int .u8, 1, 1, [Value.int .u8 0]⟩
theorem a104 : Agrees Tryd.prog 104 i104 := ⟨Tryd.underlying104, by rw [info_at Tryd.type104]; rfl⟩
abbrev i105 : TyI := ⟨.int .u8, 1, 1, [Value.int .u8 0]⟩
theorem a105 : Agrees Tryd.prog 105 i105 := ⟨Tryd.underlying105, by rw [info_at Tryd.type105]; rfl⟩
abbrev i106 : TyI := ⟨.func, 1, 8, [Value.nilFunc]⟩
theorem a106 : Agrees Tryd.prog 106 i106 := ⟨⟨_, _, _, Tryd.underlying106⟩, by rw [info_at Tryd.type106]; rfl⟩
abbrev i107 : TyI := ⟨.int .i32, 1, 4, [Value.int .i32 0]⟩
theorem a107 : Agrees Tryd.prog 107 i107 := ⟨Tryd.underlying107, by rw [info_at Tryd.type107]; rfl⟩
abbrev i108 : TyI := ⟨.int .i32, 1, 4, [Value.int .i32 0]⟩
theorem a108 : Agrees Tryd.prog 108 i108 := ⟨Tryd.underlying108, by rw [info_at Tryd.type108]; rfl⟩
abbrev i109 : TyI := ⟨.struct [(0, 12), (1, 12), (2, 96), (3, 104), (4, 5), (5, 5), (6, 105), (7, 106), (8, 88), (9, 107), (10, 108)], 11, 48, [Value.int .u64 0, Value.int .u64 0, Value.int .u32 0, Value.int .u8 0, Value.int .u8 0, Value.int .u8 0, Value.int .u8 0, Value.nilFunc, Value.pointer none, Value.int .i32 0, Value.int .i32 0]⟩
theorem a109 : Agrees Tryd.prog 109 i109 := ⟨⟨_, Tryd.underlying109, rfl⟩, by rw [info_at Tryd.type109]; rfl⟩
abbrev i110 : TyI := ⟨.struct [(0, 12), (1, 12), (2, 96), (3, 104), (4, 5), (5, 5), (6, 105), (7, 106), (8, 88), (9, 107), (10, 108)], 11, 48, [Value.int .u64 0, Value.int .u64 0, Value.int .u32 0, Value.int .u8 0, Value.int .u8 0, Value.int .u8 0, Value.int .u8 0, Value.nilFunc, Value.pointer none, Value.int .i32 0, Value.int .i32 0]⟩
theorem a110 : Agrees Tryd.prog 110 i110 := ⟨⟨_, Tryd.underlying110, rfl⟩, by rw [info_at Tryd.type110]; rfl⟩
def tab : List (TypeId × TyI) := [(1, i1), (2, i2), (3, i3), (4, i4), (5, i5), (6, i6), (7, i7), (8, i8), (9, i9), (10, i10), (11, i11), (12, i12), (13, i13), (14, i14), (15, i15), (16, i16), (17, i17), (18, i18), (19, i19), (20, i20), (21, i21), (22, i22), (23, i23), (24, i24), (25, i25), (27, i27), (28, i28), (30, i30), (31, i31), (32, i32), (33, i33), (34, i34), (36, i36), (37, i37), (38, i38), (39, i39), (40, i40), (41, i41), (42, i42), (43, i43), (44, i44), (46, i46), (48, i48), (49, i49), (50, i50), (52, i52), (53, i53), (54, i54), (55, i55), (56, i56), (57, i57), (58, i58), (59, i59), (61, i61), (63, i63), (64, i64), (65, i65), (66, i66), (67, i67), (68, i68), (69, i69), (70, i70), (71, i71), (72, i72), (73, i73), (75, i75), (76, i76), (77, i77), (78, i78), (79, i79), (80, i80), (81, i81), (82, i82), (83, i83), (84, i84), (85, i85), (86, i86), (87, i87), (88, i88), (90, i90), (91, i91), (92, i92), (93, i93), (94, i94), (95, i95), (96, i96), (98, i98), (99, i99), (100, i100), (101, i101), (102, i102), (103, i103), (104, i104), (105, i105), (106, i106), (107, i107), (108, i108), (109, i109), (110, i110)]
theorem tab_ok : AllAgree Tryd.prog tab := ⟨a1, a2, a3, a4, a5, a6, a7, a8, a9, a10, a11, a12, a13, a14, a15, a16, a17, a18, a19, a20, a21, a22, a23, a24, a25, a27, a28, a30, a31, a32, a33, a34, a36, a37, a38, a39, a40, a41, a42, a43, a44, a46, a48, a49, a50, a52, a53, a54, a55, a56, a57, a58, a59, a61, a63, a64, a65, a66, a67, a68, a69, a70, a71, a72, a73, a75, a76, a77, a78, a79, a80, a81, a82, a83, a84, a85, a86, a87, a88, a90, a91, a92, a93, a94, a95, a96, a98, a99, a100, a101, a102, a103, a104, a105, a106, a107, a108, a109, a110, trivial⟩
def gl : List (Nat × List PV) := []
/-- The tables of the decoder. -/
def gwinv (w : World) (I : Nat → Prop) : Prop := I 0 ∧ I 1 ∧ Lib.Utf8Tabs 0 1 w
theorem gcell_same {w w' : World} {b c : Nat} (h : w'.heap[b]? = w.heap[b]?) : w'.cell? ⟨b, c, none⟩ = w.cell? ⟨b, c, none⟩ := by
  unfold World.cell?
  rw [h]
theorem gkeepW (w : World) (I : Nat → Prop) (w' : World) (I' : Nat → Prop) (hk : Keeps w I w' I') (h : gwinv w I) : gwinv w' I' := by
  obtain ⟨h0, h1, h2, h3⟩ := h
  refine ⟨(hk 0 h0).1, (hk 1 h1).1, fun c hc => ?_, fun i hi => ?_⟩
  · rw [gcell_same (hk 0 h0).2]; exact h2 c hc
  · rw [gcell_same (hk 1 h1).2, gcell_same (hk 1 h1).2]; exact h3 i hi
noncomputable def env : Env := ⟨Tryd.prog, tab, gl, tab_ok, gwinv, gkeepW, []⟩
theorem ty1 : env.ty 1 = some i1 := rfl
theorem ty2 : env.ty 2 = some i2 := rfl
theorem ty3 : env.ty 3 = some i3 := rfl
theorem ty4 : env.ty 4 = some i4 := rfl
theorem ty5 : env.ty 5 = some i5 := rfl
theorem ty6 : env.ty 6 = some i6 := rfl
theorem ty7 : env.ty 7 = some i7 := rfl
theorem ty8 : env.ty 8 = some i8 := rfl
theorem ty9 : env.ty 9 = some i9 := rfl
theorem ty10 : env.ty 10 = some i10 := rfl
theorem ty11 : env.ty 11 = some i11 := rfl
theorem ty12 : env.ty 12 = some i12 := rfl
theorem ty13 : env.ty 13 = some i13 := rfl
theorem ty14 : env.ty 14 = some i14 := rfl
theorem ty15 : env.ty 15 = some i15 := rfl
theorem ty16 : env.ty 16 = some i16 := rfl
theorem ty17 : env.ty 17 = some i17 := rfl
theorem ty18 : env.ty 18 = some i18 := rfl
theorem ty19 : env.ty 19 = some i19 := rfl
theorem ty20 : env.ty 20 = some i20 := rfl
theorem ty21 : env.ty 21 = some i21 := rfl
theorem ty22 : env.ty 22 = some i22 := rfl
theorem ty23 : env.ty 23 = some i23 := rfl
theorem ty24 : env.ty 24 = some i24 := rfl
theorem ty25 : env.ty 25 = some i25 := rfl
theorem ty27 : env.ty 27 = some i27 := rfl
theorem ty28 : env.ty 28 = some i28 := rfl
theorem ty30 : env.ty 30 = some i30 := rfl
theorem ty31 : env.ty 31 = some i31 := rfl
theorem ty32 : env.ty 32 = some i32 := rfl
theorem ty33 : env.ty 33 = some i33 := rfl
theorem ty34 : env.ty 34 = some i34 := rfl
theorem ty36 : env.ty 36 = some i36 := rfl
theorem ty37 : env.ty 37 = some i37 := rfl
theorem ty38 : env.ty 38 = some i38 := rfl
theorem ty39 : env.ty 39 = some i39 := rfl
theorem ty40 : env.ty 40 = some i40 := rfl
theorem ty41 : env.ty 41 = some i41 := rfl
theorem ty42 : env.ty 42 = some i42 := rfl
theorem ty43 : env.ty 43 = some i43 := rfl
theorem ty44 : env.ty 44 = some i44 := rfl
theorem ty46 : env.ty 46 = some i46 := rfl
theorem ty48 : env.ty 48 = some i48 := rfl
theorem ty49 : env.ty 49 = some i49 := rfl
theorem ty50 : env.ty 50 = some i50 := rfl
theorem ty52 : env.ty 52 = some i52 := rfl
theorem ty53 : env.ty 53 = some i53 := rfl
theorem ty54 : env.ty 54 = some i54 := rfl
theorem ty55 : env.ty 55 = some i55 := rfl
theorem ty56 : env.ty 56 = some i56 := rfl
theorem ty57 : env.ty 57 = some i57 := rfl
theorem ty58 : env.ty 58 = some i58 := rfl
theorem ty59 : env.ty 59 = some i59 := rfl
theorem ty61 : env.ty 61 = some i61 := rfl
theorem ty63 : env.ty 63 = some i63 := rfl
theorem ty64 : env.ty 64 = some i64 := rfl
theorem ty65 : env.ty 65 = some i65 := rfl
theorem ty66 : env.ty 66 = some i66 := rfl
theorem ty67 : env.ty 67 = some i67 := rfl
theorem ty68 : env.ty 68 = some i68 := rfl
theorem ty69 : env.ty 69 = some i69 := rfl
theorem ty70 : env.ty 70 = some i70 := rfl
theorem ty71 : env.ty 71 = some i71 := rfl
theorem ty72 : env.ty 72 = some i72 := rfl
theorem ty73 : env.ty 73 = some i73 := rfl
theorem ty75 : env.ty 75 = some i75 := rfl
theorem ty76 : env.ty 76 = some i76 := rfl
theorem ty77 : env.ty 77 = some i77 := rfl
theorem ty78 : env.ty 78 = some i78 := rfl
theorem ty79 : env.ty 79 = some i79 := rfl
theorem ty80 : env.ty 80 = some i80 := rfl
theorem ty81 : env.ty 81 = some i81 := rfl
theorem ty82 : env.ty 82 = some i82 := rfl
theorem ty83 : env.ty 83 = some i83 := rfl
theorem ty84 : env.ty 84 = some i84 := rfl
theorem ty85 : env.ty 85 = some i85 := rfl
theorem ty86 : env.ty 86 = some i86 := rfl
theorem ty87 : env.ty 87 = some i87 := rfl
theorem ty88 : env.ty 88 = some i88 := rfl
theorem ty90 : env.ty 90 = some i90 := rfl
theorem ty91 : env.ty 91 = some i91 := rfl
theorem ty92 : env.ty 92 = some i92 := rfl
theorem ty93 : env.ty 93 = some i93 := rfl
theorem ty94 : env.ty 94 = some i94 := rfl
theorem ty95 : env.ty 95 = some i95 := rfl
theorem ty96 : env.ty 96 = some i96 := rfl
theorem ty98 : env.ty 98 = some i98 := rfl
theorem ty99 : env.ty 99 = some i99 := rfl
theorem ty100 : env.ty 100 = some i100 := rfl
theorem ty101 : env.ty 101 = some i101 := rfl
theorem ty102 : env.ty 102 = some i102 := rfl
theorem ty103 : env.ty 103 = some i103 := rfl
theorem ty104 : env.ty 104 = some i104 := rfl
theorem ty105 : env.ty 105 = some i105 := rfl
theorem ty106 : env.ty 106 = some i106 := rfl
theorem ty107 : env.ty 107 = some i107 := rfl
theorem ty108 : env.ty 108 = some i108 := rfl
theorem ty109 : env.ty 109 = some i109 := rfl
theorem ty110 : env.ty 110 = some i110 := rfl
theorem kk5 : keyK env 5 = some (false, [.int .u8]) := by kernel_rfl
end Go.Proofs.YthlibdhjcjangaaDoor
