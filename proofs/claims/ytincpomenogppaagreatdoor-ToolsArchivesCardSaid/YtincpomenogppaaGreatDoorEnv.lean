/- The types of the program, as the lifted calculus asks them. -/
import Derived.Test.YtincpomenogppaaGreatDoorProg
import Derived.Test.YtincpomenogppaaGreatDoorLiftH
import Derived.Shelf.Unicode.DecodeSlow
set_option linter.unusedSimpArgs false
set_option linter.unusedVariables false
namespace Go.Proofs.YtincpomenogppaaGreatDoor
open Go Go.RowKit Go.Proofs.YtincpomenogppaaGreatDoor.Lift
set_option maxRecDepth 100000
abbrev i1 : TyI := ⟨.func, 1, 8, [Value.nilFunc]⟩
theorem a1 : Agrees Tryz.prog 1 i1 := ⟨⟨_, _, _, Tryz.underlying1⟩, by rw [info_at Tryz.type1]; rfl⟩
abbrev i2 : TyI := ⟨.int .i64, 1, 8, [Value.int .i64 0]⟩
theorem a2 : Agrees Tryz.prog 2 i2 := ⟨Tryz.underlying2, by rw [info_at Tryz.type2]; rfl⟩
abbrev i3 : TyI := ⟨.int .i64, 1, 8, [Value.int .i64 0]⟩
theorem a3 : Agrees Tryz.prog 3 i3 := ⟨Tryz.underlying3, by rw [info_at Tryz.type3]; rfl⟩
abbrev i4 : TyI := ⟨.bool, 1, 1, [Value.bool false]⟩
theorem a4 : Agrees Tryz.prog 4 i4 := ⟨Tryz.underlying4, by rw [info_at Tryz.type4]; rfl⟩
abbrev i5 : TyI := ⟨.int .u8, 1, 1, [Value.int .u8 0]⟩
theorem a5 : Agrees Tryz.prog 5 i5 := ⟨Tryz.underlying5, by rw [info_at Tryz.type5]; rfl⟩
abbrev i6 : TyI := ⟨.int .u8, 1, 1, [Value.int .u8 0]⟩
theorem a6 : Agrees Tryz.prog 6 i6 := ⟨Tryz.underlying6, by rw [info_at Tryz.type6]; rfl⟩
abbrev i7 : TyI := ⟨.struct [(0, 2), (1, 3), (2, 4), (3, 6)], 4, 24, [Value.int .i64 0, Value.int .i64 0, Value.bool false, Value.int .u8 0]⟩
theorem a7 : Agrees Tryz.prog 7 i7 := ⟨⟨_, Tryz.underlying7, rfl⟩, by rw [info_at Tryz.type7]; rfl⟩
abbrev i8 : TyI := ⟨.struct [(0, 2), (1, 3), (2, 4), (3, 6)], 4, 24, [Value.int .i64 0, Value.int .i64 0, Value.bool false, Value.int .u8 0]⟩
theorem a8 : Agrees Tryz.prog 8 i8 := ⟨⟨_, Tryz.underlying8, rfl⟩, by rw [info_at Tryz.type8]; rfl⟩
abbrev i9 : TyI := ⟨.str, 1, 16, [Value.string ⟨#[]⟩]⟩
theorem a9 : Agrees Tryz.prog 9 i9 := ⟨Tryz.underlying9, by rw [info_at Tryz.type9]; rfl⟩
abbrev i10 : TyI := ⟨.str, 1, 16, [Value.string ⟨#[]⟩]⟩
theorem a10 : Agrees Tryz.prog 10 i10 := ⟨Tryz.underlying10, by rw [info_at Tryz.type10]; rfl⟩
abbrev i11 : TyI := ⟨.str, 1, 16, [Value.string ⟨#[]⟩]⟩
theorem a11 : Agrees Tryz.prog 11 i11 := ⟨Tryz.underlying11, by rw [info_at Tryz.type11]; rfl⟩
abbrev i12 : TyI := ⟨.int .u64, 1, 8, [Value.int .u64 0]⟩
theorem a12 : Agrees Tryz.prog 12 i12 := ⟨Tryz.underlying12, by rw [info_at Tryz.type12]; rfl⟩
abbrev i13 : TyI := ⟨.struct [(0, 9), (1, 12)], 2, 24, [Value.string ⟨#[]⟩, Value.int .u64 0]⟩
theorem a13 : Agrees Tryz.prog 13 i13 := ⟨⟨_, Tryz.underlying13, rfl⟩, by rw [info_at Tryz.type13]; rfl⟩
abbrev i14 : TyI := ⟨.struct [(0, 9), (1, 12)], 2, 24, [Value.string ⟨#[]⟩, Value.int .u64 0]⟩
theorem a14 : Agrees Tryz.prog 14 i14 := ⟨⟨_, Tryz.underlying14, rfl⟩, by rw [info_at Tryz.type14]; rfl⟩
abbrev i15 : TyI := ⟨.ptr 222, 1, 8, [Value.pointer none]⟩
theorem a15 : Agrees Tryz.prog 15 i15 := ⟨Tryz.underlying15, by rw [info_at Tryz.type15]; rfl⟩
abbrev i16 : TyI := ⟨.ptr 225, 1, 8, [Value.pointer none]⟩
theorem a16 : Agrees Tryz.prog 16 i16 := ⟨Tryz.underlying16, by rw [info_at Tryz.type16]; rfl⟩
abbrev i17 : TyI := ⟨.ptr 232, 1, 8, [Value.pointer none]⟩
theorem a17 : Agrees Tryz.prog 17 i17 := ⟨Tryz.underlying17, by rw [info_at Tryz.type17]; rfl⟩
abbrev i18 : TyI := ⟨.struct [(0, 17)], 1, 8, [Value.pointer none]⟩
theorem a18 : Agrees Tryz.prog 18 i18 := ⟨⟨_, Tryz.underlying18, rfl⟩, by rw [info_at Tryz.type18]; rfl⟩
abbrev i19 : TyI := ⟨.struct [(0, 17)], 1, 8, [Value.pointer none]⟩
theorem a19 : Agrees Tryz.prog 19 i19 := ⟨⟨_, Tryz.underlying19, rfl⟩, by rw [info_at Tryz.type19]; rfl⟩
abbrev i20 : TyI := ⟨.iface, 1, 16, [Value.nilIface]⟩
theorem a20 : Agrees Tryz.prog 20 i20 := ⟨⟨_, Tryz.underlying20⟩, by rw [info_at Tryz.type20]; rfl⟩
abbrev i21 : TyI := ⟨.int .i32, 1, 4, [Value.int .i32 0]⟩
theorem a21 : Agrees Tryz.prog 21 i21 := ⟨Tryz.underlying21, by rw [info_at Tryz.type21]; rfl⟩
abbrev i22 : TyI := ⟨.slice 77, 1, 24, [Value.slice none 0 0]⟩
theorem a22 : Agrees Tryz.prog 22 i22 := ⟨Tryz.underlying22, by rw [info_at Tryz.type22]; rfl⟩
abbrev i23 : TyI := ⟨.func, 1, 8, [Value.nilFunc]⟩
theorem a23 : Agrees Tryz.prog 23 i23 := ⟨⟨_, _, _, Tryz.underlying23⟩, by rw [info_at Tryz.type23]; rfl⟩
abbrev i24 : TyI := ⟨.func, 1, 8, [Value.nilFunc]⟩
theorem a24 : Agrees Tryz.prog 24 i24 := ⟨⟨_, _, _, Tryz.underlying24⟩, by rw [info_at Tryz.type24]; rfl⟩
abbrev i25 : TyI := ⟨.int .i64, 1, 8, [Value.int .i64 0]⟩
theorem a25 : Agrees Tryz.prog 25 i25 := ⟨Tryz.underlying25, by rw [info_at Tryz.type25]; rfl⟩
abbrev i27 : TyI := ⟨.func, 1, 8, [Value.nilFunc]⟩
theorem a27 : Agrees Tryz.prog 27 i27 := ⟨⟨_, _, _, Tryz.underlying27⟩, by rw [info_at Tryz.type27]; rfl⟩
abbrev i28 : TyI := ⟨.slice 79, 1, 24, [Value.slice none 0 0]⟩
theorem a28 : Agrees Tryz.prog 28 i28 := ⟨Tryz.underlying28, by rw [info_at Tryz.type28]; rfl⟩
abbrev i29 : TyI := ⟨.func, 1, 8, [Value.nilFunc]⟩
theorem a29 : Agrees Tryz.prog 29 i29 := ⟨⟨_, _, _, Tryz.underlying29⟩, by rw [info_at Tryz.type29]; rfl⟩
abbrev i30 : TyI := ⟨.func, 1, 8, [Value.nilFunc]⟩
theorem a30 : Agrees Tryz.prog 30 i30 := ⟨⟨_, _, _, Tryz.underlying30⟩, by rw [info_at Tryz.type30]; rfl⟩
abbrev i32 : TyI := ⟨.func, 1, 8, [Value.nilFunc]⟩
theorem a32 : Agrees Tryz.prog 32 i32 := ⟨⟨_, _, _, Tryz.underlying32⟩, by rw [info_at Tryz.type32]; rfl⟩
abbrev i33 : TyI := ⟨.func, 1, 8, [Value.nilFunc]⟩
theorem a33 : Agrees Tryz.prog 33 i33 := ⟨⟨_, _, _, Tryz.underlying33⟩, by rw [info_at Tryz.type33]; rfl⟩
abbrev i35 : TyI := ⟨.func, 1, 8, [Value.nilFunc]⟩
theorem a35 : Agrees Tryz.prog 35 i35 := ⟨⟨_, _, _, Tryz.underlying35⟩, by rw [info_at Tryz.type35]; rfl⟩
abbrev i36 : TyI := ⟨.func, 1, 8, [Value.nilFunc]⟩
theorem a36 : Agrees Tryz.prog 36 i36 := ⟨⟨_, _, _, Tryz.underlying36⟩, by rw [info_at Tryz.type36]; rfl⟩
abbrev i37 : TyI := ⟨.func, 1, 8, [Value.nilFunc]⟩
theorem a37 : Agrees Tryz.prog 37 i37 := ⟨⟨_, _, _, Tryz.underlying37⟩, by rw [info_at Tryz.type37]; rfl⟩
abbrev i39 : TyI := ⟨.func, 1, 8, [Value.nilFunc]⟩
theorem a39 : Agrees Tryz.prog 39 i39 := ⟨⟨_, _, _, Tryz.underlying39⟩, by rw [info_at Tryz.type39]; rfl⟩
abbrev i40 : TyI := ⟨.func, 1, 8, [Value.nilFunc]⟩
theorem a40 : Agrees Tryz.prog 40 i40 := ⟨⟨_, _, _, Tryz.underlying40⟩, by rw [info_at Tryz.type40]; rfl⟩
abbrev i41 : TyI := ⟨.slice 4, 1, 24, [Value.slice none 0 0]⟩
theorem a41 : Agrees Tryz.prog 41 i41 := ⟨Tryz.underlying41, by rw [info_at Tryz.type41]; rfl⟩
abbrev i42 : TyI := ⟨.func, 1, 8, [Value.nilFunc]⟩
theorem a42 : Agrees Tryz.prog 42 i42 := ⟨⟨_, _, _, Tryz.underlying42⟩, by rw [info_at Tryz.type42]; rfl⟩
abbrev i43 : TyI := ⟨.slice 9, 1, 24, [Value.slice none 0 0]⟩
theorem a43 : Agrees Tryz.prog 43 i43 := ⟨Tryz.underlying43, by rw [info_at Tryz.type43]; rfl⟩
abbrev i44 : TyI := ⟨.func, 1, 8, [Value.nilFunc]⟩
theorem a44 : Agrees Tryz.prog 44 i44 := ⟨⟨_, _, _, Tryz.underlying44⟩, by rw [info_at Tryz.type44]; rfl⟩
abbrev i45 : TyI := ⟨.func, 1, 8, [Value.nilFunc]⟩
theorem a45 : Agrees Tryz.prog 45 i45 := ⟨⟨_, _, _, Tryz.underlying45⟩, by rw [info_at Tryz.type45]; rfl⟩
abbrev i46 : TyI := ⟨.func, 1, 8, [Value.nilFunc]⟩
theorem a46 : Agrees Tryz.prog 46 i46 := ⟨⟨_, _, _, Tryz.underlying46⟩, by rw [info_at Tryz.type46]; rfl⟩
abbrev i47 : TyI := ⟨.func, 1, 8, [Value.nilFunc]⟩
theorem a47 : Agrees Tryz.prog 47 i47 := ⟨⟨_, _, _, Tryz.underlying47⟩, by rw [info_at Tryz.type47]; rfl⟩
abbrev i48 : TyI := ⟨.slice 50, 1, 24, [Value.slice none 0 0]⟩
theorem a48 : Agrees Tryz.prog 48 i48 := ⟨Tryz.underlying48, by rw [info_at Tryz.type48]; rfl⟩
abbrev i49 : TyI := ⟨.struct [(0, 9), (1, 3), (2, 3), (3, 9)], 4, 48, [Value.string ⟨#[]⟩, Value.int .i64 0, Value.int .i64 0, Value.string ⟨#[]⟩]⟩
theorem a49 : Agrees Tryz.prog 49 i49 := ⟨⟨_, Tryz.underlying49, rfl⟩, by rw [info_at Tryz.type49]; rfl⟩
abbrev i50 : TyI := ⟨.struct [(0, 9), (1, 3), (2, 3), (3, 9)], 4, 48, [Value.string ⟨#[]⟩, Value.int .i64 0, Value.int .i64 0, Value.string ⟨#[]⟩]⟩
theorem a50 : Agrees Tryz.prog 50 i50 := ⟨⟨_, Tryz.underlying50, rfl⟩, by rw [info_at Tryz.type50]; rfl⟩
abbrev i51 : TyI := ⟨.func, 1, 8, [Value.nilFunc]⟩
theorem a51 : Agrees Tryz.prog 51 i51 := ⟨⟨_, _, _, Tryz.underlying51⟩, by rw [info_at Tryz.type51]; rfl⟩
abbrev i52 : TyI := ⟨.slice 58, 1, 24, [Value.slice none 0 0]⟩
theorem a52 : Agrees Tryz.prog 52 i52 := ⟨Tryz.underlying52, by rw [info_at Tryz.type52]; rfl⟩
abbrev i53 : TyI := ⟨.func, 1, 8, [Value.nilFunc]⟩
theorem a53 : Agrees Tryz.prog 53 i53 := ⟨⟨_, _, _, Tryz.underlying53⟩, by rw [info_at Tryz.type53]; rfl⟩
abbrev i54 : TyI := ⟨.func, 1, 8, [Value.nilFunc]⟩
theorem a54 : Agrees Tryz.prog 54 i54 := ⟨⟨_, _, _, Tryz.underlying54⟩, by rw [info_at Tryz.type54]; rfl⟩
abbrev i56 : TyI := ⟨.func, 1, 8, [Value.nilFunc]⟩
theorem a56 : Agrees Tryz.prog 56 i56 := ⟨⟨_, _, _, Tryz.underlying56⟩, by rw [info_at Tryz.type56]; rfl⟩
abbrev i57 : TyI := ⟨.func, 1, 8, [Value.nilFunc]⟩
theorem a57 : Agrees Tryz.prog 57 i57 := ⟨⟨_, _, _, Tryz.underlying57⟩, by rw [info_at Tryz.type57]; rfl⟩
abbrev i58 : TyI := ⟨.struct [(0, 9), (1, 3), (2, 3), (3, 9)], 4, 48, [Value.string ⟨#[]⟩, Value.int .i64 0, Value.int .i64 0, Value.string ⟨#[]⟩]⟩
theorem a58 : Agrees Tryz.prog 58 i58 := ⟨⟨_, Tryz.underlying58, rfl⟩, by rw [info_at Tryz.type58]; rfl⟩
abbrev i60 : TyI := ⟨.func, 1, 8, [Value.nilFunc]⟩
theorem a60 : Agrees Tryz.prog 60 i60 := ⟨⟨_, _, _, Tryz.underlying60⟩, by rw [info_at Tryz.type60]; rfl⟩
abbrev i61 : TyI := ⟨.func, 1, 8, [Value.nilFunc]⟩
theorem a61 : Agrees Tryz.prog 61 i61 := ⟨⟨_, _, _, Tryz.underlying61⟩, by rw [info_at Tryz.type61]; rfl⟩
abbrev i62 : TyI := ⟨.func, 1, 8, [Value.nilFunc]⟩
theorem a62 : Agrees Tryz.prog 62 i62 := ⟨⟨_, _, _, Tryz.underlying62⟩, by rw [info_at Tryz.type62]; rfl⟩
abbrev i63 : TyI := ⟨.func, 1, 8, [Value.nilFunc]⟩
theorem a63 : Agrees Tryz.prog 63 i63 := ⟨⟨_, _, _, Tryz.underlying63⟩, by rw [info_at Tryz.type63]; rfl⟩
abbrev i64 : TyI := ⟨.func, 1, 8, [Value.nilFunc]⟩
theorem a64 : Agrees Tryz.prog 64 i64 := ⟨⟨_, _, _, Tryz.underlying64⟩, by rw [info_at Tryz.type64]; rfl⟩
abbrev i65 : TyI := ⟨.slice 5, 1, 24, [Value.slice none 0 0]⟩
theorem a65 : Agrees Tryz.prog 65 i65 := ⟨Tryz.underlying65, by rw [info_at Tryz.type65]; rfl⟩
abbrev i66 : TyI := ⟨.func, 1, 8, [Value.nilFunc]⟩
theorem a66 : Agrees Tryz.prog 66 i66 := ⟨⟨_, _, _, Tryz.underlying66⟩, by rw [info_at Tryz.type66]; rfl⟩
abbrev i67 : TyI := ⟨.func, 1, 8, [Value.nilFunc]⟩
theorem a67 : Agrees Tryz.prog 67 i67 := ⟨⟨_, _, _, Tryz.underlying67⟩, by rw [info_at Tryz.type67]; rfl⟩
abbrev i68 : TyI := ⟨.func, 1, 8, [Value.nilFunc]⟩
theorem a68 : Agrees Tryz.prog 68 i68 := ⟨⟨_, _, _, Tryz.underlying68⟩, by rw [info_at Tryz.type68]; rfl⟩
abbrev i69 : TyI := ⟨.func, 1, 8, [Value.nilFunc]⟩
theorem a69 : Agrees Tryz.prog 69 i69 := ⟨⟨_, _, _, Tryz.underlying69⟩, by rw [info_at Tryz.type69]; rfl⟩
abbrev i70 : TyI := ⟨.func, 1, 8, [Value.nilFunc]⟩
theorem a70 : Agrees Tryz.prog 70 i70 := ⟨⟨_, _, _, Tryz.underlying70⟩, by rw [info_at Tryz.type70]; rfl⟩
abbrev i71 : TyI := ⟨.func, 1, 8, [Value.nilFunc]⟩
theorem a71 : Agrees Tryz.prog 71 i71 := ⟨⟨_, _, _, Tryz.underlying71⟩, by rw [info_at Tryz.type71]; rfl⟩
abbrev i72 : TyI := ⟨.func, 1, 8, [Value.nilFunc]⟩
theorem a72 : Agrees Tryz.prog 72 i72 := ⟨⟨_, _, _, Tryz.underlying72⟩, by rw [info_at Tryz.type72]; rfl⟩
abbrev i73 : TyI := ⟨.func, 1, 8, [Value.nilFunc]⟩
theorem a73 : Agrees Tryz.prog 73 i73 := ⟨⟨_, _, _, Tryz.underlying73⟩, by rw [info_at Tryz.type73]; rfl⟩
abbrev i74 : TyI := ⟨.func, 1, 8, [Value.nilFunc]⟩
theorem a74 : Agrees Tryz.prog 74 i74 := ⟨⟨_, _, _, Tryz.underlying74⟩, by rw [info_at Tryz.type74]; rfl⟩
abbrev i75 : TyI := ⟨.func, 1, 8, [Value.nilFunc]⟩
theorem a75 : Agrees Tryz.prog 75 i75 := ⟨⟨_, _, _, Tryz.underlying75⟩, by rw [info_at Tryz.type75]; rfl⟩
abbrev i76 : TyI := ⟨.struct [(0, 3), (1, 3), (2, 43), (3, 43)], 4, 64, [Value.int .i64 0, Value.int .i64 0, Value.slice none 0 0, Value.slice none 0 0]⟩
theorem a76 : Agrees Tryz.prog 76 i76 := ⟨⟨_, Tryz.underlying76, rfl⟩, by rw [info_at Tryz.type76]; rfl⟩
abbrev i77 : TyI := ⟨.struct [(0, 3), (1, 3), (2, 43), (3, 43)], 4, 64, [Value.int .i64 0, Value.int .i64 0, Value.slice none 0 0, Value.slice none 0 0]⟩
theorem a77 : Agrees Tryz.prog 77 i77 := ⟨⟨_, Tryz.underlying77, rfl⟩, by rw [info_at Tryz.type77]; rfl⟩
abbrev i78 : TyI := ⟨.func, 1, 8, [Value.nilFunc]⟩
theorem a78 : Agrees Tryz.prog 78 i78 := ⟨⟨_, _, _, Tryz.underlying78⟩, by rw [info_at Tryz.type78]; rfl⟩
abbrev i79 : TyI := ⟨.struct [(0, 3), (1, 3), (2, 43), (3, 43)], 4, 64, [Value.int .i64 0, Value.int .i64 0, Value.slice none 0 0, Value.slice none 0 0]⟩
theorem a79 : Agrees Tryz.prog 79 i79 := ⟨⟨_, Tryz.underlying79, rfl⟩, by rw [info_at Tryz.type79]; rfl⟩
abbrev i80 : TyI := ⟨.func, 1, 8, [Value.nilFunc]⟩
theorem a80 : Agrees Tryz.prog 80 i80 := ⟨⟨_, _, _, Tryz.underlying80⟩, by rw [info_at Tryz.type80]; rfl⟩
abbrev i81 : TyI := ⟨.ptr 83, 1, 8, [Value.pointer none]⟩
theorem a81 : Agrees Tryz.prog 81 i81 := ⟨Tryz.underlying81, by rw [info_at Tryz.type81]; rfl⟩
abbrev i82 : TyI := ⟨.struct [(0, 81), (1, 65)], 2, 32, [Value.pointer none, Value.slice none 0 0]⟩
theorem a82 : Agrees Tryz.prog 82 i82 := ⟨⟨_, Tryz.underlying82, rfl⟩, by rw [info_at Tryz.type82]; rfl⟩
abbrev i83 : TyI := ⟨.struct [(0, 81), (1, 65)], 2, 32, [Value.pointer none, Value.slice none 0 0]⟩
theorem a83 : Agrees Tryz.prog 83 i83 := ⟨⟨_, Tryz.underlying83, rfl⟩, by rw [info_at Tryz.type83]; rfl⟩
abbrev i84 : TyI := ⟨.iface, 1, 16, [Value.nilIface]⟩
theorem a84 : Agrees Tryz.prog 84 i84 := ⟨⟨_, Tryz.underlying84⟩, by rw [info_at Tryz.type84]; rfl⟩
abbrev i85 : TyI := ⟨.iface, 1, 16, [Value.nilIface]⟩
theorem a85 : Agrees Tryz.prog 85 i85 := ⟨⟨_, Tryz.underlying85⟩, by rw [info_at Tryz.type85]; rfl⟩
abbrev i87 : TyI := ⟨.func, 1, 8, [Value.nilFunc]⟩
theorem a87 : Agrees Tryz.prog 87 i87 := ⟨⟨_, _, _, Tryz.underlying87⟩, by rw [info_at Tryz.type87]; rfl⟩
abbrev i88 : TyI := ⟨.func, 1, 8, [Value.nilFunc]⟩
theorem a88 : Agrees Tryz.prog 88 i88 := ⟨⟨_, _, _, Tryz.underlying88⟩, by rw [info_at Tryz.type88]; rfl⟩
abbrev i89 : TyI := ⟨.func, 1, 8, [Value.nilFunc]⟩
theorem a89 : Agrees Tryz.prog 89 i89 := ⟨⟨_, _, _, Tryz.underlying89⟩, by rw [info_at Tryz.type89]; rfl⟩
abbrev i90 : TyI := ⟨.func, 1, 8, [Value.nilFunc]⟩
theorem a90 : Agrees Tryz.prog 90 i90 := ⟨⟨_, _, _, Tryz.underlying90⟩, by rw [info_at Tryz.type90]; rfl⟩
abbrev i91 : TyI := ⟨.func, 1, 8, [Value.nilFunc]⟩
theorem a91 : Agrees Tryz.prog 91 i91 := ⟨⟨_, _, _, Tryz.underlying91⟩, by rw [info_at Tryz.type91]; rfl⟩
abbrev i92 : TyI := ⟨.func, 1, 8, [Value.nilFunc]⟩
theorem a92 : Agrees Tryz.prog 92 i92 := ⟨⟨_, _, _, Tryz.underlying92⟩, by rw [info_at Tryz.type92]; rfl⟩
abbrev i94 : TyI := ⟨.func, 1, 8, [Value.nilFunc]⟩
theorem a94 : Agrees Tryz.prog 94 i94 := ⟨⟨_, _, _, Tryz.underlying94⟩, by rw [info_at Tryz.type94]; rfl⟩
abbrev i95 : TyI := ⟨.ptr 97, 1, 8, [Value.pointer none]⟩
theorem a95 : Agrees Tryz.prog 95 i95 := ⟨Tryz.underlying95, by rw [info_at Tryz.type95]; rfl⟩
abbrev i96 : TyI := ⟨.struct [(0, 9)], 1, 16, [Value.string ⟨#[]⟩]⟩
theorem a96 : Agrees Tryz.prog 96 i96 := ⟨⟨_, Tryz.underlying96, rfl⟩, by rw [info_at Tryz.type96]; rfl⟩
abbrev i97 : TyI := ⟨.struct [(0, 9)], 1, 16, [Value.string ⟨#[]⟩]⟩
theorem a97 : Agrees Tryz.prog 97 i97 := ⟨⟨_, Tryz.underlying97, rfl⟩, by rw [info_at Tryz.type97]; rfl⟩
abbrev i98 : TyI := ⟨.func, 1, 8, [Value.nilFunc]⟩
theorem a98 : Agrees Tryz.prog 98 i98 := ⟨⟨_, _, _, Tryz.underlying98⟩, by rw [info_at Tryz.type98]; rfl⟩
abbrev i99 : TyI := ⟨.func, 1, 8, [Value.nilFunc]⟩
theorem a99 : Agrees Tryz.prog 99 i99 := ⟨⟨_, _, _, Tryz.underlying99⟩, by rw [info_at Tryz.type99]; rfl⟩
abbrev i100 : TyI := ⟨.func, 1, 8, [Value.nilFunc]⟩
theorem a100 : Agrees Tryz.prog 100 i100 := ⟨⟨_, _, _, Tryz.underlying100⟩, by rw [info_at Tryz.type100]; rfl⟩
abbrev i101 : TyI := ⟨.array 4 3, 4, 32, [Value.int .i64 0, Value.int .i64 0, Value.int .i64 0, Value.int .i64 0]⟩
theorem a101 : Agrees Tryz.prog 101 i101 := ⟨Tryz.underlying101, by rw [info_at Tryz.type101]; rfl⟩
abbrev i103 : TyI := ⟨.func, 1, 8, [Value.nilFunc]⟩
theorem a103 : Agrees Tryz.prog 103 i103 := ⟨⟨_, _, _, Tryz.underlying103⟩, by rw [info_at Tryz.type103]; rfl⟩
abbrev i105 : TyI := ⟨.func, 1, 8, [Value.nilFunc]⟩
theorem a105 : Agrees Tryz.prog 105 i105 := ⟨⟨_, _, _, Tryz.underlying105⟩, by rw [info_at Tryz.type105]; rfl⟩
abbrev i106 : TyI := ⟨.func, 1, 8, [Value.nilFunc]⟩
theorem a106 : Agrees Tryz.prog 106 i106 := ⟨⟨_, _, _, Tryz.underlying106⟩, by rw [info_at Tryz.type106]; rfl⟩
abbrev i107 : TyI := ⟨.func, 1, 8, [Value.nilFunc]⟩
theorem a107 : Agrees Tryz.prog 107 i107 := ⟨⟨_, _, _, Tryz.underlying107⟩, by rw [info_at Tryz.type107]; rfl⟩
abbrev i109 : TyI := ⟨.func, 1, 8, [Value.nilFunc]⟩
theorem a109 : Agrees Tryz.prog 109 i109 := ⟨⟨_, _, _, Tryz.underlying109⟩, by rw [info_at Tryz.type109]; rfl⟩
abbrev i110 : TyI := ⟨.func, 1, 8, [Value.nilFunc]⟩
theorem a110 : Agrees Tryz.prog 110 i110 := ⟨⟨_, _, _, Tryz.underlying110⟩, by rw [info_at Tryz.type110]; rfl⟩
abbrev i111 : TyI := ⟨.func, 1, 8, [Value.nilFunc]⟩
theorem a111 : Agrees Tryz.prog 111 i111 := ⟨⟨_, _, _, Tryz.underlying111⟩, by rw [info_at Tryz.type111]; rfl⟩
abbrev i112 : TyI := ⟨.slice 21, 1, 24, [Value.slice none 0 0]⟩
theorem a112 : Agrees Tryz.prog 112 i112 := ⟨Tryz.underlying112, by rw [info_at Tryz.type112]; rfl⟩
abbrev i113 : TyI := ⟨.func, 1, 8, [Value.nilFunc]⟩
theorem a113 : Agrees Tryz.prog 113 i113 := ⟨⟨_, _, _, Tryz.underlying113⟩, by rw [info_at Tryz.type113]; rfl⟩
abbrev i114 : TyI := ⟨.func, 1, 8, [Value.nilFunc]⟩
theorem a114 : Agrees Tryz.prog 114 i114 := ⟨⟨_, _, _, Tryz.underlying114⟩, by rw [info_at Tryz.type114]; rfl⟩
abbrev i115 : TyI := ⟨.slice 3, 1, 24, [Value.slice none 0 0]⟩
theorem a115 : Agrees Tryz.prog 115 i115 := ⟨Tryz.underlying115, by rw [info_at Tryz.type115]; rfl⟩
abbrev i116 : TyI := ⟨.func, 1, 8, [Value.nilFunc]⟩
theorem a116 : Agrees Tryz.prog 116 i116 := ⟨⟨_, _, _, Tryz.underlying116⟩, by rw [info_at Tryz.type116]; rfl⟩
abbrev i117 : TyI := ⟨.func, 1, 8, [Value.nilFunc]⟩
theorem a117 : Agrees Tryz.prog 117 i117 := ⟨⟨_, _, _, Tryz.underlying117⟩, by rw [info_at Tryz.type117]; rfl⟩
abbrev i119 : TyI := ⟨.func, 1, 8, [Value.nilFunc]⟩
theorem a119 : Agrees Tryz.prog 119 i119 := ⟨⟨_, _, _, Tryz.underlying119⟩, by rw [info_at Tryz.type119]; rfl⟩
abbrev i120 : TyI := ⟨.array 3 3, 3, 24, [Value.int .i64 0, Value.int .i64 0, Value.int .i64 0]⟩
theorem a120 : Agrees Tryz.prog 120 i120 := ⟨Tryz.underlying120, by rw [info_at Tryz.type120]; rfl⟩
abbrev i121 : TyI := ⟨.func, 1, 8, [Value.nilFunc]⟩
theorem a121 : Agrees Tryz.prog 121 i121 := ⟨⟨_, _, _, Tryz.underlying121⟩, by rw [info_at Tryz.type121]; rfl⟩
abbrev i122 : TyI := ⟨.int .u64, 1, 8, [Value.int .u64 0]⟩
theorem a122 : Agrees Tryz.prog 122 i122 := ⟨Tryz.underlying122, by rw [info_at Tryz.type122]; rfl⟩
abbrev i124 : TyI := ⟨.func, 1, 8, [Value.nilFunc]⟩
theorem a124 : Agrees Tryz.prog 124 i124 := ⟨⟨_, _, _, Tryz.underlying124⟩, by rw [info_at Tryz.type124]; rfl⟩
abbrev i125 : TyI := ⟨.func, 1, 8, [Value.nilFunc]⟩
theorem a125 : Agrees Tryz.prog 125 i125 := ⟨⟨_, _, _, Tryz.underlying125⟩, by rw [info_at Tryz.type125]; rfl⟩
abbrev i126 : TyI := ⟨.func, 1, 8, [Value.nilFunc]⟩
theorem a126 : Agrees Tryz.prog 126 i126 := ⟨⟨_, _, _, Tryz.underlying126⟩, by rw [info_at Tryz.type126]; rfl⟩
abbrev i127 : TyI := ⟨.func, 1, 8, [Value.nilFunc]⟩
theorem a127 : Agrees Tryz.prog 127 i127 := ⟨⟨_, _, _, Tryz.underlying127⟩, by rw [info_at Tryz.type127]; rfl⟩
abbrev i128 : TyI := ⟨.func, 1, 8, [Value.nilFunc]⟩
theorem a128 : Agrees Tryz.prog 128 i128 := ⟨⟨_, _, _, Tryz.underlying128⟩, by rw [info_at Tryz.type128]; rfl⟩
abbrev i129 : TyI := ⟨.func, 1, 8, [Value.nilFunc]⟩
theorem a129 : Agrees Tryz.prog 129 i129 := ⟨⟨_, _, _, Tryz.underlying129⟩, by rw [info_at Tryz.type129]; rfl⟩
abbrev i130 : TyI := ⟨.func, 1, 8, [Value.nilFunc]⟩
theorem a130 : Agrees Tryz.prog 130 i130 := ⟨⟨_, _, _, Tryz.underlying130⟩, by rw [info_at Tryz.type130]; rfl⟩
abbrev i131 : TyI := ⟨.func, 1, 8, [Value.nilFunc]⟩
theorem a131 : Agrees Tryz.prog 131 i131 := ⟨⟨_, _, _, Tryz.underlying131⟩, by rw [info_at Tryz.type131]; rfl⟩
abbrev i132 : TyI := ⟨.slice 136, 1, 24, [Value.slice none 0 0]⟩
theorem a132 : Agrees Tryz.prog 132 i132 := ⟨Tryz.underlying132, by rw [info_at Tryz.type132]; rfl⟩
abbrev i133 : TyI := ⟨.func, 1, 8, [Value.nilFunc]⟩
theorem a133 : Agrees Tryz.prog 133 i133 := ⟨⟨_, _, _, Tryz.underlying133⟩, by rw [info_at Tryz.type133]; rfl⟩
abbrev i134 : TyI := ⟨.func, 1, 8, [Value.nilFunc]⟩
theorem a134 : Agrees Tryz.prog 134 i134 := ⟨⟨_, _, _, Tryz.underlying134⟩, by rw [info_at Tryz.type134]; rfl⟩
abbrev i135 : TyI := ⟨.int .i16, 1, 2, [Value.int .i16 0]⟩
theorem a135 : Agrees Tryz.prog 135 i135 := ⟨Tryz.underlying135, by rw [info_at Tryz.type135]; rfl⟩
abbrev i136 : TyI := ⟨.slice 135, 1, 24, [Value.slice none 0 0]⟩
theorem a136 : Agrees Tryz.prog 136 i136 := ⟨Tryz.underlying136, by rw [info_at Tryz.type136]; rfl⟩
abbrev i137 : TyI := ⟨.func, 1, 8, [Value.nilFunc]⟩
theorem a137 : Agrees Tryz.prog 137 i137 := ⟨⟨_, _, _, Tryz.underlying137⟩, by rw [info_at Tryz.type137]; rfl⟩
abbrev i138 : TyI := ⟨.func, 1, 8, [Value.nilFunc]⟩
theorem a138 : Agrees Tryz.prog 138 i138 := ⟨⟨_, _, _, Tryz.underlying138⟩, by rw [info_at Tryz.type138]; rfl⟩
abbrev i139 : TyI := ⟨.slice 43, 1, 24, [Value.slice none 0 0]⟩
theorem a139 : Agrees Tryz.prog 139 i139 := ⟨Tryz.underlying139, by rw [info_at Tryz.type139]; rfl⟩
abbrev i140 : TyI := ⟨.func, 1, 8, [Value.nilFunc]⟩
theorem a140 : Agrees Tryz.prog 140 i140 := ⟨⟨_, _, _, Tryz.underlying140⟩, by rw [info_at Tryz.type140]; rfl⟩
abbrev i141 : TyI := ⟨.ptr 5, 1, 8, [Value.pointer none]⟩
theorem a141 : Agrees Tryz.prog 141 i141 := ⟨Tryz.underlying141, by rw [info_at Tryz.type141]; rfl⟩
abbrev i142 : TyI := ⟨.func, 1, 8, [Value.nilFunc]⟩
theorem a142 : Agrees Tryz.prog 142 i142 := ⟨⟨_, _, _, Tryz.underlying142⟩, by rw [info_at Tryz.type142]; rfl⟩
abbrev i143 : TyI := ⟨.slice 145, 1, 24, [Value.slice none 0 0]⟩
theorem a143 : Agrees Tryz.prog 143 i143 := ⟨Tryz.underlying143, by rw [info_at Tryz.type143]; rfl⟩
abbrev i144 : TyI := ⟨.struct [(0, 3), (1, 3)], 2, 16, [Value.int .i64 0, Value.int .i64 0]⟩
theorem a144 : Agrees Tryz.prog 144 i144 := ⟨⟨_, Tryz.underlying144, rfl⟩, by rw [info_at Tryz.type144]; rfl⟩
abbrev i145 : TyI := ⟨.struct [(0, 3), (1, 3)], 2, 16, [Value.int .i64 0, Value.int .i64 0]⟩
theorem a145 : Agrees Tryz.prog 145 i145 := ⟨⟨_, Tryz.underlying145, rfl⟩, by rw [info_at Tryz.type145]; rfl⟩
abbrev i146 : TyI := ⟨.func, 1, 8, [Value.nilFunc]⟩
theorem a146 : Agrees Tryz.prog 146 i146 := ⟨⟨_, _, _, Tryz.underlying146⟩, by rw [info_at Tryz.type146]; rfl⟩
abbrev i147 : TyI := ⟨.func, 1, 8, [Value.nilFunc]⟩
theorem a147 : Agrees Tryz.prog 147 i147 := ⟨⟨_, _, _, Tryz.underlying147⟩, by rw [info_at Tryz.type147]; rfl⟩
abbrev i148 : TyI := ⟨.func, 1, 8, [Value.nilFunc]⟩
theorem a148 : Agrees Tryz.prog 148 i148 := ⟨⟨_, _, _, Tryz.underlying148⟩, by rw [info_at Tryz.type148]; rfl⟩
abbrev i149 : TyI := ⟨.func, 1, 8, [Value.nilFunc]⟩
theorem a149 : Agrees Tryz.prog 149 i149 := ⟨⟨_, _, _, Tryz.underlying149⟩, by rw [info_at Tryz.type149]; rfl⟩
abbrev i150 : TyI := ⟨.func, 1, 8, [Value.nilFunc]⟩
theorem a150 : Agrees Tryz.prog 150 i150 := ⟨⟨_, _, _, Tryz.underlying150⟩, by rw [info_at Tryz.type150]; rfl⟩
abbrev i151 : TyI := ⟨.int .u32, 1, 4, [Value.int .u32 0]⟩
theorem a151 : Agrees Tryz.prog 151 i151 := ⟨Tryz.underlying151, by rw [info_at Tryz.type151]; rfl⟩
abbrev i153 : TyI := ⟨.func, 1, 8, [Value.nilFunc]⟩
theorem a153 : Agrees Tryz.prog 153 i153 := ⟨⟨_, _, _, Tryz.underlying153⟩, by rw [info_at Tryz.type153]; rfl⟩
abbrev i154 : TyI := ⟨.int .u64, 1, 8, [Value.int .u64 0]⟩
theorem a154 : Agrees Tryz.prog 154 i154 := ⟨Tryz.underlying154, by rw [info_at Tryz.type154]; rfl⟩
abbrev i156 : TyI := ⟨.func, 1, 8, [Value.nilFunc]⟩
theorem a156 : Agrees Tryz.prog 156 i156 := ⟨⟨_, _, _, Tryz.underlying156⟩, by rw [info_at Tryz.type156]; rfl⟩
abbrev i158 : TyI := ⟨.func, 1, 8, [Value.nilFunc]⟩
theorem a158 : Agrees Tryz.prog 158 i158 := ⟨⟨_, _, _, Tryz.underlying158⟩, by rw [info_at Tryz.type158]; rfl⟩
abbrev i159 : TyI := ⟨.func, 1, 8, [Value.nilFunc]⟩
theorem a159 : Agrees Tryz.prog 159 i159 := ⟨⟨_, _, _, Tryz.underlying159⟩, by rw [info_at Tryz.type159]; rfl⟩
abbrev i160 : TyI := ⟨.int .i64, 1, 8, [Value.int .i64 0]⟩
theorem a160 : Agrees Tryz.prog 160 i160 := ⟨Tryz.underlying160, by rw [info_at Tryz.type160]; rfl⟩
abbrev i162 : TyI := ⟨.func, 1, 8, [Value.nilFunc]⟩
theorem a162 : Agrees Tryz.prog 162 i162 := ⟨⟨_, _, _, Tryz.underlying162⟩, by rw [info_at Tryz.type162]; rfl⟩
abbrev i163 : TyI := ⟨.func, 1, 8, [Value.nilFunc]⟩
theorem a163 : Agrees Tryz.prog 163 i163 := ⟨⟨_, _, _, Tryz.underlying163⟩, by rw [info_at Tryz.type163]; rfl⟩
abbrev i164 : TyI := ⟨.func, 1, 8, [Value.nilFunc]⟩
theorem a164 : Agrees Tryz.prog 164 i164 := ⟨⟨_, _, _, Tryz.underlying164⟩, by rw [info_at Tryz.type164]; rfl⟩
abbrev i165 : TyI := ⟨.func, 1, 8, [Value.nilFunc]⟩
theorem a165 : Agrees Tryz.prog 165 i165 := ⟨⟨_, _, _, Tryz.underlying165⟩, by rw [info_at Tryz.type165]; rfl⟩
abbrev i166 : TyI := ⟨.func, 1, 8, [Value.nilFunc]⟩
theorem a166 : Agrees Tryz.prog 166 i166 := ⟨⟨_, _, _, Tryz.underlying166⟩, by rw [info_at Tryz.type166]; rfl⟩
abbrev i167 : TyI := ⟨.func, 1, 8, [Value.nilFunc]⟩
theorem a167 : Agrees Tryz.prog 167 i167 := ⟨⟨_, _, _, Tryz.underlying167⟩, by rw [info_at Tryz.type167]; rfl⟩
abbrev i168 : TyI := ⟨.func, 1, 8, [Value.nilFunc]⟩
theorem a168 : Agrees Tryz.prog 168 i168 := ⟨⟨_, _, _, Tryz.underlying168⟩, by rw [info_at Tryz.type168]; rfl⟩
abbrev i169 : TyI := ⟨.uptr, 1, 8, [Value.pointer none]⟩
theorem a169 : Agrees Tryz.prog 169 i169 := ⟨Tryz.underlying169, by rw [info_at Tryz.type169]; rfl⟩
abbrev i170 : TyI := ⟨.func, 1, 8, [Value.nilFunc]⟩
theorem a170 : Agrees Tryz.prog 170 i170 := ⟨⟨_, _, _, Tryz.underlying170⟩, by rw [info_at Tryz.type170]; rfl⟩
abbrev i171 : TyI := ⟨.func, 1, 8, [Value.nilFunc]⟩
theorem a171 : Agrees Tryz.prog 171 i171 := ⟨⟨_, _, _, Tryz.underlying171⟩, by rw [info_at Tryz.type171]; rfl⟩
abbrev i172 : TyI := ⟨.func, 1, 8, [Value.nilFunc]⟩
theorem a172 : Agrees Tryz.prog 172 i172 := ⟨⟨_, _, _, Tryz.underlying172⟩, by rw [info_at Tryz.type172]; rfl⟩
abbrev i173 : TyI := ⟨.func, 1, 8, [Value.nilFunc]⟩
theorem a173 : Agrees Tryz.prog 173 i173 := ⟨⟨_, _, _, Tryz.underlying173⟩, by rw [info_at Tryz.type173]; rfl⟩
abbrev i174 : TyI := ⟨.func, 1, 8, [Value.nilFunc]⟩
theorem a174 : Agrees Tryz.prog 174 i174 := ⟨⟨_, _, _, Tryz.underlying174⟩, by rw [info_at Tryz.type174]; rfl⟩
abbrev i175 : TyI := ⟨.func, 1, 8, [Value.nilFunc]⟩
theorem a175 : Agrees Tryz.prog 175 i175 := ⟨⟨_, _, _, Tryz.underlying175⟩, by rw [info_at Tryz.type175]; rfl⟩
abbrev i176 : TyI := ⟨.func, 1, 8, [Value.nilFunc]⟩
theorem a176 : Agrees Tryz.prog 176 i176 := ⟨⟨_, _, _, Tryz.underlying176⟩, by rw [info_at Tryz.type176]; rfl⟩
abbrev i177 : TyI := ⟨.func, 1, 8, [Value.nilFunc]⟩
theorem a177 : Agrees Tryz.prog 177 i177 := ⟨⟨_, _, _, Tryz.underlying177⟩, by rw [info_at Tryz.type177]; rfl⟩
abbrev i178 : TyI := ⟨.func, 1, 8, [Value.nilFunc]⟩
theorem a178 : Agrees Tryz.prog 178 i178 := ⟨⟨_, _, _, Tryz.underlying178⟩, by rw [info_at Tryz.type178]; rfl⟩
abbrev i179 : TyI := ⟨.func, 1, 8, [Value.nilFunc]⟩
theorem a179 : Agrees Tryz.prog 179 i179 := ⟨⟨_, _, _, Tryz.underlying179⟩, by rw [info_at Tryz.type179]; rfl⟩
abbrev i180 : TyI := ⟨.int .u64, 1, 8, [Value.int .u64 0]⟩
theorem a180 : Agrees Tryz.prog 180 i180 := ⟨Tryz.underlying180, by rw [info_at Tryz.type180]; rfl⟩
abbrev i181 : TyI := ⟨.func, 1, 8, [Value.nilFunc]⟩
theorem a181 : Agrees Tryz.prog 181 i181 := ⟨⟨_, _, _, Tryz.underlying181⟩, by rw [info_at Tryz.type181]; rfl⟩
abbrev i182 : TyI := ⟨.func, 1, 8, [Value.nilFunc]⟩
theorem a182 : Agrees Tryz.prog 182 i182 := ⟨⟨_, _, _, Tryz.underlying182⟩, by rw [info_at Tryz.type182]; rfl⟩
abbrev i183 : TyI := ⟨.func, 1, 8, [Value.nilFunc]⟩
theorem a183 : Agrees Tryz.prog 183 i183 := ⟨⟨_, _, _, Tryz.underlying183⟩, by rw [info_at Tryz.type183]; rfl⟩
abbrev i184 : TyI := ⟨.ptr 3, 1, 8, [Value.pointer none]⟩
theorem a184 : Agrees Tryz.prog 184 i184 := ⟨Tryz.underlying184, by rw [info_at Tryz.type184]; rfl⟩
abbrev i185 : TyI := ⟨.func, 1, 8, [Value.nilFunc]⟩
theorem a185 : Agrees Tryz.prog 185 i185 := ⟨⟨_, _, _, Tryz.underlying185⟩, by rw [info_at Tryz.type185]; rfl⟩
abbrev i186 : TyI := ⟨.array 24 5, 24, 24, [Value.int .u8 0, Value.int .u8 0, Value.int .u8 0, Value.int .u8 0, Value.int .u8 0, Value.int .u8 0, Value.int .u8 0, Value.int .u8 0, Value.int .u8 0, Value.int .u8 0, Value.int .u8 0, Value.int .u8 0, Value.int .u8 0, Value.int .u8 0, Value.int .u8 0, Value.int .u8 0, Value.int .u8 0, Value.int .u8 0, Value.int .u8 0, Value.int .u8 0, Value.int .u8 0, Value.int .u8 0, Value.int .u8 0, Value.int .u8 0]⟩
theorem a186 : Agrees Tryz.prog 186 i186 := ⟨Tryz.underlying186, by rw [info_at Tryz.type186]; rfl⟩
abbrev i187 : TyI := ⟨.func, 1, 8, [Value.nilFunc]⟩
theorem a187 : Agrees Tryz.prog 187 i187 := ⟨⟨_, _, _, Tryz.underlying187⟩, by rw [info_at Tryz.type187]; rfl⟩
abbrev i189 : TyI := ⟨.func, 1, 8, [Value.nilFunc]⟩
theorem a189 : Agrees Tryz.prog 189 i189 := ⟨⟨_, _, _, Tryz.underlying189⟩, by rw [info_at Tryz.type189]; rfl⟩
abbrev i190 : TyI := ⟨.int .i64, 1, 8, [Value.int .i64 0]⟩
theorem a190 : Agrees Tryz.prog 190 i190 := ⟨Tryz.underlying190, by rw [info_at Tryz.type190]; rfl⟩
abbrev i192 : TyI := ⟨.func, 1, 8, [Value.nilFunc]⟩
theorem a192 : Agrees Tryz.prog 192 i192 := ⟨⟨_, _, _, Tryz.underlying192⟩, by rw [info_at Tryz.type192]; rfl⟩
abbrev i193 : TyI := ⟨.ptr 211, 1, 8, [Value.pointer none]⟩
theorem a193 : Agrees Tryz.prog 193 i193 := ⟨Tryz.underlying193, by rw [info_at Tryz.type193]; rfl⟩
abbrev i194 : TyI := ⟨.func, 1, 8, [Value.nilFunc]⟩
theorem a194 : Agrees Tryz.prog 194 i194 := ⟨⟨_, _, _, Tryz.underlying194⟩, by rw [info_at Tryz.type194]; rfl⟩
abbrev i195 : TyI := ⟨.func, 1, 8, [Value.nilFunc]⟩
theorem a195 : Agrees Tryz.prog 195 i195 := ⟨⟨_, _, _, Tryz.underlying195⟩, by rw [info_at Tryz.type195]; rfl⟩
abbrev i196 : TyI := ⟨.func, 1, 8, [Value.nilFunc]⟩
theorem a196 : Agrees Tryz.prog 196 i196 := ⟨⟨_, _, _, Tryz.underlying196⟩, by rw [info_at Tryz.type196]; rfl⟩
abbrev i197 : TyI := ⟨.func, 1, 8, [Value.nilFunc]⟩
theorem a197 : Agrees Tryz.prog 197 i197 := ⟨⟨_, _, _, Tryz.underlying197⟩, by rw [info_at Tryz.type197]; rfl⟩
abbrev i198 : TyI := ⟨.func, 1, 8, [Value.nilFunc]⟩
theorem a198 : Agrees Tryz.prog 198 i198 := ⟨⟨_, _, _, Tryz.underlying198⟩, by rw [info_at Tryz.type198]; rfl⟩
abbrev i200 : TyI := ⟨.struct [(0, 5), (1, 5)], 2, 2, [Value.int .u8 0, Value.int .u8 0]⟩
theorem a200 : Agrees Tryz.prog 200 i200 := ⟨⟨_, Tryz.underlying200, rfl⟩, by rw [info_at Tryz.type200]; rfl⟩
abbrev i201 : TyI := ⟨.struct [(0, 5), (1, 5)], 2, 2, [Value.int .u8 0, Value.int .u8 0]⟩
theorem a201 : Agrees Tryz.prog 201 i201 := ⟨⟨_, Tryz.underlying201, rfl⟩, by rw [info_at Tryz.type201]; rfl⟩
abbrev i202 : TyI := ⟨.array 16 201, 32, 32, [Value.int .u8 0, Value.int .u8 0, Value.int .u8 0, Value.int .u8 0, Value.int .u8 0, Value.int .u8 0, Value.int .u8 0, Value.int .u8 0, Value.int .u8 0, Value.int .u8 0, Value.int .u8 0, Value.int .u8 0, Value.int .u8 0, Value.int .u8 0, Value.int .u8 0, Value.int .u8 0, Value.int .u8 0, Value.int .u8 0, Value.int .u8 0, Value.int .u8 0, Value.int .u8 0, Value.int .u8 0, Value.int .u8 0, Value.int .u8 0, Value.int .u8 0, Value.int .u8 0, Value.int .u8 0, Value.int .u8 0, Value.int .u8 0, Value.int .u8 0, Value.int .u8 0, Value.int .u8 0]⟩
theorem a202 : Agrees Tryz.prog 202 i202 := ⟨Tryz.underlying202, by rw [info_at Tryz.type202]; rfl⟩
abbrev i203 : TyI := ⟨.ptr 180, 1, 8, [Value.pointer none]⟩
theorem a203 : Agrees Tryz.prog 203 i203 := ⟨Tryz.underlying203, by rw [info_at Tryz.type203]; rfl⟩
abbrev i204 : TyI := ⟨.func, 1, 8, [Value.nilFunc]⟩
theorem a204 : Agrees Tryz.prog 204 i204 := ⟨⟨_, _, _, Tryz.underlying204⟩, by rw [info_at Tryz.type204]; rfl⟩
abbrev i205 : TyI := ⟨.func, 1, 8, [Value.nilFunc]⟩
theorem a205 : Agrees Tryz.prog 205 i205 := ⟨⟨_, _, _, Tryz.underlying205⟩, by rw [info_at Tryz.type205]; rfl⟩
abbrev i206 : TyI := ⟨.array 20 154, 20, 160, [Value.int .u64 0, Value.int .u64 0, Value.int .u64 0, Value.int .u64 0, Value.int .u64 0, Value.int .u64 0, Value.int .u64 0, Value.int .u64 0, Value.int .u64 0, Value.int .u64 0, Value.int .u64 0, Value.int .u64 0, Value.int .u64 0, Value.int .u64 0, Value.int .u64 0, Value.int .u64 0, Value.int .u64 0, Value.int .u64 0, Value.int .u64 0, Value.int .u64 0]⟩
theorem a206 : Agrees Tryz.prog 206 i206 := ⟨Tryz.underlying206, by rw [info_at Tryz.type206]; rfl⟩
abbrev i207 : TyI := ⟨.array 65 5, 65, 65, [Value.int .u8 0, Value.int .u8 0, Value.int .u8 0, Value.int .u8 0, Value.int .u8 0, Value.int .u8 0, Value.int .u8 0, Value.int .u8 0, Value.int .u8 0, Value.int .u8 0, Value.int .u8 0, Value.int .u8 0, Value.int .u8 0, Value.int .u8 0, Value.int .u8 0, Value.int .u8 0, Value.int .u8 0, Value.int .u8 0, Value.int .u8 0, Value.int .u8 0, Value.int .u8 0, Value.int .u8 0, Value.int .u8 0, Value.int .u8 0, Value.int .u8 0, Value.int .u8 0, Value.int .u8 0, Value.int .u8 0, Value.int .u8 0, Value.int .u8 0, Value.int .u8 0, Value.int .u8 0, Value.int .u8 0, Value.int .u8 0, Value.int .u8 0, Value.int .u8 0, Value.int .u8 0, Value.int .u8 0, Value.int .u8 0, Value.int .u8 0, Value.int .u8 0, Value.int .u8 0, Value.int .u8 0, Value.int .u8 0, Value.int .u8 0, Value.int .u8 0, Value.int .u8 0, Value.int .u8 0, Value.int .u8 0, Value.int .u8 0, Value.int .u8 0, Value.int .u8 0, Value.int .u8 0, Value.int .u8 0, Value.int .u8 0, Value.int .u8 0, Value.int .u8 0, Value.int .u8 0, Value.int .u8 0, Value.int .u8 0, Value.int .u8 0, Value.int .u8 0, Value.int .u8 0, Value.int .u8 0, Value.int .u8 0]⟩
theorem a207 : Agrees Tryz.prog 207 i207 := ⟨Tryz.underlying207, by rw [info_at Tryz.type207]; rfl⟩
abbrev i209 : TyI := ⟨.func, 1, 8, [Value.nilFunc]⟩
theorem a209 : Agrees Tryz.prog 209 i209 := ⟨⟨_, _, _, Tryz.underlying209⟩, by rw [info_at Tryz.type209]; rfl⟩
abbrev i210 : TyI := ⟨.struct [(0, 9), (1, 9), (2, 85)], 3, 48, [Value.string ⟨#[]⟩, Value.string ⟨#[]⟩, Value.nilIface]⟩
theorem a210 : Agrees Tryz.prog 210 i210 := ⟨⟨_, Tryz.underlying210, rfl⟩, by rw [info_at Tryz.type210]; rfl⟩
abbrev i211 : TyI := ⟨.struct [(0, 9), (1, 9), (2, 85)], 3, 48, [Value.string ⟨#[]⟩, Value.string ⟨#[]⟩, Value.nilIface]⟩
theorem a211 : Agrees Tryz.prog 211 i211 := ⟨⟨_, Tryz.underlying211, rfl⟩, by rw [info_at Tryz.type211]; rfl⟩
abbrev i212 : TyI := ⟨.func, 1, 8, [Value.nilFunc]⟩
theorem a212 : Agrees Tryz.prog 212 i212 := ⟨⟨_, _, _, Tryz.underlying212⟩, by rw [info_at Tryz.type212]; rfl⟩
abbrev i213 : TyI := ⟨.func, 1, 8, [Value.nilFunc]⟩
theorem a213 : Agrees Tryz.prog 213 i213 := ⟨⟨_, _, _, Tryz.underlying213⟩, by rw [info_at Tryz.type213]; rfl⟩
abbrev i214 : TyI := ⟨.func, 1, 8, [Value.nilFunc]⟩
theorem a214 : Agrees Tryz.prog 214 i214 := ⟨⟨_, _, _, Tryz.underlying214⟩, by rw [info_at Tryz.type214]; rfl⟩
abbrev i215 : TyI := ⟨.func, 1, 8, [Value.nilFunc]⟩
theorem a215 : Agrees Tryz.prog 215 i215 := ⟨⟨_, _, _, Tryz.underlying215⟩, by rw [info_at Tryz.type215]; rfl⟩
abbrev i216 : TyI := ⟨.ptr 218, 1, 8, [Value.pointer none]⟩
theorem a216 : Agrees Tryz.prog 216 i216 := ⟨Tryz.underlying216, by rw [info_at Tryz.type216]; rfl⟩
abbrev i217 : TyI := ⟨.struct [(0, 9)], 1, 16, [Value.string ⟨#[]⟩]⟩
theorem a217 : Agrees Tryz.prog 217 i217 := ⟨⟨_, Tryz.underlying217, rfl⟩, by rw [info_at Tryz.type217]; rfl⟩
abbrev i218 : TyI := ⟨.struct [(0, 9)], 1, 16, [Value.string ⟨#[]⟩]⟩
theorem a218 : Agrees Tryz.prog 218 i218 := ⟨⟨_, Tryz.underlying218, rfl⟩, by rw [info_at Tryz.type218]; rfl⟩
abbrev i219 : TyI := ⟨.array 32 5, 32, 32, [Value.int .u8 0, Value.int .u8 0, Value.int .u8 0, Value.int .u8 0, Value.int .u8 0, Value.int .u8 0, Value.int .u8 0, Value.int .u8 0, Value.int .u8 0, Value.int .u8 0, Value.int .u8 0, Value.int .u8 0, Value.int .u8 0, Value.int .u8 0, Value.int .u8 0, Value.int .u8 0, Value.int .u8 0, Value.int .u8 0, Value.int .u8 0, Value.int .u8 0, Value.int .u8 0, Value.int .u8 0, Value.int .u8 0, Value.int .u8 0, Value.int .u8 0, Value.int .u8 0, Value.int .u8 0, Value.int .u8 0, Value.int .u8 0, Value.int .u8 0, Value.int .u8 0, Value.int .u8 0]⟩
theorem a219 : Agrees Tryz.prog 219 i219 := ⟨Tryz.underlying219, by rw [info_at Tryz.type219]; rfl⟩
abbrev i220 : TyI := ⟨.array 64 5, 64, 64, [Value.int .u8 0, Value.int .u8 0, Value.int .u8 0, Value.int .u8 0, Value.int .u8 0, Value.int .u8 0, Value.int .u8 0, Value.int .u8 0, Value.int .u8 0, Value.int .u8 0, Value.int .u8 0, Value.int .u8 0, Value.int .u8 0, Value.int .u8 0, Value.int .u8 0, Value.int .u8 0, Value.int .u8 0, Value.int .u8 0, Value.int .u8 0, Value.int .u8 0, Value.int .u8 0, Value.int .u8 0, Value.int .u8 0, Value.int .u8 0, Value.int .u8 0, Value.int .u8 0, Value.int .u8 0, Value.int .u8 0, Value.int .u8 0, Value.int .u8 0, Value.int .u8 0, Value.int .u8 0, Value.int .u8 0, Value.int .u8 0, Value.int .u8 0, Value.int .u8 0, Value.int .u8 0, Value.int .u8 0, Value.int .u8 0, Value.int .u8 0, Value.int .u8 0, Value.int .u8 0, Value.int .u8 0, Value.int .u8 0, Value.int .u8 0, Value.int .u8 0, Value.int .u8 0, Value.int .u8 0, Value.int .u8 0, Value.int .u8 0, Value.int .u8 0, Value.int .u8 0, Value.int .u8 0, Value.int .u8 0, Value.int .u8 0, Value.int .u8 0, Value.int .u8 0, Value.int .u8 0, Value.int .u8 0, Value.int .u8 0, Value.int .u8 0, Value.int .u8 0, Value.int .u8 0, Value.int .u8 0]⟩
theorem a220 : Agrees Tryz.prog 220 i220 := ⟨Tryz.underlying220, by rw [info_at Tryz.type220]; rfl⟩
abbrev i221 : TyI := ⟨.struct [(0, 17), (1, 17), (2, 17), (3, 9)], 4, 40, [Value.pointer none, Value.pointer none, Value.pointer none, Value.string ⟨#[]⟩]⟩
theorem a221 : Agrees Tryz.prog 221 i221 := ⟨⟨_, Tryz.underlying221, rfl⟩, by rw [info_at Tryz.type221]; rfl⟩
abbrev i222 : TyI := ⟨.struct [(0, 17), (1, 17), (2, 17), (3, 9)], 4, 40, [Value.pointer none, Value.pointer none, Value.pointer none, Value.string ⟨#[]⟩]⟩
theorem a222 : Agrees Tryz.prog 222 i222 := ⟨⟨_, Tryz.underlying222, rfl⟩, by rw [info_at Tryz.type222]; rfl⟩
abbrev i223 : TyI := ⟨.array 0 16, 0, 0, []⟩
theorem a223 : Agrees Tryz.prog 223 i223 := ⟨Tryz.underlying223, by rw [info_at Tryz.type223]; rfl⟩
abbrev i224 : TyI := ⟨.struct [(0, 223)], 0, 0, []⟩
theorem a224 : Agrees Tryz.prog 224 i224 := ⟨⟨_, Tryz.underlying224, rfl⟩, by rw [info_at Tryz.type224]; rfl⟩
abbrev i225 : TyI := ⟨.struct [(0, 223)], 0, 0, []⟩
theorem a225 : Agrees Tryz.prog 225 i225 := ⟨⟨_, Tryz.underlying225, rfl⟩, by rw [info_at Tryz.type225]; rfl⟩
abbrev i226 : TyI := ⟨.int .u8, 1, 1, [Value.int .u8 0]⟩
theorem a226 : Agrees Tryz.prog 226 i226 := ⟨Tryz.underlying226, by rw [info_at Tryz.type226]; rfl⟩
abbrev i227 : TyI := ⟨.int .u8, 1, 1, [Value.int .u8 0]⟩
theorem a227 : Agrees Tryz.prog 227 i227 := ⟨Tryz.underlying227, by rw [info_at Tryz.type227]; rfl⟩
abbrev i228 : TyI := ⟨.func, 1, 8, [Value.nilFunc]⟩
theorem a228 : Agrees Tryz.prog 228 i228 := ⟨⟨_, _, _, Tryz.underlying228⟩, by rw [info_at Tryz.type228]; rfl⟩
abbrev i229 : TyI := ⟨.int .i32, 1, 4, [Value.int .i32 0]⟩
theorem a229 : Agrees Tryz.prog 229 i229 := ⟨Tryz.underlying229, by rw [info_at Tryz.type229]; rfl⟩
abbrev i230 : TyI := ⟨.int .i32, 1, 4, [Value.int .i32 0]⟩
theorem a230 : Agrees Tryz.prog 230 i230 := ⟨Tryz.underlying230, by rw [info_at Tryz.type230]; rfl⟩
abbrev i231 : TyI := ⟨.struct [(0, 12), (1, 12), (2, 151), (3, 226), (4, 5), (5, 5), (6, 227), (7, 228), (8, 141), (9, 229), (10, 230)], 11, 48, [Value.int .u64 0, Value.int .u64 0, Value.int .u32 0, Value.int .u8 0, Value.int .u8 0, Value.int .u8 0, Value.int .u8 0, Value.nilFunc, Value.pointer none, Value.int .i32 0, Value.int .i32 0]⟩
theorem a231 : Agrees Tryz.prog 231 i231 := ⟨⟨_, Tryz.underlying231, rfl⟩, by rw [info_at Tryz.type231]; rfl⟩
abbrev i232 : TyI := ⟨.struct [(0, 12), (1, 12), (2, 151), (3, 226), (4, 5), (5, 5), (6, 227), (7, 228), (8, 141), (9, 229), (10, 230)], 11, 48, [Value.int .u64 0, Value.int .u64 0, Value.int .u32 0, Value.int .u8 0, Value.int .u8 0, Value.int .u8 0, Value.int .u8 0, Value.nilFunc, Value.pointer none, Value.int .i32 0, Value.int .i32 0]⟩
theorem a232 : Agrees Tryz.prog 232 i232 := ⟨⟨_, Tryz.underlying232, rfl⟩, by rw [info_at Tryz.type232]; rfl⟩
def tab : List (TypeId × TyI) := [(1, i1), (2, i2), (3, i3), (4, i4), (5, i5), (6, i6), (7, i7), (8, i8), (9, i9), (10, i10), (11, i11), (12, i12), (13, i13), (14, i14), (15, i15), (16, i16), (17, i17), (18, i18), (19, i19), (20, i20), (21, i21), (22, i22), (23, i23), (24, i24), (25, i25), (27, i27), (28, i28), (29, i29), (30, i30), (32, i32), (33, i33), (35, i35), (36, i36), (37, i37), (39, i39), (40, i40), (41, i41), (42, i42), (43, i43), (44, i44), (45, i45), (46, i46), (47, i47), (48, i48), (49, i49), (50, i50), (51, i51), (52, i52), (53, i53), (54, i54), (56, i56), (57, i57), (58, i58), (60, i60), (61, i61), (62, i62), (63, i63), (64, i64), (65, i65), (66, i66), (67, i67), (68, i68), (69, i69), (70, i70), (71, i71), (72, i72), (73, i73), (74, i74), (75, i75), (76, i76), (77, i77), (78, i78), (79, i79), (80, i80), (81, i81), (82, i82), (83, i83), (84, i84), (85, i85), (87, i87), (88, i88), (89, i89), (90, i90), (91, i91), (92, i92), (94, i94), (95, i95), (96, i96), (97, i97), (98, i98), (99, i99), (100, i100), (101, i101), (103, i103), (105, i105), (106, i106), (107, i107), (109, i109), (110, i110), (111, i111), (112, i112), (113, i113), (114, i114), (115, i115), (116, i116), (117, i117), (119, i119), (120, i120), (121, i121), (122, i122), (124, i124), (125, i125), (126, i126), (127, i127), (128, i128), (129, i129), (130, i130), (131, i131), (132, i132), (133, i133), (134, i134), (135, i135), (136, i136), (137, i137), (138, i138), (139, i139), (140, i140), (141, i141), (142, i142), (143, i143), (144, i144), (145, i145), (146, i146), (147, i147), (148, i148), (149, i149), (150, i150), (151, i151), (153, i153), (154, i154), (156, i156), (158, i158), (159, i159), (160, i160), (162, i162), (163, i163), (164, i164), (165, i165), (166, i166), (167, i167), (168, i168), (169, i169), (170, i170), (171, i171), (172, i172), (173, i173), (174, i174), (175, i175), (176, i176), (177, i177), (178, i178), (179, i179), (180, i180), (181, i181), (182, i182), (183, i183), (184, i184), (185, i185), (186, i186), (187, i187), (189, i189), (190, i190), (192, i192), (193, i193), (194, i194), (195, i195), (196, i196), (197, i197), (198, i198), (200, i200), (201, i201), (202, i202), (203, i203), (204, i204), (205, i205), (206, i206), (207, i207), (209, i209), (210, i210), (211, i211), (212, i212), (213, i213), (214, i214), (215, i215), (216, i216), (217, i217), (218, i218), (219, i219), (220, i220), (221, i221), (222, i222), (223, i223), (224, i224), (225, i225), (226, i226), (227, i227), (228, i228), (229, i229), (230, i230), (231, i231), (232, i232)]
theorem tab_ok : AllAgree Tryz.prog tab := ⟨a1, a2, a3, a4, a5, a6, a7, a8, a9, a10, a11, a12, a13, a14, a15, a16, a17, a18, a19, a20, a21, a22, a23, a24, a25, a27, a28, a29, a30, a32, a33, a35, a36, a37, a39, a40, a41, a42, a43, a44, a45, a46, a47, a48, a49, a50, a51, a52, a53, a54, a56, a57, a58, a60, a61, a62, a63, a64, a65, a66, a67, a68, a69, a70, a71, a72, a73, a74, a75, a76, a77, a78, a79, a80, a81, a82, a83, a84, a85, a87, a88, a89, a90, a91, a92, a94, a95, a96, a97, a98, a99, a100, a101, a103, a105, a106, a107, a109, a110, a111, a112, a113, a114, a115, a116, a117, a119, a120, a121, a122, a124, a125, a126, a127, a128, a129, a130, a131, a132, a133, a134, a135, a136, a137, a138, a139, a140, a141, a142, a143, a144, a145, a146, a147, a148, a149, a150, a151, a153, a154, a156, a158, a159, a160, a162, a163, a164, a165, a166, a167, a168, a169, a170, a171, a172, a173, a174, a175, a176, a177, a178, a179, a180, a181, a182, a183, a184, a185, a186, a187, a189, a190, a192, a193, a194, a195, a196, a197, a198, a200, a201, a202, a203, a204, a205, a206, a207, a209, a210, a211, a212, a213, a214, a215, a216, a217, a218, a219, a220, a221, a222, a223, a224, a225, a226, a227, a228, a229, a230, a231, a232, trivial⟩
def powT : List Int := [1, 10, 100, 1000, 10000, 100000, 1000000, 10000000, 100000000, 1000000000, 10000000000, 100000000000, 1000000000000, 10000000000000, 100000000000000, 1000000000000000, 10000000000000000, 100000000000000000, 1000000000000000000, 10000000000000000000]
def gl : List (Nat × List PV) := []
def gcell (w : World) (I : Nat → Prop) (b : Nat) (p : Value → Prop) : Prop := I b ∧ ∃ v, w.cell? ⟨b, 0, none⟩ = some v ∧ p v
theorem gcell_keep {w : World} {I : Nat → Prop} {w' : World} {I' : Nat → Prop} (hk : Keeps w I w' I') {b : Nat} {p : Value → Prop} (h : gcell w I b p) : gcell w' I' b p := by
  obtain ⟨h1, v, h2, h3⟩ := h
  refine ⟨(hk b h1).1, v, ?_, h3⟩
  rw [← h2]
  unfold World.cell?
  rw [(hk b h1).2]
def isErr (v : Value) : Prop := v = .nilIface ∨ ∃ tp p, v = .iface tp p
def gwinv (w : World) (I : Nat → Prop) : Prop := (I 1 ∧ I 2 ∧ Lib.Utf8Tabs 1 2 w) ∧ (I 3 ∧ ∃ t fr, w.heap[3]? = some (.cells (powT.map (Value.int .u64)).toArray t fr)) ∧ gcell w I 4 isErr ∧ gcell w I 5 isErr
theorem gcell_same {w w' : World} {b c : Nat} (h : w'.heap[b]? = w.heap[b]?) : w'.cell? ⟨b, c, none⟩ = w.cell? ⟨b, c, none⟩ := by
  unfold World.cell?
  rw [h]
theorem gkeepW (w : World) (I : Nat → Prop) (w' : World) (I' : Nat → Prop) (hk : Keeps w I w' I') (h : gwinv w I) : gwinv w' I' := by
  obtain ⟨⟨h0, h1, h2, h3⟩, ⟨h4, t, fr, h5⟩, h6, h7⟩ := h
  refine ⟨⟨(hk 1 h0).1, (hk 2 h1).1, fun c hc => ?_, fun i hi => ?_⟩, ⟨(hk 3 h4).1, t, fr, by rw [(hk 3 h4).2]; exact h5⟩, gcell_keep hk h6, gcell_keep hk h7⟩
  · rw [gcell_same (hk 1 h0).2]; exact h2 c hc
  · rw [gcell_same (hk 2 h1).2, gcell_same (hk 2 h1).2]; exact h3 i hi
theorem gpow {w : World} {I : Nat → Prop} (h : gwinv w I) : ∃ t fr, w.heap[3]? = some (.cells (powT.map (Value.int .u64)).toArray t fr) := h.2.1.2
noncomputable def env : Env := ⟨Tryz.prog, tab, gl, tab_ok, gwinv, gkeepW, [], false⟩
theorem ty3 : env.ty 3 = some i3 := rfl
theorem ty5 : env.ty 5 = some i5 := rfl
theorem ty9 : env.ty 9 = some i9 := rfl
theorem ty21 : env.ty 21 = some i21 := rfl
theorem ty28 : env.ty 28 = some i28 := rfl
theorem ty43 : env.ty 43 = some i43 := rfl
theorem ty48 : env.ty 48 = some i48 := rfl
theorem ty50 : env.ty 50 = some i50 := rfl
theorem ty52 : env.ty 52 = some i52 := rfl
theorem ty58 : env.ty 58 = some i58 := rfl
theorem ty65 : env.ty 65 = some i65 := rfl
theorem ty79 : env.ty 79 = some i79 := rfl
theorem ty81 : env.ty 81 = some i81 := rfl
theorem ty83 : env.ty 83 = some i83 := rfl
theorem ty85 : env.ty 85 = some i85 := rfl
theorem ty112 : env.ty 112 = some i112 := rfl
theorem ty120 : env.ty 120 = some i120 := rfl
theorem ty132 : env.ty 132 = some i132 := rfl
theorem ty135 : env.ty 135 = some i135 := rfl
theorem ty136 : env.ty 136 = some i136 := rfl
theorem ty139 : env.ty 139 = some i139 := rfl
theorem ty141 : env.ty 141 = some i141 := rfl
theorem ty169 : env.ty 169 = some i169 := rfl
end Go.Proofs.YtincpomenogppaaGreatDoor
