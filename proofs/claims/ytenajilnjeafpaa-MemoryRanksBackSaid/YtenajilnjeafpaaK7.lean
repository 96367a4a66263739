/- Part 7 of the texts under MemoryRanksBack: joined, with what it needs alone. -/
import Derived.Test.YtenajilnjeafpaaProg
import Derived.KernelRfl
import Derived.Below
import Derived.Test.YtenajilnjeafpaaK3
set_option linter.unusedVariables false
set_option maxRecDepth 100000
namespace Go.Proofs.Ytenajilnjeafpaa
theorem sz_1 : SizeOK Try.prog 1 1 false := ⟨by kernel_rfl, by kernel_rfl⟩
theorem sz_2 : SizeOK Try.prog 2 1 false := ⟨by kernel_rfl, by kernel_rfl⟩
theorem sz_3 : SizeOK Try.prog 3 1 false := ⟨by kernel_rfl, by kernel_rfl⟩
theorem sz_4 : SizeOK Try.prog 4 1 false := ⟨by kernel_rfl, by kernel_rfl⟩
theorem sz_5 : SizeOK Try.prog 5 1 false := ⟨by kernel_rfl, by kernel_rfl⟩
theorem sz_6 : SizeOK Try.prog 6 1 false := ⟨by kernel_rfl, by kernel_rfl⟩
theorem sz_7 : SizeOK Try.prog 7 4 true := ⟨by kernel_rfl, by kernel_rfl⟩
theorem sz_8 : SizeOK Try.prog 8 4 true := ⟨by kernel_rfl, by kernel_rfl⟩
theorem sz_9 : SizeOK Try.prog 9 1 false := ⟨by kernel_rfl, by kernel_rfl⟩
theorem sz_10 : SizeOK Try.prog 10 1 false := ⟨by kernel_rfl, by kernel_rfl⟩
theorem sz_11 : SizeOK Try.prog 11 1 false := ⟨by kernel_rfl, by kernel_rfl⟩
theorem sz_12 : SizeOK Try.prog 12 1 false := ⟨by kernel_rfl, by kernel_rfl⟩
theorem sz_13 : SizeOK Try.prog 13 2 true := ⟨by kernel_rfl, by kernel_rfl⟩
theorem sz_14 : SizeOK Try.prog 14 2 true := ⟨by kernel_rfl, by kernel_rfl⟩
theorem sz_15 : SizeOK Try.prog 15 1 false := ⟨by kernel_rfl, by kernel_rfl⟩
theorem sz_16 : SizeOK Try.prog 16 1 false := ⟨by kernel_rfl, by kernel_rfl⟩
theorem sz_17 : SizeOK Try.prog 17 1 false := ⟨by kernel_rfl, by kernel_rfl⟩
theorem sz_18 : SizeOK Try.prog 18 1 true := ⟨by kernel_rfl, by kernel_rfl⟩
theorem sz_19 : SizeOK Try.prog 19 1 true := ⟨by kernel_rfl, by kernel_rfl⟩
theorem sz_20 : SizeOK Try.prog 20 1 false := ⟨by kernel_rfl, by kernel_rfl⟩
theorem sz_21 : SizeOK Try.prog 21 1 false := ⟨by kernel_rfl, by kernel_rfl⟩
theorem sz_22 : SizeOK Try.prog 22 1 false := ⟨by kernel_rfl, by kernel_rfl⟩
theorem sz_23 : SizeOK Try.prog 23 1 false := ⟨by kernel_rfl, by kernel_rfl⟩
theorem sz_24 : SizeOK Try.prog 24 3 true := ⟨by kernel_rfl, by kernel_rfl⟩
theorem sz_25 : SizeOK Try.prog 25 3 true := ⟨by kernel_rfl, by kernel_rfl⟩
theorem sz_26 : SizeOK Try.prog 26 1 false := ⟨by kernel_rfl, by kernel_rfl⟩
theorem sz_27 : SizeOK Try.prog 27 1 false := ⟨by kernel_rfl, by kernel_rfl⟩
theorem sz_28 : SizeOK Try.prog 28 2 true := ⟨by kernel_rfl, by kernel_rfl⟩
theorem sz_29 : SizeOK Try.prog 29 2 true := ⟨by kernel_rfl, by kernel_rfl⟩
theorem sz_30 : SizeOK Try.prog 30 1 false := ⟨by kernel_rfl, by kernel_rfl⟩
theorem sz_31 : SizeOK Try.prog 31 1 false := ⟨by kernel_rfl, by kernel_rfl⟩
theorem sz_32 : SizeOK Try.prog 32 1 false := ⟨by kernel_rfl, by kernel_rfl⟩
theorem sz_33 : SizeOK Try.prog 33 1 false := ⟨by kernel_rfl, by kernel_rfl⟩
theorem sz_35 : SizeOK Try.prog 35 1 false := ⟨by kernel_rfl, by kernel_rfl⟩
theorem sz_36 : SizeOK Try.prog 36 1 false := ⟨by kernel_rfl, by kernel_rfl⟩
theorem sz_37 : SizeOK Try.prog 37 1 false := ⟨by kernel_rfl, by kernel_rfl⟩
theorem sz_39 : SizeOK Try.prog 39 1 false := ⟨by kernel_rfl, by kernel_rfl⟩
theorem sz_40 : SizeOK Try.prog 40 1 false := ⟨by kernel_rfl, by kernel_rfl⟩
theorem sz_41 : SizeOK Try.prog 41 1 false := ⟨by kernel_rfl, by kernel_rfl⟩
theorem sz_42 : SizeOK Try.prog 42 1 false := ⟨by kernel_rfl, by kernel_rfl⟩
theorem sz_43 : SizeOK Try.prog 43 1 false := ⟨by kernel_rfl, by kernel_rfl⟩
theorem sz_44 : SizeOK Try.prog 44 6 true := ⟨by kernel_rfl, by kernel_rfl⟩
theorem sz_45 : SizeOK Try.prog 45 6 true := ⟨by kernel_rfl, by kernel_rfl⟩
theorem sz_46 : SizeOK Try.prog 46 1 false := ⟨by kernel_rfl, by kernel_rfl⟩
theorem sz_47 : SizeOK Try.prog 47 1 false := ⟨by kernel_rfl, by kernel_rfl⟩
theorem sz_48 : SizeOK Try.prog 48 3 true := ⟨by kernel_rfl, by kernel_rfl⟩
theorem sz_49 : SizeOK Try.prog 49 3 true := ⟨by kernel_rfl, by kernel_rfl⟩
theorem sz_50 : SizeOK Try.prog 50 1 false := ⟨by kernel_rfl, by kernel_rfl⟩
theorem sz_51 : SizeOK Try.prog 51 2 true := ⟨by kernel_rfl, by kernel_rfl⟩
theorem sz_52 : SizeOK Try.prog 52 2 true := ⟨by kernel_rfl, by kernel_rfl⟩
theorem sz_53 : SizeOK Try.prog 53 1 false := ⟨by kernel_rfl, by kernel_rfl⟩
theorem sz_55 : SizeOK Try.prog 55 1 false := ⟨by kernel_rfl, by kernel_rfl⟩
theorem sz_56 : SizeOK Try.prog 56 1 false := ⟨by kernel_rfl, by kernel_rfl⟩
theorem sz_57 : SizeOK Try.prog 57 1 false := ⟨by kernel_rfl, by kernel_rfl⟩
theorem sz_58 : SizeOK Try.prog 58 1 false := ⟨by kernel_rfl, by kernel_rfl⟩
theorem sz_59 : SizeOK Try.prog 59 1 false := ⟨by kernel_rfl, by kernel_rfl⟩
theorem sz_60 : SizeOK Try.prog 60 1 false := ⟨by kernel_rfl, by kernel_rfl⟩
theorem sz_61 : SizeOK Try.prog 61 1 false := ⟨by kernel_rfl, by kernel_rfl⟩
theorem sz_62 : SizeOK Try.prog 62 2 true := ⟨by kernel_rfl, by kernel_rfl⟩
theorem sz_63 : SizeOK Try.prog 63 1 false := ⟨by kernel_rfl, by kernel_rfl⟩
theorem sz_64 : SizeOK Try.prog 64 1 false := ⟨by kernel_rfl, by kernel_rfl⟩
theorem sz_65 : SizeOK Try.prog 65 1 false := ⟨by kernel_rfl, by kernel_rfl⟩
theorem sz_66 : SizeOK Try.prog 66 1 false := ⟨by kernel_rfl, by kernel_rfl⟩
theorem sz_67 : SizeOK Try.prog 67 1 false := ⟨by kernel_rfl, by kernel_rfl⟩
theorem sz_68 : SizeOK Try.prog 68 1 false := ⟨by kernel_rfl, by kernel_rfl⟩
theorem sz_69 : SizeOK Try.prog 69 1 false := ⟨by kernel_rfl, by kernel_rfl⟩
theorem sz_70 : SizeOK Try.prog 70 1 false := ⟨by kernel_rfl, by kernel_rfl⟩
theorem sz_71 : SizeOK Try.prog 71 2 true := ⟨by kernel_rfl, by kernel_rfl⟩
theorem sz_72 : SizeOK Try.prog 72 2 true := ⟨by kernel_rfl, by kernel_rfl⟩
theorem sz_74 : SizeOK Try.prog 74 1 false := ⟨by kernel_rfl, by kernel_rfl⟩
theorem sz_75 : SizeOK Try.prog 75 1 false := ⟨by kernel_rfl, by kernel_rfl⟩
theorem sz_76 : SizeOK Try.prog 76 1 false := ⟨by kernel_rfl, by kernel_rfl⟩
theorem sz_77 : SizeOK Try.prog 77 1 false := ⟨by kernel_rfl, by kernel_rfl⟩
theorem sz_78 : SizeOK Try.prog 78 1 false := ⟨by kernel_rfl, by kernel_rfl⟩
theorem sz_79 : SizeOK Try.prog 79 1 false := ⟨by kernel_rfl, by kernel_rfl⟩
theorem sz_80 : SizeOK Try.prog 80 1 false := ⟨by kernel_rfl, by kernel_rfl⟩
theorem sz_81 : SizeOK Try.prog 81 1 false := ⟨by kernel_rfl, by kernel_rfl⟩
theorem sz_82 : SizeOK Try.prog 82 1 false := ⟨by kernel_rfl, by kernel_rfl⟩
theorem sz_83 : SizeOK Try.prog 83 1 false := ⟨by kernel_rfl, by kernel_rfl⟩
theorem sz_84 : SizeOK Try.prog 84 2 true := ⟨by kernel_rfl, by kernel_rfl⟩
theorem sz_85 : SizeOK Try.prog 85 2 true := ⟨by kernel_rfl, by kernel_rfl⟩
theorem sz_86 : SizeOK Try.prog 86 1 false := ⟨by kernel_rfl, by kernel_rfl⟩
theorem sz_87 : SizeOK Try.prog 87 1 false := ⟨by kernel_rfl, by kernel_rfl⟩
theorem sz_88 : SizeOK Try.prog 88 1 false := ⟨by kernel_rfl, by kernel_rfl⟩
theorem sz_89 : SizeOK Try.prog 89 1 false := ⟨by kernel_rfl, by kernel_rfl⟩
theorem sz_90 : SizeOK Try.prog 90 1 false := ⟨by kernel_rfl, by kernel_rfl⟩
theorem sz_91 : SizeOK Try.prog 91 1 false := ⟨by kernel_rfl, by kernel_rfl⟩
theorem sz_92 : SizeOK Try.prog 92 1 false := ⟨by kernel_rfl, by kernel_rfl⟩
theorem sz_93 : SizeOK Try.prog 93 1 false := ⟨by kernel_rfl, by kernel_rfl⟩
theorem sz_94 : SizeOK Try.prog 94 1 false := ⟨by kernel_rfl, by kernel_rfl⟩
theorem sz_95 : SizeOK Try.prog 95 256 true := ⟨by kernel_rfl, by kernel_rfl⟩
theorem sz_96 : SizeOK Try.prog 96 1 false := ⟨by kernel_rfl, by kernel_rfl⟩
theorem sz_98 : SizeOK Try.prog 98 1 false := ⟨by kernel_rfl, by kernel_rfl⟩
theorem sz_99 : SizeOK Try.prog 99 1 false := ⟨by kernel_rfl, by kernel_rfl⟩
theorem sz_100 : SizeOK Try.prog 100 1 false := ⟨by kernel_rfl, by kernel_rfl⟩
theorem sz_101 : SizeOK Try.prog 101 1 false := ⟨by kernel_rfl, by kernel_rfl⟩
theorem sz_102 : SizeOK Try.prog 102 1 false := ⟨by kernel_rfl, by kernel_rfl⟩
theorem sz_103 : SizeOK Try.prog 103 1 false := ⟨by kernel_rfl, by kernel_rfl⟩
theorem sz_104 : SizeOK Try.prog 104 1 false := ⟨by kernel_rfl, by kernel_rfl⟩
theorem sz_105 : SizeOK Try.prog 105 1 false := ⟨by kernel_rfl, by kernel_rfl⟩
theorem sz_106 : SizeOK Try.prog 106 1 false := ⟨by kernel_rfl, by kernel_rfl⟩
theorem sz_107 : SizeOK Try.prog 107 2 true := ⟨by kernel_rfl, by kernel_rfl⟩
theorem sz_108 : SizeOK Try.prog 108 2 true := ⟨by kernel_rfl, by kernel_rfl⟩
theorem sz_109 : SizeOK Try.prog 109 1 false := ⟨by kernel_rfl, by kernel_rfl⟩
theorem sz_110 : SizeOK Try.prog 110 1 false := ⟨by kernel_rfl, by kernel_rfl⟩
theorem sz_111 : SizeOK Try.prog 111 2 true := ⟨by kernel_rfl, by kernel_rfl⟩
theorem sz_112 : SizeOK Try.prog 112 2 true := ⟨by kernel_rfl, by kernel_rfl⟩
theorem sz_113 : SizeOK Try.prog 113 1 false := ⟨by kernel_rfl, by kernel_rfl⟩
theorem sz_114 : SizeOK Try.prog 114 1 false := ⟨by kernel_rfl, by kernel_rfl⟩
theorem sz_115 : SizeOK Try.prog 115 1 false := ⟨by kernel_rfl, by kernel_rfl⟩
theorem sz_116 : SizeOK Try.prog 116 1 false := ⟨by kernel_rfl, by kernel_rfl⟩
theorem sz_117 : SizeOK Try.prog 117 1 false := ⟨by kernel_rfl, by kernel_rfl⟩
theorem sz_118 : SizeOK Try.prog 118 1 false := ⟨by kernel_rfl, by kernel_rfl⟩
theorem sz_119 : SizeOK Try.prog 119 1 false := ⟨by kernel_rfl, by kernel_rfl⟩
theorem sz_120 : SizeOK Try.prog 120 3 true := ⟨by kernel_rfl, by kernel_rfl⟩
theorem sz_121 : SizeOK Try.prog 121 1 false := ⟨by kernel_rfl, by kernel_rfl⟩
theorem sz_122 : SizeOK Try.prog 122 1 false := ⟨by kernel_rfl, by kernel_rfl⟩
theorem sz_123 : SizeOK Try.prog 123 1 false := ⟨by kernel_rfl, by kernel_rfl⟩
theorem sz_124 : SizeOK Try.prog 124 1 false := ⟨by kernel_rfl, by kernel_rfl⟩
theorem sz_125 : SizeOK Try.prog 125 1 false := ⟨by kernel_rfl, by kernel_rfl⟩
theorem sz_126 : SizeOK Try.prog 126 4 true := ⟨by kernel_rfl, by kernel_rfl⟩
theorem sz_127 : SizeOK Try.prog 127 4 true := ⟨by kernel_rfl, by kernel_rfl⟩
theorem sz_131 : SizeOK Try.prog 131 1 false := ⟨by kernel_rfl, by kernel_rfl⟩
theorem sz_132 : SizeOK Try.prog 132 1 false := ⟨by kernel_rfl, by kernel_rfl⟩
theorem sz_133 : SizeOK Try.prog 133 1 false := ⟨by kernel_rfl, by kernel_rfl⟩
theorem sz_134 : SizeOK Try.prog 134 1 false := ⟨by kernel_rfl, by kernel_rfl⟩
theorem sz_135 : SizeOK Try.prog 135 1 false := ⟨by kernel_rfl, by kernel_rfl⟩
theorem sz_136 : SizeOK Try.prog 136 1 false := ⟨by kernel_rfl, by kernel_rfl⟩
theorem sz_137 : SizeOK Try.prog 137 1 false := ⟨by kernel_rfl, by kernel_rfl⟩
theorem sz_138 : SizeOK Try.prog 138 1 false := ⟨by kernel_rfl, by kernel_rfl⟩
theorem sz_139 : SizeOK Try.prog 139 11 true := ⟨by kernel_rfl, by kernel_rfl⟩
theorem sz_140 : SizeOK Try.prog 140 11 true := ⟨by kernel_rfl, by kernel_rfl⟩
theorem sz_141 : SizeOK Try.prog 141 1 false := ⟨by kernel_rfl, by kernel_rfl⟩
def ty_1 : Ty := ⟨.other, 1, false, [.nilFunc]⟩
theorem ok_1 : TyOK Try.prog 1 ty_1 := ⟨sz_1, zeroOK_of (by kernel_rfl), trivial⟩
def ty_2 : Ty := ⟨(.int .i64), 1, false, [(.int .i64 0)]⟩
theorem ok_2 : TyOK Try.prog 2 ty_2 := ⟨sz_2, zeroOK_of (by kernel_rfl), Try.underlying2⟩
def ty_3 : Ty := ⟨(.int .i64), 1, false, [(.int .i64 0)]⟩
theorem ok_3 : TyOK Try.prog 3 ty_3 := ⟨sz_3, zeroOK_of (by kernel_rfl), Try.underlying3⟩
def ty_4 : Ty := ⟨.bool, 1, false, [(.bool false)]⟩
theorem ok_4 : TyOK Try.prog 4 ty_4 := ⟨sz_4, zeroOK_of (by kernel_rfl), Try.underlying4⟩
def ty_5 : Ty := ⟨(.int .u8), 1, false, [(.int .u8 0)]⟩
theorem ok_5 : TyOK Try.prog 5 ty_5 := ⟨sz_5, zeroOK_of (by kernel_rfl), Try.underlying5⟩
def ty_6 : Ty := ⟨(.int .u8), 1, false, [(.int .u8 0)]⟩
theorem ok_6 : TyOK Try.prog 6 ty_6 := ⟨sz_6, zeroOK_of (by kernel_rfl), Try.underlying6⟩
def ty_7 : Ty := ⟨(.strct [(0, 1, false), (1, 1, false), (2, 1, false), (3, 1, false)]), 4, true, [(.int .i64 0), (.int .i64 0), (.bool false), (.int .u8 0)]⟩
theorem ok_7 : TyOK Try.prog 7 ty_7 := ⟨sz_7, zeroOK_of (by kernel_rfl), (strct_of Try.underlying7 ⟨⟨rfl, sz_2, by decide⟩, ⟨rfl, sz_3, by decide⟩, ⟨rfl, sz_4, by decide⟩, ⟨rfl, sz_6, by decide⟩, trivial⟩)⟩
def ty_8 : Ty := ⟨(.strct [(0, 1, false), (1, 1, false), (2, 1, false), (3, 1, false)]), 4, true, [(.int .i64 0), (.int .i64 0), (.bool false), (.int .u8 0)]⟩
theorem ok_8 : TyOK Try.prog 8 ty_8 := ⟨sz_8, zeroOK_of (by kernel_rfl), (strct_of Try.underlying8 ⟨⟨rfl, sz_2, by decide⟩, ⟨rfl, sz_3, by decide⟩, ⟨rfl, sz_4, by decide⟩, ⟨rfl, sz_6, by decide⟩, trivial⟩)⟩
def ty_9 : Ty := ⟨.string, 1, false, [(.string ByteArray.empty)]⟩
theorem ok_9 : TyOK Try.prog 9 ty_9 := ⟨sz_9, zeroOK_of (by kernel_rfl), Try.underlying9⟩
def ty_10 : Ty := ⟨.string, 1, false, [(.string ByteArray.empty)]⟩
theorem ok_10 : TyOK Try.prog 10 ty_10 := ⟨sz_10, zeroOK_of (by kernel_rfl), Try.underlying10⟩
def ty_11 : Ty := ⟨.string, 1, false, [(.string ByteArray.empty)]⟩
theorem ok_11 : TyOK Try.prog 11 ty_11 := ⟨sz_11, zeroOK_of (by kernel_rfl), Try.underlying11⟩
def ty_12 : Ty := ⟨(.int .u64), 1, false, [(.int .u64 0)]⟩
theorem ok_12 : TyOK Try.prog 12 ty_12 := ⟨sz_12, zeroOK_of (by kernel_rfl), Try.underlying12⟩
def ty_13 : Ty := ⟨(.strct [(0, 1, false), (1, 1, false)]), 2, true, [(.string ByteArray.empty), (.int .u64 0)]⟩
theorem ok_13 : TyOK Try.prog 13 ty_13 := ⟨sz_13, zeroOK_of (by kernel_rfl), (strct_of Try.underlying13 ⟨⟨rfl, sz_9, by decide⟩, ⟨rfl, sz_12, by decide⟩, trivial⟩)⟩
def ty_14 : Ty := ⟨(.strct [(0, 1, false), (1, 1, false)]), 2, true, [(.string ByteArray.empty), (.int .u64 0)]⟩
theorem ok_14 : TyOK Try.prog 14 ty_14 := ⟨sz_14, zeroOK_of (by kernel_rfl), (strct_of Try.underlying14 ⟨⟨rfl, sz_9, by decide⟩, ⟨rfl, sz_12, by decide⟩, trivial⟩)⟩
def ty_15 : Ty := ⟨.other, 1, false, [(.pointer none)]⟩
theorem ok_15 : TyOK Try.prog 15 ty_15 := ⟨sz_15, zeroOK_of (by kernel_rfl), trivial⟩
def ty_16 : Ty := ⟨.other, 1, false, [(.pointer none)]⟩
theorem ok_16 : TyOK Try.prog 16 ty_16 := ⟨sz_16, zeroOK_of (by kernel_rfl), trivial⟩
def ty_17 : Ty := ⟨.other, 1, false, [(.pointer none)]⟩
theorem ok_17 : TyOK Try.prog 17 ty_17 := ⟨sz_17, zeroOK_of (by kernel_rfl), trivial⟩
def ty_18 : Ty := ⟨(.strct [(0, 1, false)]), 1, true, [(.pointer none)]⟩
theorem ok_18 : TyOK Try.prog 18 ty_18 := ⟨sz_18, zeroOK_of (by kernel_rfl), (strct_of Try.underlying18 ⟨⟨rfl, sz_17, by decide⟩, trivial⟩)⟩
def ty_19 : Ty := ⟨(.strct [(0, 1, false)]), 1, true, [(.pointer none)]⟩
theorem ok_19 : TyOK Try.prog 19 ty_19 := ⟨sz_19, zeroOK_of (by kernel_rfl), (strct_of Try.underlying19 ⟨⟨rfl, sz_17, by decide⟩, trivial⟩)⟩
def ty_20 : Ty := ⟨.other, 1, false, [.nilIface]⟩
theorem ok_20 : TyOK Try.prog 20 ty_20 := ⟨sz_20, zeroOK_of (by kernel_rfl), trivial⟩
def ty_21 : Ty := ⟨(.int .i32), 1, false, [(.int .i32 0)]⟩
theorem ok_21 : TyOK Try.prog 21 ty_21 := ⟨sz_21, zeroOK_of (by kernel_rfl), Try.underlying21⟩
def ty_22 : Ty := ⟨(.slc 45 6 true 56 [(.string ByteArray.empty), (.int .i64 0), (.int .i64 0), (.int .i64 0), (.int .i64 0), (.int .i64 0)]), 1, false, [(.slice none 0 0)]⟩
theorem ok_22 : TyOK Try.prog 22 ty_22 := ⟨sz_22, zeroOK_of (by kernel_rfl), ⟨Try.underlying22, sz_45, by kernel_rfl, zeroOK_of (by kernel_rfl), rfl, by decide⟩⟩
def ty_23 : Ty := ⟨(.slc 49 3 true 64 [(.string ByteArray.empty), (.slice none 0 0), (.slice none 0 0)]), 1, false, [(.slice none 0 0)]⟩
theorem ok_23 : TyOK Try.prog 23 ty_23 := ⟨sz_23, zeroOK_of (by kernel_rfl), ⟨Try.underlying23, sz_49, by kernel_rfl, zeroOK_of (by kernel_rfl), rfl, by decide⟩⟩
def ty_24 : Ty := ⟨(.strct [(0, 1, false), (1, 1, false), (2, 1, false)]), 3, true, [(.string ByteArray.empty), (.slice none 0 0), (.slice none 0 0)]⟩
theorem ok_24 : TyOK Try.prog 24 ty_24 := ⟨sz_24, zeroOK_of (by kernel_rfl), (strct_of Try.underlying24 ⟨⟨rfl, sz_9, by decide⟩, ⟨rfl, sz_22, by decide⟩, ⟨rfl, sz_23, by decide⟩, trivial⟩)⟩
def ty_25 : Ty := ⟨(.strct [(0, 1, false), (1, 1, false), (2, 1, false)]), 3, true, [(.string ByteArray.empty), (.slice none 0 0), (.slice none 0 0)]⟩
theorem ok_25 : TyOK Try.prog 25 ty_25 := ⟨sz_25, zeroOK_of (by kernel_rfl), (strct_of Try.underlying25 ⟨⟨rfl, sz_9, by decide⟩, ⟨rfl, sz_22, by decide⟩, ⟨rfl, sz_23, by decide⟩, trivial⟩)⟩
def ty_26 : Ty := ⟨(.slc 3 1 false 8 [(.int .i64 0)]), 1, false, [(.slice none 0 0)]⟩
theorem ok_26 : TyOK Try.prog 26 ty_26 := ⟨sz_26, zeroOK_of (by kernel_rfl), ⟨Try.underlying26, sz_3, by kernel_rfl, zeroOK_of (by kernel_rfl), rfl, by decide⟩⟩
def ty_27 : Ty := ⟨(.slc 53 1 false 24 [(.slice none 0 0)]), 1, false, [(.slice none 0 0)]⟩
theorem ok_27 : TyOK Try.prog 27 ty_27 := ⟨sz_27, zeroOK_of (by kernel_rfl), ⟨Try.underlying27, sz_53, by kernel_rfl, zeroOK_of (by kernel_rfl), rfl, by decide⟩⟩
def ty_28 : Ty := ⟨(.strct [(0, 1, false), (1, 1, false)]), 2, true, [(.slice none 0 0), (.slice none 0 0)]⟩
theorem ok_28 : TyOK Try.prog 28 ty_28 := ⟨sz_28, zeroOK_of (by kernel_rfl), (strct_of Try.underlying28 ⟨⟨rfl, sz_26, by decide⟩, ⟨rfl, sz_27, by decide⟩, trivial⟩)⟩
def ty_29 : Ty := ⟨(.strct [(0, 1, false), (1, 1, false)]), 2, true, [(.slice none 0 0), (.slice none 0 0)]⟩
theorem ok_29 : TyOK Try.prog 29 ty_29 := ⟨sz_29, zeroOK_of (by kernel_rfl), (strct_of Try.underlying29 ⟨⟨rfl, sz_26, by decide⟩, ⟨rfl, sz_27, by decide⟩, trivial⟩)⟩
def ty_30 : Ty := ⟨.other, 1, false, [.nilFunc]⟩
theorem ok_30 : TyOK Try.prog 30 ty_30 := ⟨sz_30, zeroOK_of (by kernel_rfl), trivial⟩
def ty_31 : Ty := ⟨.other, 1, false, [.nilFunc]⟩
theorem ok_31 : TyOK Try.prog 31 ty_31 := ⟨sz_31, zeroOK_of (by kernel_rfl), trivial⟩
def ty_32 : Ty := ⟨.other, 1, false, [.nilFunc]⟩
theorem ok_32 : TyOK Try.prog 32 ty_32 := ⟨sz_32, zeroOK_of (by kernel_rfl), trivial⟩
def ty_33 : Ty := ⟨(.int .i64), 1, false, [(.int .i64 0)]⟩
theorem ok_33 : TyOK Try.prog 33 ty_33 := ⟨sz_33, zeroOK_of (by kernel_rfl), Try.underlying33⟩
def ty_35 : Ty := ⟨.other, 1, false, [.nilFunc]⟩
theorem ok_35 : TyOK Try.prog 35 ty_35 := ⟨sz_35, zeroOK_of (by kernel_rfl), trivial⟩
def ty_36 : Ty := ⟨.other, 1, false, [.nilFunc]⟩
theorem ok_36 : TyOK Try.prog 36 ty_36 := ⟨sz_36, zeroOK_of (by kernel_rfl), trivial⟩
def ty_37 : Ty := ⟨(.slc 26 1 false 24 [(.slice none 0 0)]), 1, false, [(.slice none 0 0)]⟩
theorem ok_37 : TyOK Try.prog 37 ty_37 := ⟨sz_37, zeroOK_of (by kernel_rfl), ⟨Try.underlying37, sz_26, by kernel_rfl, zeroOK_of (by kernel_rfl), rfl, by decide⟩⟩
def ty_39 : Ty := ⟨.other, 1, false, [.nilFunc]⟩
theorem ok_39 : TyOK Try.prog 39 ty_39 := ⟨sz_39, zeroOK_of (by kernel_rfl), trivial⟩
def ty_40 : Ty := ⟨.other, 1, false, [.nilFunc]⟩
theorem ok_40 : TyOK Try.prog 40 ty_40 := ⟨sz_40, zeroOK_of (by kernel_rfl), trivial⟩
def ty_41 : Ty := ⟨.other, 1, false, [.nilFunc]⟩
theorem ok_41 : TyOK Try.prog 41 ty_41 := ⟨sz_41, zeroOK_of (by kernel_rfl), trivial⟩
def ty_42 : Ty := ⟨.other, 1, false, [.nilFunc]⟩
theorem ok_42 : TyOK Try.prog 42 ty_42 := ⟨sz_42, zeroOK_of (by kernel_rfl), trivial⟩
def ty_43 : Ty := ⟨.other, 1, false, [.nilFunc]⟩
theorem ok_43 : TyOK Try.prog 43 ty_43 := ⟨sz_43, zeroOK_of (by kernel_rfl), trivial⟩
def ty_44 : Ty := ⟨(.strct [(0, 1, false), (1, 1, false), (2, 1, false), (3, 1, false), (4, 1, false), (5, 1, false)]), 6, true, [(.string ByteArray.empty), (.int .i64 0), (.int .i64 0), (.int .i64 0), (.int .i64 0), (.int .i64 0)]⟩
theorem ok_44 : TyOK Try.prog 44 ty_44 := ⟨sz_44, zeroOK_of (by kernel_rfl), (strct_of Try.underlying44 ⟨⟨rfl, sz_9, by decide⟩, ⟨rfl, sz_3, by decide⟩, ⟨rfl, sz_3, by decide⟩, ⟨rfl, sz_3, by decide⟩, ⟨rfl, sz_3, by decide⟩, ⟨rfl, sz_3, by decide⟩, trivial⟩)⟩
def ty_45 : Ty := ⟨(.strct [(0, 1, false), (1, 1, false), (2, 1, false), (3, 1, false), (4, 1, false), (5, 1, false)]), 6, true, [(.string ByteArray.empty), (.int .i64 0), (.int .i64 0), (.int .i64 0), (.int .i64 0), (.int .i64 0)]⟩
theorem ok_45 : TyOK Try.prog 45 ty_45 := ⟨sz_45, zeroOK_of (by kernel_rfl), (strct_of Try.underlying45 ⟨⟨rfl, sz_9, by decide⟩, ⟨rfl, sz_3, by decide⟩, ⟨rfl, sz_3, by decide⟩, ⟨rfl, sz_3, by decide⟩, ⟨rfl, sz_3, by decide⟩, ⟨rfl, sz_3, by decide⟩, trivial⟩)⟩
def ty_46 : Ty := ⟨(.slc 108 2 true 16 [(.int .i64 0), (.int .i64 0)]), 1, false, [(.slice none 0 0)]⟩
theorem ok_46 : TyOK Try.prog 46 ty_46 := ⟨sz_46, zeroOK_of (by kernel_rfl), ⟨Try.underlying46, sz_108, by kernel_rfl, zeroOK_of (by kernel_rfl), rfl, by decide⟩⟩
def ty_47 : Ty := ⟨(.slc 52 2 true 32 [(.int .i64 0), (.slice none 0 0)]), 1, false, [(.slice none 0 0)]⟩
theorem ok_47 : TyOK Try.prog 47 ty_47 := ⟨sz_47, zeroOK_of (by kernel_rfl), ⟨Try.underlying47, sz_52, by kernel_rfl, zeroOK_of (by kernel_rfl), rfl, by decide⟩⟩
def ty_48 : Ty := ⟨(.strct [(0, 1, false), (1, 1, false), (2, 1, false)]), 3, true, [(.string ByteArray.empty), (.slice none 0 0), (.slice none 0 0)]⟩
theorem ok_48 : TyOK Try.prog 48 ty_48 := ⟨sz_48, zeroOK_of (by kernel_rfl), (strct_of Try.underlying48 ⟨⟨rfl, sz_9, by decide⟩, ⟨rfl, sz_46, by decide⟩, ⟨rfl, sz_47, by decide⟩, trivial⟩)⟩
def ty_49 : Ty := ⟨(.strct [(0, 1, false), (1, 1, false), (2, 1, false)]), 3, true, [(.string ByteArray.empty), (.slice none 0 0), (.slice none 0 0)]⟩
theorem ok_49 : TyOK Try.prog 49 ty_49 := ⟨sz_49, zeroOK_of (by kernel_rfl), (strct_of Try.underlying49 ⟨⟨rfl, sz_9, by decide⟩, ⟨rfl, sz_46, by decide⟩, ⟨rfl, sz_47, by decide⟩, trivial⟩)⟩
def ty_50 : Ty := ⟨.other, 1, false, [.nilFunc]⟩
theorem ok_50 : TyOK Try.prog 50 ty_50 := ⟨sz_50, zeroOK_of (by kernel_rfl), trivial⟩
def ty_51 : Ty := ⟨(.strct [(0, 1, false), (1, 1, false)]), 2, true, [(.int .i64 0), (.slice none 0 0)]⟩
theorem ok_51 : TyOK Try.prog 51 ty_51 := ⟨sz_51, zeroOK_of (by kernel_rfl), (strct_of Try.underlying51 ⟨⟨rfl, sz_3, by decide⟩, ⟨rfl, sz_46, by decide⟩, trivial⟩)⟩
def ty_52 : Ty := ⟨(.strct [(0, 1, false), (1, 1, false)]), 2, true, [(.int .i64 0), (.slice none 0 0)]⟩
theorem ok_52 : TyOK Try.prog 52 ty_52 := ⟨sz_52, zeroOK_of (by kernel_rfl), (strct_of Try.underlying52 ⟨⟨rfl, sz_3, by decide⟩, ⟨rfl, sz_46, by decide⟩, trivial⟩)⟩
def ty_53 : Ty := ⟨(.slc 72 2 true 16 [(.int .i64 0), (.int .i64 0)]), 1, false, [(.slice none 0 0)]⟩
theorem ok_53 : TyOK Try.prog 53 ty_53 := ⟨sz_53, zeroOK_of (by kernel_rfl), ⟨Try.underlying53, sz_72, by kernel_rfl, zeroOK_of (by kernel_rfl), rfl, by decide⟩⟩
def ty_55 : Ty := ⟨.other, 1, false, [.nilFunc]⟩
theorem ok_55 : TyOK Try.prog 55 ty_55 := ⟨sz_55, zeroOK_of (by kernel_rfl), trivial⟩
def ty_56 : Ty := ⟨.other, 1, false, [.nilFunc]⟩
theorem ok_56 : TyOK Try.prog 56 ty_56 := ⟨sz_56, zeroOK_of (by kernel_rfl), trivial⟩
def ty_57 : Ty := ⟨.other, 1, false, [.nilFunc]⟩
theorem ok_57 : TyOK Try.prog 57 ty_57 := ⟨sz_57, zeroOK_of (by kernel_rfl), trivial⟩
def ty_58 : Ty := ⟨(.slc 63 1 false 24 [(.slice none 0 0)]), 1, false, [(.slice none 0 0)]⟩
theorem ok_58 : TyOK Try.prog 58 ty_58 := ⟨sz_58, zeroOK_of (by kernel_rfl), ⟨Try.underlying58, sz_63, by kernel_rfl, zeroOK_of (by kernel_rfl), rfl, by decide⟩⟩
def ty_59 : Ty := ⟨.other, 1, false, [.nilFunc]⟩
theorem ok_59 : TyOK Try.prog 59 ty_59 := ⟨sz_59, zeroOK_of (by kernel_rfl), trivial⟩
def ty_60 : Ty := ⟨.other, 1, false, [.nilFunc]⟩
theorem ok_60 : TyOK Try.prog 60 ty_60 := ⟨sz_60, zeroOK_of (by kernel_rfl), trivial⟩
def ty_61 : Ty := ⟨.other, 1, false, [.nilFunc]⟩
theorem ok_61 : TyOK Try.prog 61 ty_61 := ⟨sz_61, zeroOK_of (by kernel_rfl), trivial⟩
def ty_62 : Ty := ⟨(.arr 2 1 false), 2, true, [(.int .i64 0), (.int .i64 0)]⟩
theorem ok_62 : TyOK Try.prog 62 ty_62 := ⟨sz_62, zeroOK_of (by kernel_rfl), ⟨_, Try.underlying62, sz_3⟩⟩
def ty_63 : Ty := ⟨(.slc 62 2 true 16 [(.int .i64 0), (.int .i64 0)]), 1, false, [(.slice none 0 0)]⟩
theorem ok_63 : TyOK Try.prog 63 ty_63 := ⟨sz_63, zeroOK_of (by kernel_rfl), ⟨Try.underlying63, sz_62, by kernel_rfl, zeroOK_of (by kernel_rfl), rfl, by decide⟩⟩
def ty_64 : Ty := ⟨.other, 1, false, [.nilFunc]⟩
theorem ok_64 : TyOK Try.prog 64 ty_64 := ⟨sz_64, zeroOK_of (by kernel_rfl), trivial⟩
def ty_65 : Ty := ⟨.other, 1, false, [.nilFunc]⟩
theorem ok_65 : TyOK Try.prog 65 ty_65 := ⟨sz_65, zeroOK_of (by kernel_rfl), trivial⟩
def ty_66 : Ty := ⟨.other, 1, false, [.nilFunc]⟩
theorem ok_66 : TyOK Try.prog 66 ty_66 := ⟨sz_66, zeroOK_of (by kernel_rfl), trivial⟩
def ty_67 : Ty := ⟨.other, 1, false, [.nilFunc]⟩
theorem ok_67 : TyOK Try.prog 67 ty_67 := ⟨sz_67, zeroOK_of (by kernel_rfl), trivial⟩
def ty_68 : Ty := ⟨.other, 1, false, [.nilFunc]⟩
theorem ok_68 : TyOK Try.prog 68 ty_68 := ⟨sz_68, zeroOK_of (by kernel_rfl), trivial⟩
def ty_69 : Ty := ⟨.other, 1, false, [.nilFunc]⟩
theorem ok_69 : TyOK Try.prog 69 ty_69 := ⟨sz_69, zeroOK_of (by kernel_rfl), trivial⟩
def ty_70 : Ty := ⟨.other, 1, false, [.nilFunc]⟩
theorem ok_70 : TyOK Try.prog 70 ty_70 := ⟨sz_70, zeroOK_of (by kernel_rfl), trivial⟩
def ty_71 : Ty := ⟨(.strct [(0, 1, false), (1, 1, false)]), 2, true, [(.int .i64 0), (.int .i64 0)]⟩
theorem ok_71 : TyOK Try.prog 71 ty_71 := ⟨sz_71, zeroOK_of (by kernel_rfl), (strct_of Try.underlying71 ⟨⟨rfl, sz_3, by decide⟩, ⟨rfl, sz_3, by decide⟩, trivial⟩)⟩
def ty_72 : Ty := ⟨(.strct [(0, 1, false), (1, 1, false)]), 2, true, [(.int .i64 0), (.int .i64 0)]⟩
theorem ok_72 : TyOK Try.prog 72 ty_72 := ⟨sz_72, zeroOK_of (by kernel_rfl), (strct_of Try.underlying72 ⟨⟨rfl, sz_3, by decide⟩, ⟨rfl, sz_3, by decide⟩, trivial⟩)⟩
def ty_74 : Ty := ⟨.other, 1, false, [.nilFunc]⟩
theorem ok_74 : TyOK Try.prog 74 ty_74 := ⟨sz_74, zeroOK_of (by kernel_rfl), trivial⟩
def ty_75 : Ty := ⟨.other, 1, false, [.nilFunc]⟩
theorem ok_75 : TyOK Try.prog 75 ty_75 := ⟨sz_75, zeroOK_of (by kernel_rfl), trivial⟩
def ty_76 : Ty := ⟨.other, 1, false, [.nilFunc]⟩
theorem ok_76 : TyOK Try.prog 76 ty_76 := ⟨sz_76, zeroOK_of (by kernel_rfl), trivial⟩
def ty_77 : Ty := ⟨.other, 1, false, [.nilFunc]⟩
theorem ok_77 : TyOK Try.prog 77 ty_77 := ⟨sz_77, zeroOK_of (by kernel_rfl), trivial⟩
def ty_78 : Ty := ⟨.other, 1, false, [.nilFunc]⟩
theorem ok_78 : TyOK Try.prog 78 ty_78 := ⟨sz_78, zeroOK_of (by kernel_rfl), trivial⟩
def ty_79 : Ty := ⟨.other, 1, false, [.nilFunc]⟩
theorem ok_79 : TyOK Try.prog 79 ty_79 := ⟨sz_79, zeroOK_of (by kernel_rfl), trivial⟩
def ty_80 : Ty := ⟨.other, 1, false, [.nilFunc]⟩
theorem ok_80 : TyOK Try.prog 80 ty_80 := ⟨sz_80, zeroOK_of (by kernel_rfl), trivial⟩
def ty_81 : Ty := ⟨.other, 1, false, [.nilFunc]⟩
theorem ok_81 : TyOK Try.prog 81 ty_81 := ⟨sz_81, zeroOK_of (by kernel_rfl), trivial⟩
def ty_82 : Ty := ⟨.other, 1, false, [.nilFunc]⟩
theorem ok_82 : TyOK Try.prog 82 ty_82 := ⟨sz_82, zeroOK_of (by kernel_rfl), trivial⟩
def ty_83 : Ty := ⟨.other, 1, false, [.nilFunc]⟩
theorem ok_83 : TyOK Try.prog 83 ty_83 := ⟨sz_83, zeroOK_of (by kernel_rfl), trivial⟩
def ty_84 : Ty := ⟨(.strct [(0, 1, false), (1, 1, false)]), 2, true, [(.int .i64 0), .nilFunc]⟩
theorem ok_84 : TyOK Try.prog 84 ty_84 := ⟨sz_84, zeroOK_of (by kernel_rfl), (strct_of Try.underlying84 ⟨⟨rfl, sz_3, by decide⟩, ⟨rfl, sz_74, by decide⟩, trivial⟩)⟩
def ty_85 : Ty := ⟨(.strct [(0, 1, false), (1, 1, false)]), 2, true, [(.int .i64 0), .nilFunc]⟩
theorem ok_85 : TyOK Try.prog 85 ty_85 := ⟨sz_85, zeroOK_of (by kernel_rfl), (strct_of Try.underlying85 ⟨⟨rfl, sz_3, by decide⟩, ⟨rfl, sz_74, by decide⟩, trivial⟩)⟩
def ty_86 : Ty := ⟨(.slc 85 2 true 16 [(.int .i64 0), .nilFunc]), 1, false, [(.slice none 0 0)]⟩
theorem ok_86 : TyOK Try.prog 86 ty_86 := ⟨sz_86, zeroOK_of (by kernel_rfl), ⟨Try.underlying86, sz_85, by kernel_rfl, zeroOK_of (by kernel_rfl), rfl, by decide⟩⟩
def ty_87 : Ty := ⟨.other, 1, false, [.nilFunc]⟩
theorem ok_87 : TyOK Try.prog 87 ty_87 := ⟨sz_87, zeroOK_of (by kernel_rfl), trivial⟩
def ty_88 : Ty := ⟨.other, 1, false, [.nilFunc]⟩
theorem ok_88 : TyOK Try.prog 88 ty_88 := ⟨sz_88, zeroOK_of (by kernel_rfl), trivial⟩
def ty_89 : Ty := ⟨.other, 1, false, [.nilFunc]⟩
theorem ok_89 : TyOK Try.prog 89 ty_89 := ⟨sz_89, zeroOK_of (by kernel_rfl), trivial⟩
def ty_90 : Ty := ⟨.other, 1, false, [.nilFunc]⟩
theorem ok_90 : TyOK Try.prog 90 ty_90 := ⟨sz_90, zeroOK_of (by kernel_rfl), trivial⟩
def ty_91 : Ty := ⟨.other, 1, false, [.nilFunc]⟩
theorem ok_91 : TyOK Try.prog 91 ty_91 := ⟨sz_91, zeroOK_of (by kernel_rfl), trivial⟩
def ty_92 : Ty := ⟨.other, 1, false, [.nilFunc]⟩
theorem ok_92 : TyOK Try.prog 92 ty_92 := ⟨sz_92, zeroOK_of (by kernel_rfl), trivial⟩
def ty_93 : Ty := ⟨.other, 1, false, [.nilFunc]⟩
theorem ok_93 : TyOK Try.prog 93 ty_93 := ⟨sz_93, zeroOK_of (by kernel_rfl), trivial⟩
def ty_94 : Ty := ⟨.other, 1, false, [.nilFunc]⟩
theorem ok_94 : TyOK Try.prog 94 ty_94 := ⟨sz_94, zeroOK_of (by kernel_rfl), trivial⟩
def ty_95 : Ty := ⟨(.arr 256 1 false), 256, true, [(.bool false), (.bool false), (.bool false), (.bool false), (.bool false), (.bool false), (.bool false), (.bool false), (.bool false), (.bool false), (.bool false), (.bool false), (.bool false), (.bool false), (.bool false), (.bool false), (.bool false), (.bool false), (.bool false), (.bool false), (.bool false), (.bool false), (.bool false), (.bool false), (.bool false), (.bool false), (.bool false), (.bool false), (.bool false), (.bool false), (.bool false), (.bool false), (.bool false), (.bool false), (.bool false), (.bool false), (.bool false), (.bool false), (.bool false), (.bool false), (.bool false), (.bool false), (.bool false), (.bool false), (.bool false), (.bool false), (.bool false), (.bool false), (.bool false), (.bool false), (.bool false), (.bool false), (.bool false), (.bool false), (.bool false), (.bool false), (.bool false), (.bool false), (.bool false), (.bool false), (.bool false), (.bool false), (.bool false), (.bool false), (.bool false), (.bool false), (.bool false), (.bool false), (.bool false), (.bool false), (.bool false), (.bool false), (.bool false), (.bool false), (.bool false), (.bool false), (.bool false), (.bool false), (.bool false), (.bool false), (.bool false), (.bool false), (.bool false), (.bool false), (.bool false), (.bool false), (.bool false), (.bool false), (.bool false), (.bool false), (.bool false), (.bool false), (.bool false), (.bool false), (.bool false), (.bool false), (.bool false), (.bool false), (.bool false), (.bool false), (.bool false), (.bool false), (.bool false), (.bool false), (.bool false), (.bool false), (.bool false), (.bool false), (.bool false), (.bool false), (.bool false), (.bool false), (.bool false), (.bool false), (.bool false), (.bool false), (.bool false), (.bool false), (.bool false), (.bool false), (.bool false), (.bool false), (.bool false), (.bool false), (.bool false), (.bool false), (.bool false), (.bool false), (.bool false), (.bool false), (.bool false), (.bool false), (.bool false), (.bool false), (.bool false), (.bool false), (.bool false), (.bool false), (.bool false), (.bool false), (.bool false), (.bool false), (.bool false), (.bool false), (.bool false), (.bool false), (.bool false), (.bool false), (.bool false), (.bool false), (.bool false), (.bool false), (.bool false), (.bool false), (.bool false), (.bool false), (.bool false), (.bool false), (.bool false), (.bool false), (.bool false), (.bool false), (.bool false), (.bool false), (.bool false), (.bool false), (.bool false), (.bool false), (.bool false), (.bool false), (.bool false), (.bool false), (.bool false), (.bool false), (.bool false), (.bool false), (.bool false), (.bool false), (.bool false), (.bool false), (.bool false), (.bool false), (.bool false), (.bool false), (.bool false), (.bool false), (.bool false), (.bool false), (.bool false), (.bool false), (.bool false), (.bool false), (.bool false), (.bool false), (.bool false), (.bool false), (.bool false), (.bool false), (.bool false), (.bool false), (.bool false), (.bool false), (.bool false), (.bool false), (.bool false), (.bool false), (.bool false), (.bool false), (.bool false), (.bool false), (.bool false), (.bool false), (.bool false), (.bool false), (.bool false), (.bool false), (.bool false), (.bool false), (.bool false), (.bool false), (.bool false), (.bool false), (.bool false), (.bool false), (.bool false), (.bool false), (.bool false), (.bool false), (.bool false), (.bool false), (.bool false), (.bool false), (.bool false), (.bool false), (.bool false), (.bool false), (.bool false), (.bool false), (.bool false), (.bool false), (.bool false), (.bool false), (.bool false), (.bool false), (.bool false), (.bool false), (.bool false), (.bool false), (.bool false), (.bool false), (.bool false), (.bool false), (.bool false), (.bool false), (.bool false), (.bool false)]⟩
theorem ok_95 : TyOK Try.prog 95 ty_95 := ⟨sz_95, zeroOK_of (by kernel_rfl), ⟨_, Try.underlying95, sz_4⟩⟩
def ty_96 : Ty := ⟨(.map 62 3), 1, false, [(.map none)]⟩
theorem ok_96 : TyOK Try.prog 96 ty_96 := ⟨sz_96, zeroOK_of (by kernel_rfl), Try.underlying96⟩
def ty_98 : Ty := ⟨.other, 1, false, [.nilFunc]⟩
theorem ok_98 : TyOK Try.prog 98 ty_98 := ⟨sz_98, zeroOK_of (by kernel_rfl), trivial⟩
def ty_99 : Ty := ⟨(.map 9 4), 1, false, [(.map none)]⟩
theorem ok_99 : TyOK Try.prog 99 ty_99 := ⟨sz_99, zeroOK_of (by kernel_rfl), Try.underlying99⟩
def ty_100 : Ty := ⟨.other, 1, false, [.nilFunc]⟩
theorem ok_100 : TyOK Try.prog 100 ty_100 := ⟨sz_100, zeroOK_of (by kernel_rfl), trivial⟩
def ty_101 : Ty := ⟨.other, 1, false, [.nilFunc]⟩
theorem ok_101 : TyOK Try.prog 101 ty_101 := ⟨sz_101, zeroOK_of (by kernel_rfl), trivial⟩
def ty_102 : Ty := ⟨(.map 3 4), 1, false, [(.map none)]⟩
theorem ok_102 : TyOK Try.prog 102 ty_102 := ⟨sz_102, zeroOK_of (by kernel_rfl), Try.underlying102⟩
def ty_103 : Ty := ⟨.other, 1, false, [.nilFunc]⟩
theorem ok_103 : TyOK Try.prog 103 ty_103 := ⟨sz_103, zeroOK_of (by kernel_rfl), trivial⟩
def ty_104 : Ty := ⟨.other, 1, false, [.nilFunc]⟩
theorem ok_104 : TyOK Try.prog 104 ty_104 := ⟨sz_104, zeroOK_of (by kernel_rfl), trivial⟩
def ty_105 : Ty := ⟨.other, 1, false, [.nilFunc]⟩
theorem ok_105 : TyOK Try.prog 105 ty_105 := ⟨sz_105, zeroOK_of (by kernel_rfl), trivial⟩
def ty_106 : Ty := ⟨.other, 1, false, [.nilFunc]⟩
theorem ok_106 : TyOK Try.prog 106 ty_106 := ⟨sz_106, zeroOK_of (by kernel_rfl), trivial⟩
def ty_107 : Ty := ⟨(.strct [(0, 1, false), (1, 1, false)]), 2, true, [(.int .i64 0), (.int .i64 0)]⟩
theorem ok_107 : TyOK Try.prog 107 ty_107 := ⟨sz_107, zeroOK_of (by kernel_rfl), (strct_of Try.underlying107 ⟨⟨rfl, sz_3, by decide⟩, ⟨rfl, sz_3, by decide⟩, trivial⟩)⟩
def ty_108 : Ty := ⟨(.strct [(0, 1, false), (1, 1, false)]), 2, true, [(.int .i64 0), (.int .i64 0)]⟩
theorem ok_108 : TyOK Try.prog 108 ty_108 := ⟨sz_108, zeroOK_of (by kernel_rfl), (strct_of Try.underlying108 ⟨⟨rfl, sz_3, by decide⟩, ⟨rfl, sz_3, by decide⟩, trivial⟩)⟩
def ty_109 : Ty := ⟨.other, 1, false, [.nilFunc]⟩
theorem ok_109 : TyOK Try.prog 109 ty_109 := ⟨sz_109, zeroOK_of (by kernel_rfl), trivial⟩
def ty_110 : Ty := ⟨.other, 1, false, [.nilFunc]⟩
theorem ok_110 : TyOK Try.prog 110 ty_110 := ⟨sz_110, zeroOK_of (by kernel_rfl), trivial⟩
def ty_111 : Ty := ⟨(.strct [(0, 1, false), (1, 1, false)]), 2, true, [(.slice none 0 0), (.slice none 0 0)]⟩
theorem ok_111 : TyOK Try.prog 111 ty_111 := ⟨sz_111, zeroOK_of (by kernel_rfl), (strct_of Try.underlying111 ⟨⟨rfl, sz_46, by decide⟩, ⟨rfl, sz_26, by decide⟩, trivial⟩)⟩
def ty_112 : Ty := ⟨(.strct [(0, 1, false), (1, 1, false)]), 2, true, [(.slice none 0 0), (.slice none 0 0)]⟩
theorem ok_112 : TyOK Try.prog 112 ty_112 := ⟨sz_112, zeroOK_of (by kernel_rfl), (strct_of Try.underlying112 ⟨⟨rfl, sz_46, by decide⟩, ⟨rfl, sz_26, by decide⟩, trivial⟩)⟩
def ty_113 : Ty := ⟨.other, 1, false, [.nilFunc]⟩
theorem ok_113 : TyOK Try.prog 113 ty_113 := ⟨sz_113, zeroOK_of (by kernel_rfl), trivial⟩
def ty_114 : Ty := ⟨.other, 1, false, [.nilFunc]⟩
theorem ok_114 : TyOK Try.prog 114 ty_114 := ⟨sz_114, zeroOK_of (by kernel_rfl), trivial⟩
def ty_115 : Ty := ⟨.other, 1, false, [.nilFunc]⟩
theorem ok_115 : TyOK Try.prog 115 ty_115 := ⟨sz_115, zeroOK_of (by kernel_rfl), trivial⟩
def ty_116 : Ty := ⟨.other, 1, false, [.nilFunc]⟩
theorem ok_116 : TyOK Try.prog 116 ty_116 := ⟨sz_116, zeroOK_of (by kernel_rfl), trivial⟩
def ty_117 : Ty := ⟨.other, 1, false, [.nilFunc]⟩
theorem ok_117 : TyOK Try.prog 117 ty_117 := ⟨sz_117, zeroOK_of (by kernel_rfl), trivial⟩
def ty_118 : Ty := ⟨.other, 1, false, [.nilFunc]⟩
theorem ok_118 : TyOK Try.prog 118 ty_118 := ⟨sz_118, zeroOK_of (by kernel_rfl), trivial⟩
def ty_119 : Ty := ⟨.other, 1, false, [.nilFunc]⟩
theorem ok_119 : TyOK Try.prog 119 ty_119 := ⟨sz_119, zeroOK_of (by kernel_rfl), trivial⟩
def ty_120 : Ty := ⟨(.arr 3 1 false), 3, true, [(.int .i64 0), (.int .i64 0), (.int .i64 0)]⟩
theorem ok_120 : TyOK Try.prog 120 ty_120 := ⟨sz_120, zeroOK_of (by kernel_rfl), ⟨_, Try.underlying120, sz_3⟩⟩
def ty_121 : Ty := ⟨.other, 1, false, [.nilFunc]⟩
theorem ok_121 : TyOK Try.prog 121 ty_121 := ⟨sz_121, zeroOK_of (by kernel_rfl), trivial⟩
def ty_122 : Ty := ⟨.other, 1, false, [.nilFunc]⟩
theorem ok_122 : TyOK Try.prog 122 ty_122 := ⟨sz_122, zeroOK_of (by kernel_rfl), trivial⟩
def ty_123 : Ty := ⟨.other, 1, false, [.nilFunc]⟩
theorem ok_123 : TyOK Try.prog 123 ty_123 := ⟨sz_123, zeroOK_of (by kernel_rfl), trivial⟩
def ty_124 : Ty := ⟨(.slc 4 1 false 1 [(.bool false)]), 1, false, [(.slice none 0 0)]⟩
theorem ok_124 : TyOK Try.prog 124 ty_124 := ⟨sz_124, zeroOK_of (by kernel_rfl), ⟨Try.underlying124, sz_4, by kernel_rfl, zeroOK_of (by kernel_rfl), rfl, by decide⟩⟩
def ty_125 : Ty := ⟨.other, 1, false, [.nilFunc]⟩
theorem ok_125 : TyOK Try.prog 125 ty_125 := ⟨sz_125, zeroOK_of (by kernel_rfl), trivial⟩
def ty_126 : Ty := ⟨(.strct [(0, 1, false), (1, 1, false), (2, 1, false), (3, 1, false)]), 4, true, [(.pointer none), (.pointer none), (.pointer none), (.string ByteArray.empty)]⟩
theorem ok_126 : TyOK Try.prog 126 ty_126 := ⟨sz_126, zeroOK_of (by kernel_rfl), (strct_of Try.underlying126 ⟨⟨rfl, sz_17, by decide⟩, ⟨rfl, sz_17, by decide⟩, ⟨rfl, sz_17, by decide⟩, ⟨rfl, sz_9, by decide⟩, trivial⟩)⟩
def ty_127 : Ty := ⟨(.strct [(0, 1, false), (1, 1, false), (2, 1, false), (3, 1, false)]), 4, true, [(.pointer none), (.pointer none), (.pointer none), (.string ByteArray.empty)]⟩
theorem ok_127 : TyOK Try.prog 127 ty_127 := ⟨sz_127, zeroOK_of (by kernel_rfl), (strct_of Try.underlying127 ⟨⟨rfl, sz_17, by decide⟩, ⟨rfl, sz_17, by decide⟩, ⟨rfl, sz_17, by decide⟩, ⟨rfl, sz_9, by decide⟩, trivial⟩)⟩
def ty_131 : Ty := ⟨.other, 1, false, [.nilFunc]⟩
theorem ok_131 : TyOK Try.prog 131 ty_131 := ⟨sz_131, zeroOK_of (by kernel_rfl), trivial⟩
def ty_132 : Ty := ⟨(.int .u32), 1, false, [(.int .u32 0)]⟩
theorem ok_132 : TyOK Try.prog 132 ty_132 := ⟨sz_132, zeroOK_of (by kernel_rfl), Try.underlying132⟩
def ty_133 : Ty := ⟨(.int .u8), 1, false, [(.int .u8 0)]⟩
theorem ok_133 : TyOK Try.prog 133 ty_133 := ⟨sz_133, zeroOK_of (by kernel_rfl), Try.underlying133⟩
def ty_134 : Ty := ⟨(.int .u8), 1, false, [(.int .u8 0)]⟩
theorem ok_134 : TyOK Try.prog 134 ty_134 := ⟨sz_134, zeroOK_of (by kernel_rfl), Try.underlying134⟩
def ty_135 : Ty := ⟨.other, 1, false, [.nilFunc]⟩
theorem ok_135 : TyOK Try.prog 135 ty_135 := ⟨sz_135, zeroOK_of (by kernel_rfl), trivial⟩
def ty_136 : Ty := ⟨.other, 1, false, [(.pointer none)]⟩
theorem ok_136 : TyOK Try.prog 136 ty_136 := ⟨sz_136, zeroOK_of (by kernel_rfl), trivial⟩
def ty_137 : Ty := ⟨(.int .i32), 1, false, [(.int .i32 0)]⟩
theorem ok_137 : TyOK Try.prog 137 ty_137 := ⟨sz_137, zeroOK_of (by kernel_rfl), Try.underlying137⟩
def ty_138 : Ty := ⟨(.int .i32), 1, false, [(.int .i32 0)]⟩
theorem ok_138 : TyOK Try.prog 138 ty_138 := ⟨sz_138, zeroOK_of (by kernel_rfl), Try.underlying138⟩
def ty_139 : Ty := ⟨(.strct [(0, 1, false), (1, 1, false), (2, 1, false), (3, 1, false), (4, 1, false), (5, 1, false), (6, 1, false), (7, 1, false), (8, 1, false), (9, 1, false), (10, 1, false)]), 11, true, [(.int .u64 0), (.int .u64 0), (.int .u32 0), (.int .u8 0), (.int .u8 0), (.int .u8 0), (.int .u8 0), .nilFunc, (.pointer none), (.int .i32 0), (.int .i32 0)]⟩
theorem ok_139 : TyOK Try.prog 139 ty_139 := ⟨sz_139, zeroOK_of (by kernel_rfl), (strct_of Try.underlying139 ⟨⟨rfl, sz_12, by decide⟩, ⟨rfl, sz_12, by decide⟩, ⟨rfl, sz_132, by decide⟩, ⟨rfl, sz_133, by decide⟩, ⟨rfl, sz_5, by decide⟩, ⟨rfl, sz_5, by decide⟩, ⟨rfl, sz_134, by decide⟩, ⟨rfl, sz_135, by decide⟩, ⟨rfl, sz_136, by decide⟩, ⟨rfl, sz_137, by decide⟩, ⟨rfl, sz_138, by decide⟩, trivial⟩)⟩
def ty_140 : Ty := ⟨(.strct [(0, 1, false), (1, 1, false), (2, 1, false), (3, 1, false), (4, 1, false), (5, 1, false), (6, 1, false), (7, 1, false), (8, 1, false), (9, 1, false), (10, 1, false)]), 11, true, [(.int .u64 0), (.int .u64 0), (.int .u32 0), (.int .u8 0), (.int .u8 0), (.int .u8 0), (.int .u8 0), .nilFunc, (.pointer none), (.int .i32 0), (.int .i32 0)]⟩
theorem ok_140 : TyOK Try.prog 140 ty_140 := ⟨sz_140, zeroOK_of (by kernel_rfl), (strct_of Try.underlying140 ⟨⟨rfl, sz_12, by decide⟩, ⟨rfl, sz_12, by decide⟩, ⟨rfl, sz_132, by decide⟩, ⟨rfl, sz_133, by decide⟩, ⟨rfl, sz_5, by decide⟩, ⟨rfl, sz_5, by decide⟩, ⟨rfl, sz_134, by decide⟩, ⟨rfl, sz_135, by decide⟩, ⟨rfl, sz_136, by decide⟩, ⟨rfl, sz_137, by decide⟩, ⟨rfl, sz_138, by decide⟩, trivial⟩)⟩
def ty_141 : Ty := ⟨.other, 1, false, [(.pointer none)]⟩
theorem ok_141 : TyOK Try.prog 141 ty_141 := ⟨sz_141, zeroOK_of (by kernel_rfl), trivial⟩
def TT : Nat → Option Ty := tlook [(1, ty_1), (2, ty_2), (3, ty_3), (4, ty_4), (5, ty_5), (6, ty_6), (7, ty_7), (8, ty_8), (9, ty_9), (10, ty_10), (11, ty_11), (12, ty_12), (13, ty_13), (14, ty_14), (15, ty_15), (16, ty_16), (17, ty_17), (18, ty_18), (19, ty_19), (20, ty_20), (21, ty_21), (22, ty_22), (23, ty_23), (24, ty_24), (25, ty_25), (26, ty_26), (27, ty_27), (28, ty_28), (29, ty_29), (30, ty_30), (31, ty_31), (32, ty_32), (33, ty_33), (35, ty_35), (36, ty_36), (37, ty_37), (39, ty_39), (40, ty_40), (41, ty_41), (42, ty_42), (43, ty_43), (44, ty_44), (45, ty_45), (46, ty_46), (47, ty_47), (48, ty_48), (49, ty_49), (50, ty_50), (51, ty_51), (52, ty_52), (53, ty_53), (55, ty_55), (56, ty_56), (57, ty_57), (58, ty_58), (59, ty_59), (60, ty_60), (61, ty_61), (62, ty_62), (63, ty_63), (64, ty_64), (65, ty_65), (66, ty_66), (67, ty_67), (68, ty_68), (69, ty_69), (70, ty_70), (71, ty_71), (72, ty_72), (74, ty_74), (75, ty_75), (76, ty_76), (77, ty_77), (78, ty_78), (79, ty_79), (80, ty_80), (81, ty_81), (82, ty_82), (83, ty_83), (84, ty_84), (85, ty_85), (86, ty_86), (87, ty_87), (88, ty_88), (89, ty_89), (90, ty_90), (91, ty_91), (92, ty_92), (93, ty_93), (94, ty_94), (95, ty_95), (96, ty_96), (98, ty_98), (99, ty_99), (100, ty_100), (101, ty_101), (102, ty_102), (103, ty_103), (104, ty_104), (105, ty_105), (106, ty_106), (107, ty_107), (108, ty_108), (109, ty_109), (110, ty_110), (111, ty_111), (112, ty_112), (113, ty_113), (114, ty_114), (115, ty_115), (116, ty_116), (117, ty_117), (118, ty_118), (119, ty_119), (120, ty_120), (121, ty_121), (122, ty_122), (123, ty_123), (124, ty_124), (125, ty_125), (126, ty_126), (127, ty_127), (131, ty_131), (132, ty_132), (133, ty_133), (134, ty_134), (135, ty_135), (136, ty_136), (137, ty_137), (138, ty_138), (139, ty_139), (140, ty_140), (141, ty_141)]
theorem tok : TOK Try.prog TT := tok_of ⟨ok_1, ok_2, ok_3, ok_4, ok_5, ok_6, ok_7, ok_8, ok_9, ok_10, ok_11, ok_12, ok_13, ok_14, ok_15, ok_16, ok_17, ok_18, ok_19, ok_20, ok_21, ok_22, ok_23, ok_24, ok_25, ok_26, ok_27, ok_28, ok_29, ok_30, ok_31, ok_32, ok_33, ok_35, ok_36, ok_37, ok_39, ok_40, ok_41, ok_42, ok_43, ok_44, ok_45, ok_46, ok_47, ok_48, ok_49, ok_50, ok_51, ok_52, ok_53, ok_55, ok_56, ok_57, ok_58, ok_59, ok_60, ok_61, ok_62, ok_63, ok_64, ok_65, ok_66, ok_67, ok_68, ok_69, ok_70, ok_71, ok_72, ok_74, ok_75, ok_76, ok_77, ok_78, ok_79, ok_80, ok_81, ok_82, ok_83, ok_84, ok_85, ok_86, ok_87, ok_88, ok_89, ok_90, ok_91, ok_92, ok_93, ok_94, ok_95, ok_96, ok_98, ok_99, ok_100, ok_101, ok_102, ok_103, ok_104, ok_105, ok_106, ok_107, ok_108, ok_109, ok_110, ok_111, ok_112, ok_113, ok_114, ok_115, ok_116, ok_117, ok_118, ok_119, ok_120, ok_121, ok_122, ok_123, ok_124, ok_125, ok_126, ok_127, ok_131, ok_132, ok_133, ok_134, ok_135, ok_136, ok_137, ok_138, ok_139, ok_140, ok_141, trivial⟩
theorem mixed : Try.prog.follows .mixedOrders = true := by kernel_rfl
end Go.Proofs.Ytenajilnjeafpaa
set_option linter.unusedVariables false
namespace Go.Proofs.Ytenajilnjeafpaa
open Go.RowKit
variable {N : Nat} {ops : Array Oper} {lf : Oper → Bool} {Q : SS → Prop} {t : List (Nat × AV)} {h : List (Nat × Option LObj)} {rest : List Oper} {d : Nat} {op : Op} {ty : TypeId} {pos : String} {af : Array Edge} {gd : Option (Nat × Bool)} {r : AV}
theorem zI {z : Int} (k : Lex Try.prog N ops lf Q rest (S ((d, .v (.int .i64 z)) :: t) h)) (hr : stepC TT t h op ty = some (.v (.int .i64 (IntKind.i64.wrap z))) := by rfl) (h0 : -9223372036854775808 ≤ z ∧ z ≤ 9223372036854775807 := by constructor <;> omega) (hw : wantedF ops (look t) ⟨some d, op, ty, pos, af, gd⟩ = some true := by rfl) (hd : Nat.blt d N = true := by rfl) : Lex Try.prog N ops lf Q (⟨some d, op, ty, pos, af, gd⟩ :: rest) (S t h) := L_int tok hr h0 hw hd k
theorem zL {ti e es eb sz z : Nat} {ea ag : Bool} {ez z0 : List Value} {x : Operand} {α : Type} {f : α → List AV} {l : List α} (k : Lex Try.prog N ops lf Q rest (S ((d, .v (.int .i64 l.length)) :: t) h)) (hk : TT ti = some ⟨.slc e es ea eb ez, sz, ag, z0⟩ := by rfl) (hx : evF (look t) x = some (.sl z (l.map f)) := by rfl) (hw : wantedF ops (look t) ⟨some d, .call { callee := .builtin .len, args := #[x], argTypes := #[ti] }, ty, pos, af, gd⟩ = some true := by rfl) (hd : Nat.blt d N = true := by rfl) : Lex Try.prog N ops lf Q (⟨some d, .call { callee := .builtin .len, args := #[x], argTypes := #[ti] }, ty, pos, af, gd⟩ :: rest) (S t h) := L_lenMap tok hk hx hw hd k
theorem zC  (k : Lex Try.prog N ops lf Q rest (S ((d, r) :: t) h)) (hr : stepC TT t h op ty = some r := by rfl) (hw : wantedF ops (look t) ⟨some d, op, ty, pos, af, gd⟩ = some true := by rfl) (hd : Nat.blt d N = true := by rfl) : Lex Try.prog N ops lf Q (⟨some d, op, ty, pos, af, gd⟩ :: rest) (S t h) := L_calm tok hr hw hd k
theorem zK (k : Lex Try.prog N ops lf Q rest (S ((d, .v undef) :: t) h)) (hw : wantedF ops (look t) ⟨some d, op, ty, pos, af, gd⟩ = some false := by rfl) (hd : Nat.blt d N = true := by rfl) : Lex Try.prog N ops lf Q (⟨some d, op, ty, pos, af, gd⟩ :: rest) (S t h) := L_skip hw hd k
theorem zB {elem : TypeId} {x : Operand} {y : AV} {cs : List AV} (k : Lex Try.prog N ops lf Q rest (S ((d, .lp d 0) :: t) ((d, some (.cells cs)) :: h))) (hx : evF (look t) x = some y := by rfl) (hcs : cellsC y = some cs := by rfl) (h1 : freshT d t = true := by rfl) (h2 : freshH d h = true := by rfl) (hm : ment.mentL d cs = false := by rfl) (hl : lf ⟨some d, .box elem x, ty, pos, af, gd⟩ = true := by rfl) (hw : wantedF ops (look t) ⟨some d, .box elem x, ty, pos, af, gd⟩ = some true := by rfl) (hd : Nat.blt d N = true := by rfl) : Lex Try.prog N ops lf Q (⟨some d, .box elem x, ty, pos, af, gd⟩ :: rest) (S t h) := L_box hx hcs h1 h2 hm hl hw hd k
theorem zA {elem : TypeId} {y : Ty} (k : Lex Try.prog N ops lf Q rest (S ((d, .lp d 0) :: t) ((d, some (.cells (vMap y.zero))) :: h))) (hy : TT elem = some y := by rfl) (hone : y.zero.all Value.oneCell' = true := by rfl) (h1 : freshT d t = true := by rfl) (h2 : freshH d h = true := by rfl) (hl : lf ⟨some d, .alloc elem, ty, pos, af, gd⟩ = true := by rfl) (hw : wantedF ops (look t) ⟨some d, .alloc elem, ty, pos, af, gd⟩ = some true := by rfl) (hd : Nat.blt d N = true := by rfl) : Lex Try.prog N ops lf Q (⟨some d, .alloc elem, ty, pos, af, gd⟩ :: rest) (S t h) := L_alloc tok hy hone h1 h2 hl hw hd k
theorem zS {ti : Nat} {y : Ty} {x v : Operand} {id off : Nat} {xs cs ys : List AV} {u : AV} (k : Lex Try.prog N ops lf Q rest (S t ((id, some (.cells ys)) :: h))) (hy : TT ti = some y := by rfl) (hx : evF (look t) x = some (.lp id off) := by rfl) (hv : evF (look t) v = some u := by rfl) (hcs : cellsC u = some cs := by rfl) (hcl : Nat.beq cs.length y.size = true := by rfl) (hh : hlook h id = some (.cells xs) := by rfl) (hsp : spliceN off cs xs = some ys := by rfl) (hl : lf ⟨none, .store ti x v, ty, pos, af, gd⟩ = true := by rfl) (hw : wantedF ops (look t) ⟨none, .store ti x v, ty, pos, af, gd⟩ = some true := by rfl) : Lex Try.prog N ops lf Q (⟨none, .store ti x v, ty, pos, af, gd⟩ :: rest) (S t h) := L_store tok hy hx hv hcs hcl hh hsp hl hw k
theorem zU {ti : Nat} {y : Ty} {parts : List (Nat × Operand)} {ps : List (Nat × AV)} (k : Lex Try.prog N ops lf Q rest (S ((d, r) :: t) h)) (hy : TT ti = some y := by rfl) (hone : y.zero.all Value.oneCell' = true := by rfl) (hps : evP (evF (look t)) parts = some ps := by rfl) (hr : buildC TT ti ps = some r := by rfl) (hw : wantedF ops (look t) ⟨some d, .build ti parts.toArray, ty, pos, af, gd⟩ = some true := by rfl) (hd : Nat.blt d N = true := by rfl) : Lex Try.prog N ops lf Q (⟨some d, .build ti parts.toArray, ty, pos, af, gd⟩ :: rest) (S t h) := L_build tok hy hone hps hr hw hd k
theorem zV {ti e es eb sz len : Nat} {ea ag : Bool} {ez z : List Value} {parts : List (Nat × Operand)} {ps : List (Nat × AV)} {ys : List AV} {rows : List (List AV)} (k : Lex Try.prog N ops lf Q rest (S ((d, .sl es rows) :: t) h)) (hk : TT ti = some ⟨.slc e es ea eb ez, sz, ag, z⟩ := by rfl) (hone : ez.all Value.oneCell' = true := by rfl) (hps : evP (evF (look t)) parts = some ps := by rfl) (hf : fillA (fun i => some (i * es, es)) (repA len (vMap ez)) ps = some ys := by rfl) (hpu : pureA.pureL ys = true := by rfl) (hch : chunkA es len ys = some rows := by rfl) (hlim : Nat.ble (len * es) 16777216 = true := by rfl) (hw : wantedF ops (look t) ⟨some d, .buildSlice ti len parts.toArray, ty, pos, af, gd⟩ = some true := by rfl) (hd : Nat.blt d N = true := by rfl) : Lex Try.prog N ops lf Q (⟨some d, .buildSlice ti len parts.toArray, ty, pos, af, gd⟩ :: rest) (S t h) := L_buildSlice tok hk hone hps hf hpu hch hlim hw hd k
theorem zF {f : Nat} {caps : List Operand} {xs : List AV} (k : Lex Try.prog N ops lf Q rest (S ((d, .fn f xs) :: t) h)) (hx : evL (evF (look t)) caps = some xs := by rfl) (hw : wantedF ops (look t) ⟨some d, .makeFunc (.func f) #[] caps.toArray, ty, pos, af, gd⟩ = some true := by rfl) (hd : Nat.blt d N = true := by rfl) : Lex Try.prog N ops lf Q (⟨some d, .makeFunc (.func f) #[] caps.toArray, ty, pos, af, gd⟩ :: rest) (S t h) := L_makeFunc hx hw hd k
theorem zX {ti e es eb sz : Nat} {ea ag : Bool} {ez z : List Value} {x y : Operand} {ki : IntKind} {i : Int} {rows : List (List AV)} {row : List AV} (k : Lex Try.prog N ops lf Q rest (S ((d, .dp row 0) :: t) h)) (hk : TT ti = some ⟨.slc e es ea eb ez, sz, ag, z⟩ := by rfl) (hx : evF (look t) x = some (.sl es rows) := by rfl) (hy : evF (look t) y = some (.v (.int ki i)) := by rfl) (h0 : 0 ≤ i := by omega) (hrow : rows[i.toNat]? = some row := by first | exact row_map (by assumption) | exact row_mapI (by assumption)) (hw : wantedF ops (look t) ⟨some d, .indexAddr ti x y, ty, pos, af, gd⟩ = some true := by rfl) (hd : Nat.blt d N = true := by rfl) : Lex Try.prog N ops lf Q (⟨some d, .indexAddr ti x y, ty, pos, af, gd⟩ :: rest) (S t h) := L_index tok hk hx hy h0 hrow hw hd k
theorem zR {Q : Exit → SS → Prop} {s : SS} {id : Nat} {l : List Oper} (k : Lex Try.prog N l.toArray lfT (Q .normal) l s) (hn : noDefer l = true := by rfl) : A Try.prog N (.region id l.toArray false) Q s := A_region (lf := lfT) hn k
theorem zD {Q : Exit → SS → Prop} {s : SS} {id : Nat} {l : List Oper} (k : Lex Try.prog N l.toArray lf0 (Q .normal) l s) (hB : chkOps lf0 l = true := by kernel_rfl) (hD : dstsOk N l = true := by rfl) : A Try.prog N (.region id l.toArray true) Q s := A_region_drawn (lf := lf0) mixed hB hD k
theorem zT {Q : Exit → SS → Prop} {s : SS} {c : Operand} {x y : Code} (k : A Try.prog N x Q s) (hc : evF s.t c = some (.v (.bool true)) := by rfl) : A Try.prog N (.cond c x y) Q s := A_cond hc (fun _ => k) (fun e => by cases e)
theorem zE {Q : Exit → SS → Prop} {s : SS} {c : Operand} {x y : Code} (k : A Try.prog N y Q s) (hc : evF s.t c = some (.v (.bool false)) := by rfl) : A Try.prog N (.cond c x y) Q s := A_cond hc (fun e => by cases e) (fun _ => k)
end Go.Proofs.Ytenajilnjeafpaa
set_option linter.unusedVariables false
namespace Go.Proofs.Ytenajilnjeafpaa
open Go.RowKit

/-- A link: the neighbour and the weight. -/
abbrev Lk := Int × Int
structure GraphD where
  ids : List Int
  ports : List (List Lk)
def GraphD.n (g : GraphD) : Nat := g.ports.length

def linkB (n v : Nat) (l : Lk) : Bool := decide (0 ≤ l.1) && (decide (l.1 < n) && (!(l.1 == (v : Int)) && (decide (1 ≤ l.2) && decide (l.2 ≤ 15))))
theorem linkB_iff (n v : Nat) (l : Lk) : linkB n v l = true ↔ 0 ≤ l.1 ∧ l.1 < n ∧ l.1 ≠ v ∧ 1 ≤ l.2 ∧ l.2 ≤ 15 := by
  unfold linkB
  simp
def linksB (n v : Nat) (ls : List Lk) : Bool := ls.all (linkB n v) && decide ((ls.map (·.1)).Nodup)
def idB (x : Int) : Bool := decide (0 ≤ x) && decide (x ≤ 255)
def idsB (l : List Int) : Bool := l.all idB && decide l.Nodup
/-- The weight of the link to a node; 0 if there is none. -/
def weightTo (ls : List Lk) (u : Int) : Int := match ls.find? (fun l => l.1 == u) with | some l => l.2 | none => 0
def portsB (ports : List (List Lk)) : Bool := (List.range ports.length).all fun v => linksB ports.length v (ports.getD v [])
def symB (ports : List (List Lk)) : Bool := (List.range ports.length).all fun v => (ports.getD v []).all fun l => weightTo (ports.getD l.1.toNat []) v == l.2
/-- A valid graph. -/
def validG (g : GraphD) : Bool := decide (1 ≤ g.ports.length) && (decide (g.ports.length ≤ 24) && (decide (g.ids.length = g.ports.length) && (idsB g.ids && (portsB g.ports && symB g.ports))))

theorem pigeon (n : Nat) : ∀ l : List Nat, l.Nodup → (∀ x ∈ l, x < n) → l.length ≤ n := by
  induction n with
  | zero =>
    intro l _ h
    cases l with
    | nil => simp
    | cons a l => exact absurd (h a (by simp)) (by omega)
  | succ n ih =>
    intro l hn h
    by_cases hm : n ∈ l
    · have h1 := ih (l.erase n) (hn.erase n) (fun x hx => by
        have h2 := h x (List.mem_of_mem_erase hx)
        have h3 : x ≠ n := fun e => by rw [e] at hx; exact (List.Nodup.not_mem_erase hn) hx
        omega)
      rw [List.length_erase_of_mem hm] at h1
      omega
    · have := ih l hn (fun x hx => by have h2 := h x hx; have h3 : x ≠ n := fun e => hm (e ▸ hx); omega)
      omega
theorem nodup_map_inj {α β : Type} (f : α → β) : ∀ l : List α, l.Nodup → (∀ x ∈ l, ∀ y ∈ l, f x = f y → x = y) → (l.map f).Nodup := by
  intro l
  induction l with
  | nil => intro _ _; simp
  | cons a l ih =>
    intro hn hf
    rw [List.map_cons, List.nodup_cons] at *
    refine ⟨fun h => ?_, ih hn.2 fun x hx y hy h => hf x (by simp [hx]) y (by simp [hy]) h⟩
    rw [List.mem_map] at h
    obtain ⟨b, hb, he⟩ := h
    exact hn.1 (hf b (by simp [hb]) a (by simp) he ▸ hb)
/-- A node of a valid graph has fewer ports than there are nodes. -/
theorem links_short {n v : Nat} {ls : List Lk} (hv : v < n) (h : linksB n v ls = true) : ls.length < n := by
  unfold linksB at h
  rw [Bool.and_eq_true, decide_eq_true_eq, List.all_eq_true] at h
  obtain ⟨h1, h2⟩ := h
  have hb : ∀ x : Int, x ∈ ls.map (·.1) → 0 ≤ x ∧ x < n ∧ x ≠ v := by
    intro x hx
    rw [List.mem_map] at hx
    obtain ⟨l, hl, rfl⟩ := hx
    have := (linkB_iff n v l).1 (h1 l hl)
    exact ⟨this.1, this.2.1, this.2.2.1⟩
  have h3 : ((ls.map (·.1)).map Int.toNat).Nodup := nodup_map_inj Int.toNat _ h2 fun x hx y hy he => by
    have hx' := hb x hx
    have hy' := hb y hy
    omega
  have h4 := pigeon n (v :: (ls.map (·.1)).map Int.toNat) (by
    rw [List.nodup_cons]
    refine ⟨fun hm => ?_, h3⟩
    rw [List.mem_map] at hm
    obtain ⟨x, hx, he⟩ := hm
    have := hb x hx
    omega) (fun x hx => by
      rcases List.mem_cons.1 hx with rfl | hx
      · exact hv
      · rw [List.mem_map] at hx
        obtain ⟨y, hy, rfl⟩ := hx
        have := hb y hy
        omega)
  simp at h4
  omega
theorem valid_facts {g : GraphD} (h : validG g = true) : 1 ≤ g.ports.length ∧ g.ports.length ≤ 24 ∧ g.ids.length = g.ports.length ∧ (∀ x ∈ g.ids, 0 ≤ x ∧ x ≤ 255) ∧ g.ids.Nodup ∧
    (∀ (v : Nat) (ls : List Lk), g.ports[v]? = some ls → linksB g.ports.length v ls = true) ∧ (∀ (v : Nat) (ls : List Lk), g.ports[v]? = some ls → ∀ l ∈ ls, weightTo (g.ports.getD l.1.toNat []) v = l.2) := by
  unfold validG at h
  simp only [Bool.and_eq_true, decide_eq_true_eq] at h
  obtain ⟨h1, h2, h3, h4, h5, h6⟩ := h
  unfold idsB at h4
  simp only [Bool.and_eq_true, decide_eq_true_eq, List.all_eq_true, idB] at h4
  refine ⟨h1, h2, h3, h4.1, h4.2, fun v ls hv => ?_, fun v ls hv l hl => ?_⟩
  · have hlt := (List.getElem?_eq_some_iff.1 hv).1
    have := List.all_eq_true.1 h5 v (List.mem_range.2 hlt)
    rw [List.getD_eq_getElem?_getD, hv] at this
    exact this
  · have hlt := (List.getElem?_eq_some_iff.1 hv).1
    have := List.all_eq_true.1 h6 v (List.mem_range.2 hlt)
    rw [List.getD_eq_getElem?_getD, hv] at this
    have := List.all_eq_true.1 this l hl
    simpa using this
end Go.Proofs.Ytenajilnjeafpaa

set_option linter.unusedVariables false
namespace Go.Proofs.Ytenajilnjeafpaa

theorem idsB_bad {l : List Int} {k : Nat} {x : Int} (hx : l[k]? = some x) (h : idB x = false) : idsB l = false := by
  unfold idsB
  rw [List.all_eq_false.2 ⟨x, List.mem_of_getElem? hx, by simp [h]⟩]; rfl
theorem idsB_twice {l : List Int} {k : Nat} {x : Int} (hx : l[k]? = some x) (h : x ∈ l.take k) : idsB l = false := by
  unfold idsB
  have : ¬ l.Nodup := by
    intro hn
    obtain ⟨j, hj⟩ := List.getElem?_of_mem h
    rw [List.getElem?_take] at hj
    split at hj
    · rename_i hjk
      have h1 := List.getElem?_eq_some_iff.1 hj
      have h2 := List.getElem?_eq_some_iff.1 hx
      have := (List.pairwise_iff_getElem.1 hn) j k h1.1 h2.1 hjk
      rw [h1.2, h2.2] at this
      exact this rfl
    · cases hj
  simp [this]
theorem idsB_iff (l : List Int) : idsB l = true ↔ (∀ x ∈ l, idB x = true) ∧ l.Nodup := by
  unfold idsB; rw [Bool.and_eq_true, decide_eq_true_eq, List.all_eq_true]
theorem take_next {α : Type} {l : List α} {k : Nat} {x : α} (hx : l[k]? = some x) : l.take (k + 1) = l.take k ++ [x] := by
  rw [List.take_add_one, hx]; rfl
theorem idsB_step {l : List Int} {k : Nat} {x : Int} (hx : l[k]? = some x) (h : idsB (l.take k) = true) (h1 : idB x = true) (h2 : x ∉ l.take k) : idsB (l.take (k + 1)) = true := by
  rw [idsB_iff] at *
  rw [take_next hx]
  refine ⟨fun y hy => ?_, ?_⟩
  · rcases List.mem_append.1 hy with hy | hy
    · exact h.1 y hy
    · simp at hy; subst hy; exact h1
  · rw [List.nodup_append]
    exact ⟨h.2, by simp, fun a ha b hb => by simp at hb; subst hb; exact fun e => h2 (e ▸ ha)⟩
/-- Which numbers have been met. -/
def bits (l : List Int) : List Bool := (List.range 256).map fun i : Nat => decide ((i : Int) ∈ l)
theorem bits_nil : bits [] = List.replicate 256 false := by
  unfold bits
  rw [show (fun i : Nat => decide ((i : Int) ∈ ([] : List Int))) = fun _ => false from by funext i; simp, List.map_const', List.length_range]
theorem bits_len (l : List Int) : (bits l).length = 256 := by simp [bits]
theorem bits_get (l : List Int) (x : Int) (h0 : 0 ≤ x) (h1 : x ≤ 255) : (bits l)[x.toNat]? = some (decide (x ∈ l)) := by
  unfold bits
  rw [List.getElem?_map, List.getElem?_range (by omega)]
  have : ((x.toNat : Nat) : Int) = x := by omega
  simp [this]
theorem bits_set (l : List Int) (x : Int) (h0 : 0 ≤ x) (h1 : x ≤ 255) : (bits l).set x.toNat true = bits (l ++ [x]) := by
  apply List.ext_getElem
  · simp [bits]
  · intro i h2 h3
    have hx : ((x.toNat : Nat) : Int) = x := by omega
    rw [List.getElem_set]
    unfold bits
    simp only [List.getElem_map, List.getElem_range, List.mem_append, List.mem_singleton]
    by_cases hi : x.toNat = i
    · subst hi
      simp [hx]
    · have : ¬ ((i : Nat) : Int) = x := by omega
      simp [hi, this]
end Go.Proofs.Ytenajilnjeafpaa
namespace Go.Proofs.Ytenajilnjeafpaa
theorem linksB_iff (n v : Nat) (l : List Lk) : linksB n v l = true ↔ (∀ x ∈ l, linkB n v x = true) ∧ (l.map (·.1)).Nodup := by
  unfold linksB; rw [Bool.and_eq_true, decide_eq_true_eq, List.all_eq_true]
theorem linksB_bad {n v : Nat} {l : List Lk} {k : Nat} {x : Lk} (hx : l[k]? = some x) (h : linkB n v x = false) : linksB n v l = false := by
  rw [← Bool.not_eq_true, linksB_iff]
  intro h1
  rw [h1.1 x (List.mem_of_getElem? hx)] at h; cases h
theorem linksB_twice {n v : Nat} {l : List Lk} {j k : Nat} {x y : Lk} (hjk : j < k) (hy : l[j]? = some y) (hx : l[k]? = some x) (h : y.1 = x.1) : linksB n v l = false := by
  rw [← Bool.not_eq_true, linksB_iff]
  intro h1
  have g1 := List.getElem?_eq_some_iff.1 hy
  have g2 := List.getElem?_eq_some_iff.1 hx
  have := (List.pairwise_iff_getElem.1 h1.2) j k (by simpa using g1.1) (by simpa using g2.1) hjk
  simp [g1.2, g2.2, h] at this
theorem linksB_step {n v : Nat} {l : List Lk} {k : Nat} {x : Lk} (hx : l[k]? = some x) (h : linksB n v (l.take k) = true) (h1 : linkB n v x = true) (h2 : ∀ (j : Nat) (y : Lk), j < k → l[j]? = some y → y.1 ≠ x.1) : linksB n v (l.take (k + 1)) = true := by
  rw [linksB_iff] at *
  rw [take_next hx]
  refine ⟨fun y hy => ?_, ?_⟩
  · rcases List.mem_append.1 hy with hy | hy
    · exact h.1 y hy
    · simp at hy; subst hy; exact h1
  · rw [List.map_append, List.nodup_append]
    refine ⟨h.2, by simp, fun a ha b hb => ?_⟩
    simp at hb; subst hb
    obtain ⟨y, hy, rfl⟩ := List.mem_map.1 ha
    obtain ⟨j, hj⟩ := List.getElem?_of_mem hy
    rw [List.getElem?_take] at hj
    split at hj
    · rename_i hjk; exact h2 j y hjk hj
    · cases hj
/-- The port that leads to a node, or -1. -/
def portTo (l : List Lk) (u : Int) : Int := match l.findIdx? (fun x => x.1 == u) with | some i => i | none => -1
theorem portTo_none {l : List Lk} {u : Int} (h : ∀ (j : Nat) (y : Lk), l[j]? = some y → y.1 ≠ u) : portTo l u = -1 := by
  unfold portTo
  have : l.findIdx? (fun x => x.1 == u) = none := by
    rw [List.findIdx?_eq_none_iff]
    intro x hx
    obtain ⟨j, hj⟩ := List.getElem?_of_mem hx
    simpa using h j x hj
  rw [this]
theorem portTo_some {l : List Lk} {u : Int} {k : Nat} {x : Lk} (hx : l[k]? = some x) (hu : x.1 = u) (h : ∀ (j : Nat) (y : Lk), j < k → l[j]? = some y → y.1 ≠ u) : portTo l u = k := by
  unfold portTo
  have : l.findIdx? (fun x => x.1 == u) = some k := by
    rw [List.findIdx?_eq_some_iff_getElem]
    have g := List.getElem?_eq_some_iff.1 hx
    refine ⟨g.1, by simp [g.2, hu], fun j hj => ?_⟩
    have hjl : j < l.length := by have := g.1; omega
    have := h j l[j] hj (List.getElem?_eq_getElem hjl)
    simpa using this
  rw [this]
theorem portTo_cases (l : List Lk) (u : Int) : (portTo l u = -1 ∧ ∀ x ∈ l, x.1 ≠ u) ∨ ∃ (k : Nat) (x : Lk), portTo l u = k ∧ l[k]? = some x ∧ x.1 = u ∧ l.find? (fun x => x.1 == u) = some x := by
  unfold portTo
  cases hf : l.findIdx? (fun x => x.1 == u) with
  | none =>
    rw [List.findIdx?_eq_none_iff] at hf
    exact .inl ⟨rfl, fun x hx => by simpa using hf x hx⟩
  | some k =>
    obtain ⟨h1, h2, h3⟩ := List.findIdx?_eq_some_iff_getElem.1 hf
    refine .inr ⟨k, l[k], rfl, List.getElem?_eq_getElem h1, by simpa using h2, ?_⟩
    rw [List.find?_eq_some_iff_getElem]
    exact ⟨h2, k, h1, rfl, fun j hj => by simpa using h3 j hj⟩
theorem weight_none {l : List Lk} {u : Int} (h : ∀ x ∈ l, x.1 ≠ u) : weightTo l u = 0 := by
  unfold weightTo
  have : l.find? (fun x => x.1 == u) = none := by
    rw [List.find?_eq_none]; intro x hx; simpa using h x hx
  rw [this]
theorem weight_some {l : List Lk} {u : Int} {x : Lk} (h : l.find? (fun x => x.1 == u) = some x) : weightTo l u = x.2 := by unfold weightTo; rw [h]
theorem validG_iff (g : GraphD) : validG g = true ↔ 1 ≤ g.ports.length ∧ g.ports.length ≤ 24 ∧ g.ids.length = g.ports.length ∧ idsB g.ids = true ∧ portsB g.ports = true ∧ symB g.ports = true := by
  unfold validG; simp only [Bool.and_eq_true, decide_eq_true_eq]
theorem portsB_iff (ports : List (List Lk)) : portsB ports = true ↔ ∀ (v : Nat) (ls : List Lk), ports[v]? = some ls → linksB ports.length v ls = true := by
  unfold portsB
  rw [List.all_eq_true]
  constructor
  · intro h v ls hv
    have := h v (List.mem_range.2 (List.getElem?_eq_some_iff.1 hv).1)
    rwa [List.getD_eq_getElem?_getD, hv] at this
  · intro h v hv
    obtain ⟨ls, hls⟩ : ∃ ls, ports[v]? = some ls := ⟨_, List.getElem?_eq_getElem (List.mem_range.1 hv)⟩
    rw [List.getD_eq_getElem?_getD, hls]
    exact h v ls hls
theorem symB_iff (ports : List (List Lk)) : symB ports = true ↔ ∀ (v : Nat) (ls : List Lk), ports[v]? = some ls → ∀ l ∈ ls, weightTo (ports.getD l.1.toNat []) v = l.2 := by
  unfold symB
  rw [List.all_eq_true]
  constructor
  · intro h v ls hv l hl
    have := h v (List.mem_range.2 (List.getElem?_eq_some_iff.1 hv).1)
    rw [List.getD_eq_getElem?_getD, hv] at this
    simpa using List.all_eq_true.1 this l hl
  · intro h v hv
    obtain ⟨ls, hls⟩ : ∃ ls, ports[v]? = some ls := ⟨_, List.getElem?_eq_getElem (List.mem_range.1 hv)⟩
    rw [List.getD_eq_getElem?_getD, hls]
    rw [Option.getD_some, List.all_eq_true]
    intro l hl
    simpa using h v ls hls l hl
end Go.Proofs.Ytenajilnjeafpaa
set_option linter.unusedVariables false
namespace Go.Proofs.Ytenajilnjeafpaa
open Go.RowKit
def encInts (l : List Int) : AV := .sl 1 (l.map fun z => [i64 z])
def encLink (l : Lk) : List AV := [i64 l.1, i64 l.2]
def encLinks (l : List Lk) : AV := .sl 2 (l.map encLink)
def encPorts (l : List (List Lk)) : AV := .sl 1 (l.map fun x => [encLinks x])
def encG (g : GraphD) : AV := .agg [encInts g.ids, encPorts g.ports]
def encC (c : List (List Int)) : AV := .sl 1 (c.map fun x => [encInts x])
/-- All of memory may be read. -/
def okW (w : World) (g : Nat) : Prop := g < w.heap.size
theorem relAll1 {ok : Nat → Prop} {w : World} {lv : Live} {a : AV} {cs : List Value} (h : RelAll ok w lv [a] cs) : ∃ u, cs = [u] ∧ Rel ok w lv a u := by
  match cs, h with
  | [u], h => exact ⟨u, rfl, h.2 0 _ _ rfl rfl⟩
theorem relAll2 {ok : Nat → Prop} {w : World} {lv : Live} {a b : AV} {cs : List Value} (h : RelAll ok w lv [a, b] cs) : ∃ u v, cs = [u, v] ∧ Rel ok w lv a u ∧ Rel ok w lv b v := by
  match cs, h with
  | [u, v], h => exact ⟨u, v, rfl, h.2 0 _ _ rfl rfl, h.2 1 _ _ rfl rfl⟩
theorem relAll3 {ok : Nat → Prop} {w : World} {lv : Live} {a b c : AV} {cs : List Value} (h : RelAll ok w lv [a, b, c] cs) : ∃ u v x, cs = [u, v, x] ∧ Rel ok w lv a u ∧ Rel ok w lv b v ∧ Rel ok w lv c x := by
  match cs, h with
  | [u, v, x], h => exact ⟨u, v, x, rfl, h.2 0 _ _ rfl rfl, h.2 1 _ _ rfl rfl, h.2 2 _ _ rfl rfl⟩
theorem con_of_calls {P : Program} {f : FuncId} {args : List AV} {x : Value} (hb : HasBody P f) (h : ∀ (w : World) (us : List Value) (ok : Nat → Prop), (∀ g, ok g → g < w.heap.size) → RelAll ok w (fun _ => none) args us → Calls P f us.toArray w fun e w' => e = .returned x ∧ Below w.heap.size w w') : Con P f args (.v x) :=
  ⟨hb, rfl, fun ok0 w us _ hok hr => (h w us ok0 hok hr).mono fun e w' ⟨h1, h2⟩ => ⟨x, h1, .v x, h2⟩⟩
end Go.Proofs.Ytenajilnjeafpaa
