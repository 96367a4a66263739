/- Part 8 of the texts under MemoryRanks,MemoryChanges,MemoryCarries,MemoryCorruptsNamedNodes,MemoryCarriesToItself: joined, with what it needs alone. -/
import Derived.Test.YtenajilnjeafpaaGreatProg
import Derived.KernelRfl
import Derived.Below
import Derived.Test.YtenajilnjeafpaaGreatL4
set_option linter.unusedVariables false
set_option maxRecDepth 100000
namespace Go.Proofs.YtenajilnjeafpaaGreat
theorem sz_1 : SizeOK Tryz.prog 1 1 false := ⟨by kernel_rfl, by kernel_rfl⟩
theorem sz_2 : SizeOK Tryz.prog 2 1 false := ⟨by kernel_rfl, by kernel_rfl⟩
theorem sz_3 : SizeOK Tryz.prog 3 1 false := ⟨by kernel_rfl, by kernel_rfl⟩
theorem sz_4 : SizeOK Tryz.prog 4 1 false := ⟨by kernel_rfl, by kernel_rfl⟩
theorem sz_5 : SizeOK Tryz.prog 5 1 false := ⟨by kernel_rfl, by kernel_rfl⟩
theorem sz_6 : SizeOK Tryz.prog 6 1 false := ⟨by kernel_rfl, by kernel_rfl⟩
theorem sz_7 : SizeOK Tryz.prog 7 4 true := ⟨by kernel_rfl, by kernel_rfl⟩
theorem sz_8 : SizeOK Tryz.prog 8 4 true := ⟨by kernel_rfl, by kernel_rfl⟩
theorem sz_9 : SizeOK Tryz.prog 9 1 false := ⟨by kernel_rfl, by kernel_rfl⟩
theorem sz_10 : SizeOK Tryz.prog 10 1 false := ⟨by kernel_rfl, by kernel_rfl⟩
theorem sz_11 : SizeOK Tryz.prog 11 1 false := ⟨by kernel_rfl, by kernel_rfl⟩
theorem sz_12 : SizeOK Tryz.prog 12 1 false := ⟨by kernel_rfl, by kernel_rfl⟩
theorem sz_13 : SizeOK Tryz.prog 13 2 true := ⟨by kernel_rfl, by kernel_rfl⟩
theorem sz_14 : SizeOK Tryz.prog 14 2 true := ⟨by kernel_rfl, by kernel_rfl⟩
theorem sz_15 : SizeOK Tryz.prog 15 1 false := ⟨by kernel_rfl, by kernel_rfl⟩
theorem sz_16 : SizeOK Tryz.prog 16 1 false := ⟨by kernel_rfl, by kernel_rfl⟩
theorem sz_17 : SizeOK Tryz.prog 17 1 false := ⟨by kernel_rfl, by kernel_rfl⟩
theorem sz_18 : SizeOK Tryz.prog 18 1 true := ⟨by kernel_rfl, by kernel_rfl⟩
theorem sz_19 : SizeOK Tryz.prog 19 1 true := ⟨by kernel_rfl, by kernel_rfl⟩
theorem sz_20 : SizeOK Tryz.prog 20 1 false := ⟨by kernel_rfl, by kernel_rfl⟩
theorem sz_21 : SizeOK Tryz.prog 21 1 false := ⟨by kernel_rfl, by kernel_rfl⟩
theorem sz_22 : SizeOK Tryz.prog 22 1 false := ⟨by kernel_rfl, by kernel_rfl⟩
theorem sz_23 : SizeOK Tryz.prog 23 1 false := ⟨by kernel_rfl, by kernel_rfl⟩
theorem sz_24 : SizeOK Tryz.prog 24 3 true := ⟨by kernel_rfl, by kernel_rfl⟩
theorem sz_25 : SizeOK Tryz.prog 25 3 true := ⟨by kernel_rfl, by kernel_rfl⟩
theorem sz_26 : SizeOK Tryz.prog 26 1 false := ⟨by kernel_rfl, by kernel_rfl⟩
theorem sz_27 : SizeOK Tryz.prog 27 1 false := ⟨by kernel_rfl, by kernel_rfl⟩
theorem sz_28 : SizeOK Tryz.prog 28 2 true := ⟨by kernel_rfl, by kernel_rfl⟩
theorem sz_29 : SizeOK Tryz.prog 29 2 true := ⟨by kernel_rfl, by kernel_rfl⟩
theorem sz_30 : SizeOK Tryz.prog 30 1 false := ⟨by kernel_rfl, by kernel_rfl⟩
theorem sz_31 : SizeOK Tryz.prog 31 1 false := ⟨by kernel_rfl, by kernel_rfl⟩
theorem sz_32 : SizeOK Tryz.prog 32 1 false := ⟨by kernel_rfl, by kernel_rfl⟩
theorem sz_33 : SizeOK Tryz.prog 33 1 false := ⟨by kernel_rfl, by kernel_rfl⟩
theorem sz_35 : SizeOK Tryz.prog 35 1 false := ⟨by kernel_rfl, by kernel_rfl⟩
theorem sz_37 : SizeOK Tryz.prog 37 1 false := ⟨by kernel_rfl, by kernel_rfl⟩
theorem sz_38 : SizeOK Tryz.prog 38 1 false := ⟨by kernel_rfl, by kernel_rfl⟩
theorem sz_39 : SizeOK Tryz.prog 39 1 false := ⟨by kernel_rfl, by kernel_rfl⟩
theorem sz_40 : SizeOK Tryz.prog 40 1 false := ⟨by kernel_rfl, by kernel_rfl⟩
theorem sz_41 : SizeOK Tryz.prog 41 1 false := ⟨by kernel_rfl, by kernel_rfl⟩
theorem sz_42 : SizeOK Tryz.prog 42 1 false := ⟨by kernel_rfl, by kernel_rfl⟩
theorem sz_43 : SizeOK Tryz.prog 43 1 false := ⟨by kernel_rfl, by kernel_rfl⟩
theorem sz_44 : SizeOK Tryz.prog 44 1 false := ⟨by kernel_rfl, by kernel_rfl⟩
theorem sz_45 : SizeOK Tryz.prog 45 1 false := ⟨by kernel_rfl, by kernel_rfl⟩
theorem sz_46 : SizeOK Tryz.prog 46 6 true := ⟨by kernel_rfl, by kernel_rfl⟩
theorem sz_47 : SizeOK Tryz.prog 47 6 true := ⟨by kernel_rfl, by kernel_rfl⟩
theorem sz_48 : SizeOK Tryz.prog 48 1 false := ⟨by kernel_rfl, by kernel_rfl⟩
theorem sz_49 : SizeOK Tryz.prog 49 2 true := ⟨by kernel_rfl, by kernel_rfl⟩
theorem sz_50 : SizeOK Tryz.prog 50 2 true := ⟨by kernel_rfl, by kernel_rfl⟩
theorem sz_51 : SizeOK Tryz.prog 51 1 false := ⟨by kernel_rfl, by kernel_rfl⟩
theorem sz_52 : SizeOK Tryz.prog 52 1 false := ⟨by kernel_rfl, by kernel_rfl⟩
theorem sz_53 : SizeOK Tryz.prog 53 1 false := ⟨by kernel_rfl, by kernel_rfl⟩
theorem sz_54 : SizeOK Tryz.prog 54 1 false := ⟨by kernel_rfl, by kernel_rfl⟩
theorem sz_55 : SizeOK Tryz.prog 55 1 false := ⟨by kernel_rfl, by kernel_rfl⟩
theorem sz_56 : SizeOK Tryz.prog 56 1 false := ⟨by kernel_rfl, by kernel_rfl⟩
theorem sz_57 : SizeOK Tryz.prog 57 1 false := ⟨by kernel_rfl, by kernel_rfl⟩
theorem sz_58 : SizeOK Tryz.prog 58 1 false := ⟨by kernel_rfl, by kernel_rfl⟩
theorem sz_59 : SizeOK Tryz.prog 59 1 false := ⟨by kernel_rfl, by kernel_rfl⟩
theorem sz_60 : SizeOK Tryz.prog 60 3 true := ⟨by kernel_rfl, by kernel_rfl⟩
theorem sz_61 : SizeOK Tryz.prog 61 3 true := ⟨by kernel_rfl, by kernel_rfl⟩
theorem sz_62 : SizeOK Tryz.prog 62 1 false := ⟨by kernel_rfl, by kernel_rfl⟩
theorem sz_63 : SizeOK Tryz.prog 63 1 false := ⟨by kernel_rfl, by kernel_rfl⟩
theorem sz_64 : SizeOK Tryz.prog 64 1 false := ⟨by kernel_rfl, by kernel_rfl⟩
theorem sz_65 : SizeOK Tryz.prog 65 1 false := ⟨by kernel_rfl, by kernel_rfl⟩
theorem sz_67 : SizeOK Tryz.prog 67 1 false := ⟨by kernel_rfl, by kernel_rfl⟩
theorem sz_68 : SizeOK Tryz.prog 68 1 false := ⟨by kernel_rfl, by kernel_rfl⟩
theorem sz_69 : SizeOK Tryz.prog 69 1 false := ⟨by kernel_rfl, by kernel_rfl⟩
theorem sz_70 : SizeOK Tryz.prog 70 1 false := ⟨by kernel_rfl, by kernel_rfl⟩
theorem sz_71 : SizeOK Tryz.prog 71 1 false := ⟨by kernel_rfl, by kernel_rfl⟩
theorem sz_72 : SizeOK Tryz.prog 72 2 true := ⟨by kernel_rfl, by kernel_rfl⟩
theorem sz_73 : SizeOK Tryz.prog 73 1 false := ⟨by kernel_rfl, by kernel_rfl⟩
theorem sz_74 : SizeOK Tryz.prog 74 1 false := ⟨by kernel_rfl, by kernel_rfl⟩
theorem sz_76 : SizeOK Tryz.prog 76 1 false := ⟨by kernel_rfl, by kernel_rfl⟩
theorem sz_77 : SizeOK Tryz.prog 77 1 false := ⟨by kernel_rfl, by kernel_rfl⟩
theorem sz_78 : SizeOK Tryz.prog 78 1 false := ⟨by kernel_rfl, by kernel_rfl⟩
theorem sz_79 : SizeOK Tryz.prog 79 1 false := ⟨by kernel_rfl, by kernel_rfl⟩
theorem sz_80 : SizeOK Tryz.prog 80 1 false := ⟨by kernel_rfl, by kernel_rfl⟩
theorem sz_81 : SizeOK Tryz.prog 81 1 false := ⟨by kernel_rfl, by kernel_rfl⟩
theorem sz_82 : SizeOK Tryz.prog 82 1 false := ⟨by kernel_rfl, by kernel_rfl⟩
theorem sz_83 : SizeOK Tryz.prog 83 1 false := ⟨by kernel_rfl, by kernel_rfl⟩
theorem sz_84 : SizeOK Tryz.prog 84 1 false := ⟨by kernel_rfl, by kernel_rfl⟩
theorem sz_85 : SizeOK Tryz.prog 85 1 false := ⟨by kernel_rfl, by kernel_rfl⟩
theorem sz_86 : SizeOK Tryz.prog 86 1 false := ⟨by kernel_rfl, by kernel_rfl⟩
theorem sz_87 : SizeOK Tryz.prog 87 1 false := ⟨by kernel_rfl, by kernel_rfl⟩
theorem sz_88 : SizeOK Tryz.prog 88 1 false := ⟨by kernel_rfl, by kernel_rfl⟩
theorem sz_89 : SizeOK Tryz.prog 89 1 false := ⟨by kernel_rfl, by kernel_rfl⟩
theorem sz_90 : SizeOK Tryz.prog 90 1 false := ⟨by kernel_rfl, by kernel_rfl⟩
theorem sz_91 : SizeOK Tryz.prog 91 1 false := ⟨by kernel_rfl, by kernel_rfl⟩
theorem sz_92 : SizeOK Tryz.prog 92 1 false := ⟨by kernel_rfl, by kernel_rfl⟩
theorem sz_93 : SizeOK Tryz.prog 93 1 false := ⟨by kernel_rfl, by kernel_rfl⟩
theorem sz_94 : SizeOK Tryz.prog 94 3 true := ⟨by kernel_rfl, by kernel_rfl⟩
theorem sz_95 : SizeOK Tryz.prog 95 3 true := ⟨by kernel_rfl, by kernel_rfl⟩
theorem sz_96 : SizeOK Tryz.prog 96 1 false := ⟨by kernel_rfl, by kernel_rfl⟩
theorem sz_97 : SizeOK Tryz.prog 97 2 true := ⟨by kernel_rfl, by kernel_rfl⟩
theorem sz_98 : SizeOK Tryz.prog 98 2 true := ⟨by kernel_rfl, by kernel_rfl⟩
theorem sz_99 : SizeOK Tryz.prog 99 1 false := ⟨by kernel_rfl, by kernel_rfl⟩
theorem sz_100 : SizeOK Tryz.prog 100 1 false := ⟨by kernel_rfl, by kernel_rfl⟩
theorem sz_101 : SizeOK Tryz.prog 101 1 false := ⟨by kernel_rfl, by kernel_rfl⟩
theorem sz_102 : SizeOK Tryz.prog 102 1 false := ⟨by kernel_rfl, by kernel_rfl⟩
theorem sz_103 : SizeOK Tryz.prog 103 1 false := ⟨by kernel_rfl, by kernel_rfl⟩
theorem sz_104 : SizeOK Tryz.prog 104 1 false := ⟨by kernel_rfl, by kernel_rfl⟩
theorem sz_105 : SizeOK Tryz.prog 105 1 false := ⟨by kernel_rfl, by kernel_rfl⟩
theorem sz_106 : SizeOK Tryz.prog 106 1 false := ⟨by kernel_rfl, by kernel_rfl⟩
theorem sz_107 : SizeOK Tryz.prog 107 1 false := ⟨by kernel_rfl, by kernel_rfl⟩
theorem sz_108 : SizeOK Tryz.prog 108 2 true := ⟨by kernel_rfl, by kernel_rfl⟩
theorem sz_109 : SizeOK Tryz.prog 109 2 true := ⟨by kernel_rfl, by kernel_rfl⟩
theorem sz_110 : SizeOK Tryz.prog 110 1 false := ⟨by kernel_rfl, by kernel_rfl⟩
theorem sz_111 : SizeOK Tryz.prog 111 1 false := ⟨by kernel_rfl, by kernel_rfl⟩
theorem sz_112 : SizeOK Tryz.prog 112 1 false := ⟨by kernel_rfl, by kernel_rfl⟩
theorem sz_113 : SizeOK Tryz.prog 113 1 false := ⟨by kernel_rfl, by kernel_rfl⟩
theorem sz_114 : SizeOK Tryz.prog 114 1 false := ⟨by kernel_rfl, by kernel_rfl⟩
theorem sz_115 : SizeOK Tryz.prog 115 1 false := ⟨by kernel_rfl, by kernel_rfl⟩
theorem sz_116 : SizeOK Tryz.prog 116 256 true := ⟨by kernel_rfl, by kernel_rfl⟩
theorem sz_117 : SizeOK Tryz.prog 117 1 false := ⟨by kernel_rfl, by kernel_rfl⟩
theorem sz_119 : SizeOK Tryz.prog 119 1 false := ⟨by kernel_rfl, by kernel_rfl⟩
theorem sz_120 : SizeOK Tryz.prog 120 1 false := ⟨by kernel_rfl, by kernel_rfl⟩
theorem sz_121 : SizeOK Tryz.prog 121 1 false := ⟨by kernel_rfl, by kernel_rfl⟩
theorem sz_122 : SizeOK Tryz.prog 122 1 false := ⟨by kernel_rfl, by kernel_rfl⟩
theorem sz_123 : SizeOK Tryz.prog 123 1 false := ⟨by kernel_rfl, by kernel_rfl⟩
theorem sz_124 : SizeOK Tryz.prog 124 1 false := ⟨by kernel_rfl, by kernel_rfl⟩
theorem sz_125 : SizeOK Tryz.prog 125 1 false := ⟨by kernel_rfl, by kernel_rfl⟩
theorem sz_126 : SizeOK Tryz.prog 126 1 false := ⟨by kernel_rfl, by kernel_rfl⟩
theorem sz_127 : SizeOK Tryz.prog 127 1 false := ⟨by kernel_rfl, by kernel_rfl⟩
theorem sz_128 : SizeOK Tryz.prog 128 2 true := ⟨by kernel_rfl, by kernel_rfl⟩
theorem sz_129 : SizeOK Tryz.prog 129 2 true := ⟨by kernel_rfl, by kernel_rfl⟩
theorem sz_130 : SizeOK Tryz.prog 130 1 false := ⟨by kernel_rfl, by kernel_rfl⟩
theorem sz_131 : SizeOK Tryz.prog 131 1 false := ⟨by kernel_rfl, by kernel_rfl⟩
theorem sz_132 : SizeOK Tryz.prog 132 2 true := ⟨by kernel_rfl, by kernel_rfl⟩
theorem sz_133 : SizeOK Tryz.prog 133 2 true := ⟨by kernel_rfl, by kernel_rfl⟩
theorem sz_134 : SizeOK Tryz.prog 134 1 false := ⟨by kernel_rfl, by kernel_rfl⟩
theorem sz_135 : SizeOK Tryz.prog 135 1 false := ⟨by kernel_rfl, by kernel_rfl⟩
theorem sz_136 : SizeOK Tryz.prog 136 1 false := ⟨by kernel_rfl, by kernel_rfl⟩
theorem sz_137 : SizeOK Tryz.prog 137 1 false := ⟨by kernel_rfl, by kernel_rfl⟩
theorem sz_138 : SizeOK Tryz.prog 138 1 false := ⟨by kernel_rfl, by kernel_rfl⟩
theorem sz_139 : SizeOK Tryz.prog 139 1 false := ⟨by kernel_rfl, by kernel_rfl⟩
theorem sz_140 : SizeOK Tryz.prog 140 1 false := ⟨by kernel_rfl, by kernel_rfl⟩
theorem sz_141 : SizeOK Tryz.prog 141 3 true := ⟨by kernel_rfl, by kernel_rfl⟩
theorem sz_142 : SizeOK Tryz.prog 142 1 false := ⟨by kernel_rfl, by kernel_rfl⟩
theorem sz_143 : SizeOK Tryz.prog 143 1 false := ⟨by kernel_rfl, by kernel_rfl⟩
theorem sz_144 : SizeOK Tryz.prog 144 1 false := ⟨by kernel_rfl, by kernel_rfl⟩
theorem sz_145 : SizeOK Tryz.prog 145 1 false := ⟨by kernel_rfl, by kernel_rfl⟩
theorem sz_146 : SizeOK Tryz.prog 146 1 false := ⟨by kernel_rfl, by kernel_rfl⟩
theorem sz_147 : SizeOK Tryz.prog 147 4 true := ⟨by kernel_rfl, by kernel_rfl⟩
theorem sz_148 : SizeOK Tryz.prog 148 4 true := ⟨by kernel_rfl, by kernel_rfl⟩
theorem sz_152 : SizeOK Tryz.prog 152 1 false := ⟨by kernel_rfl, by kernel_rfl⟩
theorem sz_153 : SizeOK Tryz.prog 153 1 false := ⟨by kernel_rfl, by kernel_rfl⟩
theorem sz_154 : SizeOK Tryz.prog 154 1 false := ⟨by kernel_rfl, by kernel_rfl⟩
theorem sz_155 : SizeOK Tryz.prog 155 1 false := ⟨by kernel_rfl, by kernel_rfl⟩
theorem sz_156 : SizeOK Tryz.prog 156 1 false := ⟨by kernel_rfl, by kernel_rfl⟩
theorem sz_157 : SizeOK Tryz.prog 157 1 false := ⟨by kernel_rfl, by kernel_rfl⟩
theorem sz_158 : SizeOK Tryz.prog 158 1 false := ⟨by kernel_rfl, by kernel_rfl⟩
theorem sz_159 : SizeOK Tryz.prog 159 11 true := ⟨by kernel_rfl, by kernel_rfl⟩
theorem sz_160 : SizeOK Tryz.prog 160 11 true := ⟨by kernel_rfl, by kernel_rfl⟩
theorem sz_161 : SizeOK Tryz.prog 161 1 false := ⟨by kernel_rfl, by kernel_rfl⟩
def ty_1 : Ty := ⟨.other, 1, false, [.nilFunc]⟩
theorem ok_1 : TyOK Tryz.prog 1 ty_1 := ⟨sz_1, zeroOK_of (by kernel_rfl), trivial⟩
def ty_2 : Ty := ⟨(.int .i64), 1, false, [(.int .i64 0)]⟩
theorem ok_2 : TyOK Tryz.prog 2 ty_2 := ⟨sz_2, zeroOK_of (by kernel_rfl), Tryz.underlying2⟩
def ty_3 : Ty := ⟨(.int .i64), 1, false, [(.int .i64 0)]⟩
theorem ok_3 : TyOK Tryz.prog 3 ty_3 := ⟨sz_3, zeroOK_of (by kernel_rfl), Tryz.underlying3⟩
def ty_4 : Ty := ⟨.bool, 1, false, [(.bool false)]⟩
theorem ok_4 : TyOK Tryz.prog 4 ty_4 := ⟨sz_4, zeroOK_of (by kernel_rfl), Tryz.underlying4⟩
def ty_5 : Ty := ⟨(.int .u8), 1, false, [(.int .u8 0)]⟩
theorem ok_5 : TyOK Tryz.prog 5 ty_5 := ⟨sz_5, zeroOK_of (by kernel_rfl), Tryz.underlying5⟩
def ty_6 : Ty := ⟨(.int .u8), 1, false, [(.int .u8 0)]⟩
theorem ok_6 : TyOK Tryz.prog 6 ty_6 := ⟨sz_6, zeroOK_of (by kernel_rfl), Tryz.underlying6⟩
def ty_7 : Ty := ⟨(.strct [(0, 1, false), (1, 1, false), (2, 1, false), (3, 1, false)]), 4, true, [(.int .i64 0), (.int .i64 0), (.bool false), (.int .u8 0)]⟩
theorem ok_7 : TyOK Tryz.prog 7 ty_7 := ⟨sz_7, zeroOK_of (by kernel_rfl), (strct_of Tryz.underlying7 ⟨⟨rfl, sz_2, by decide⟩, ⟨rfl, sz_3, by decide⟩, ⟨rfl, sz_4, by decide⟩, ⟨rfl, sz_6, by decide⟩, trivial⟩)⟩
def ty_8 : Ty := ⟨(.strct [(0, 1, false), (1, 1, false), (2, 1, false), (3, 1, false)]), 4, true, [(.int .i64 0), (.int .i64 0), (.bool false), (.int .u8 0)]⟩
theorem ok_8 : TyOK Tryz.prog 8 ty_8 := ⟨sz_8, zeroOK_of (by kernel_rfl), (strct_of Tryz.underlying8 ⟨⟨rfl, sz_2, by decide⟩, ⟨rfl, sz_3, by decide⟩, ⟨rfl, sz_4, by decide⟩, ⟨rfl, sz_6, by decide⟩, trivial⟩)⟩
def ty_9 : Ty := ⟨.string, 1, false, [(.string ByteArray.empty)]⟩
theorem ok_9 : TyOK Tryz.prog 9 ty_9 := ⟨sz_9, zeroOK_of (by kernel_rfl), Tryz.underlying9⟩
def ty_10 : Ty := ⟨.string, 1, false, [(.string ByteArray.empty)]⟩
theorem ok_10 : TyOK Tryz.prog 10 ty_10 := ⟨sz_10, zeroOK_of (by kernel_rfl), Tryz.underlying10⟩
def ty_11 : Ty := ⟨.string, 1, false, [(.string ByteArray.empty)]⟩
theorem ok_11 : TyOK Tryz.prog 11 ty_11 := ⟨sz_11, zeroOK_of (by kernel_rfl), Tryz.underlying11⟩
def ty_12 : Ty := ⟨(.int .u64), 1, false, [(.int .u64 0)]⟩
theorem ok_12 : TyOK Tryz.prog 12 ty_12 := ⟨sz_12, zeroOK_of (by kernel_rfl), Tryz.underlying12⟩
def ty_13 : Ty := ⟨(.strct [(0, 1, false), (1, 1, false)]), 2, true, [(.string ByteArray.empty), (.int .u64 0)]⟩
theorem ok_13 : TyOK Tryz.prog 13 ty_13 := ⟨sz_13, zeroOK_of (by kernel_rfl), (strct_of Tryz.underlying13 ⟨⟨rfl, sz_9, by decide⟩, ⟨rfl, sz_12, by decide⟩, trivial⟩)⟩
def ty_14 : Ty := ⟨(.strct [(0, 1, false), (1, 1, false)]), 2, true, [(.string ByteArray.empty), (.int .u64 0)]⟩
theorem ok_14 : TyOK Tryz.prog 14 ty_14 := ⟨sz_14, zeroOK_of (by kernel_rfl), (strct_of Tryz.underlying14 ⟨⟨rfl, sz_9, by decide⟩, ⟨rfl, sz_12, by decide⟩, trivial⟩)⟩
def ty_15 : Ty := ⟨.other, 1, false, [(.pointer none)]⟩
theorem ok_15 : TyOK Tryz.prog 15 ty_15 := ⟨sz_15, zeroOK_of (by kernel_rfl), trivial⟩
def ty_16 : Ty := ⟨.other, 1, false, [(.pointer none)]⟩
theorem ok_16 : TyOK Tryz.prog 16 ty_16 := ⟨sz_16, zeroOK_of (by kernel_rfl), trivial⟩
def ty_17 : Ty := ⟨.other, 1, false, [(.pointer none)]⟩
theorem ok_17 : TyOK Tryz.prog 17 ty_17 := ⟨sz_17, zeroOK_of (by kernel_rfl), trivial⟩
def ty_18 : Ty := ⟨(.strct [(0, 1, false)]), 1, true, [(.pointer none)]⟩
theorem ok_18 : TyOK Tryz.prog 18 ty_18 := ⟨sz_18, zeroOK_of (by kernel_rfl), (strct_of Tryz.underlying18 ⟨⟨rfl, sz_17, by decide⟩, trivial⟩)⟩
def ty_19 : Ty := ⟨(.strct [(0, 1, false)]), 1, true, [(.pointer none)]⟩
theorem ok_19 : TyOK Tryz.prog 19 ty_19 := ⟨sz_19, zeroOK_of (by kernel_rfl), (strct_of Tryz.underlying19 ⟨⟨rfl, sz_17, by decide⟩, trivial⟩)⟩
def ty_20 : Ty := ⟨.other, 1, false, [.nilIface]⟩
theorem ok_20 : TyOK Tryz.prog 20 ty_20 := ⟨sz_20, zeroOK_of (by kernel_rfl), trivial⟩
def ty_21 : Ty := ⟨(.int .i32), 1, false, [(.int .i32 0)]⟩
theorem ok_21 : TyOK Tryz.prog 21 ty_21 := ⟨sz_21, zeroOK_of (by kernel_rfl), Tryz.underlying21⟩
def ty_22 : Ty := ⟨(.slc 47 6 true 56 [(.string ByteArray.empty), (.int .i64 0), (.int .i64 0), (.int .i64 0), (.int .i64 0), (.int .i64 0)]), 1, false, [(.slice none 0 0)]⟩
theorem ok_22 : TyOK Tryz.prog 22 ty_22 := ⟨sz_22, zeroOK_of (by kernel_rfl), ⟨Tryz.underlying22, sz_47, by kernel_rfl, zeroOK_of (by kernel_rfl), rfl, by decide⟩⟩
def ty_23 : Ty := ⟨(.slc 95 3 true 64 [(.string ByteArray.empty), (.slice none 0 0), (.slice none 0 0)]), 1, false, [(.slice none 0 0)]⟩
theorem ok_23 : TyOK Tryz.prog 23 ty_23 := ⟨sz_23, zeroOK_of (by kernel_rfl), ⟨Tryz.underlying23, sz_95, by kernel_rfl, zeroOK_of (by kernel_rfl), rfl, by decide⟩⟩
def ty_24 : Ty := ⟨(.strct [(0, 1, false), (1, 1, false), (2, 1, false)]), 3, true, [(.string ByteArray.empty), (.slice none 0 0), (.slice none 0 0)]⟩
theorem ok_24 : TyOK Tryz.prog 24 ty_24 := ⟨sz_24, zeroOK_of (by kernel_rfl), (strct_of Tryz.underlying24 ⟨⟨rfl, sz_9, by decide⟩, ⟨rfl, sz_22, by decide⟩, ⟨rfl, sz_23, by decide⟩, trivial⟩)⟩
def ty_25 : Ty := ⟨(.strct [(0, 1, false), (1, 1, false), (2, 1, false)]), 3, true, [(.string ByteArray.empty), (.slice none 0 0), (.slice none 0 0)]⟩
theorem ok_25 : TyOK Tryz.prog 25 ty_25 := ⟨sz_25, zeroOK_of (by kernel_rfl), (strct_of Tryz.underlying25 ⟨⟨rfl, sz_9, by decide⟩, ⟨rfl, sz_22, by decide⟩, ⟨rfl, sz_23, by decide⟩, trivial⟩)⟩
def ty_26 : Ty := ⟨(.slc 3 1 false 8 [(.int .i64 0)]), 1, false, [(.slice none 0 0)]⟩
theorem ok_26 : TyOK Tryz.prog 26 ty_26 := ⟨sz_26, zeroOK_of (by kernel_rfl), ⟨Tryz.underlying26, sz_3, by kernel_rfl, zeroOK_of (by kernel_rfl), rfl, by decide⟩⟩
def ty_27 : Ty := ⟨(.slc 51 1 false 24 [(.slice none 0 0)]), 1, false, [(.slice none 0 0)]⟩
theorem ok_27 : TyOK Tryz.prog 27 ty_27 := ⟨sz_27, zeroOK_of (by kernel_rfl), ⟨Tryz.underlying27, sz_51, by kernel_rfl, zeroOK_of (by kernel_rfl), rfl, by decide⟩⟩
def ty_28 : Ty := ⟨(.strct [(0, 1, false), (1, 1, false)]), 2, true, [(.slice none 0 0), (.slice none 0 0)]⟩
theorem ok_28 : TyOK Tryz.prog 28 ty_28 := ⟨sz_28, zeroOK_of (by kernel_rfl), (strct_of Tryz.underlying28 ⟨⟨rfl, sz_26, by decide⟩, ⟨rfl, sz_27, by decide⟩, trivial⟩)⟩
def ty_29 : Ty := ⟨(.strct [(0, 1, false), (1, 1, false)]), 2, true, [(.slice none 0 0), (.slice none 0 0)]⟩
theorem ok_29 : TyOK Tryz.prog 29 ty_29 := ⟨sz_29, zeroOK_of (by kernel_rfl), (strct_of Tryz.underlying29 ⟨⟨rfl, sz_26, by decide⟩, ⟨rfl, sz_27, by decide⟩, trivial⟩)⟩
def ty_30 : Ty := ⟨(.slc 26 1 false 24 [(.slice none 0 0)]), 1, false, [(.slice none 0 0)]⟩
theorem ok_30 : TyOK Tryz.prog 30 ty_30 := ⟨sz_30, zeroOK_of (by kernel_rfl), ⟨Tryz.underlying30, sz_26, by kernel_rfl, zeroOK_of (by kernel_rfl), rfl, by decide⟩⟩
def ty_31 : Ty := ⟨.other, 1, false, [.nilFunc]⟩
theorem ok_31 : TyOK Tryz.prog 31 ty_31 := ⟨sz_31, zeroOK_of (by kernel_rfl), trivial⟩
def ty_32 : Ty := ⟨.other, 1, false, [.nilFunc]⟩
theorem ok_32 : TyOK Tryz.prog 32 ty_32 := ⟨sz_32, zeroOK_of (by kernel_rfl), trivial⟩
def ty_33 : Ty := ⟨(.int .i64), 1, false, [(.int .i64 0)]⟩
theorem ok_33 : TyOK Tryz.prog 33 ty_33 := ⟨sz_33, zeroOK_of (by kernel_rfl), Tryz.underlying33⟩
def ty_35 : Ty := ⟨.other, 1, false, [.nilFunc]⟩
theorem ok_35 : TyOK Tryz.prog 35 ty_35 := ⟨sz_35, zeroOK_of (by kernel_rfl), trivial⟩
def ty_37 : Ty := ⟨.other, 1, false, [.nilFunc]⟩
theorem ok_37 : TyOK Tryz.prog 37 ty_37 := ⟨sz_37, zeroOK_of (by kernel_rfl), trivial⟩
def ty_38 : Ty := ⟨.other, 1, false, [.nilFunc]⟩
theorem ok_38 : TyOK Tryz.prog 38 ty_38 := ⟨sz_38, zeroOK_of (by kernel_rfl), trivial⟩
def ty_39 : Ty := ⟨.other, 1, false, [.nilFunc]⟩
theorem ok_39 : TyOK Tryz.prog 39 ty_39 := ⟨sz_39, zeroOK_of (by kernel_rfl), trivial⟩
def ty_40 : Ty := ⟨.other, 1, false, [.nilFunc]⟩
theorem ok_40 : TyOK Tryz.prog 40 ty_40 := ⟨sz_40, zeroOK_of (by kernel_rfl), trivial⟩
def ty_41 : Ty := ⟨.other, 1, false, [.nilFunc]⟩
theorem ok_41 : TyOK Tryz.prog 41 ty_41 := ⟨sz_41, zeroOK_of (by kernel_rfl), trivial⟩
def ty_42 : Ty := ⟨.other, 1, false, [.nilFunc]⟩
theorem ok_42 : TyOK Tryz.prog 42 ty_42 := ⟨sz_42, zeroOK_of (by kernel_rfl), trivial⟩
def ty_43 : Ty := ⟨.other, 1, false, [.nilFunc]⟩
theorem ok_43 : TyOK Tryz.prog 43 ty_43 := ⟨sz_43, zeroOK_of (by kernel_rfl), trivial⟩
def ty_44 : Ty := ⟨.other, 1, false, [.nilFunc]⟩
theorem ok_44 : TyOK Tryz.prog 44 ty_44 := ⟨sz_44, zeroOK_of (by kernel_rfl), trivial⟩
def ty_45 : Ty := ⟨.other, 1, false, [.nilFunc]⟩
theorem ok_45 : TyOK Tryz.prog 45 ty_45 := ⟨sz_45, zeroOK_of (by kernel_rfl), trivial⟩
def ty_46 : Ty := ⟨(.strct [(0, 1, false), (1, 1, false), (2, 1, false), (3, 1, false), (4, 1, false), (5, 1, false)]), 6, true, [(.string ByteArray.empty), (.int .i64 0), (.int .i64 0), (.int .i64 0), (.int .i64 0), (.int .i64 0)]⟩
theorem ok_46 : TyOK Tryz.prog 46 ty_46 := ⟨sz_46, zeroOK_of (by kernel_rfl), (strct_of Tryz.underlying46 ⟨⟨rfl, sz_9, by decide⟩, ⟨rfl, sz_3, by decide⟩, ⟨rfl, sz_3, by decide⟩, ⟨rfl, sz_3, by decide⟩, ⟨rfl, sz_3, by decide⟩, ⟨rfl, sz_3, by decide⟩, trivial⟩)⟩
def ty_47 : Ty := ⟨(.strct [(0, 1, false), (1, 1, false), (2, 1, false), (3, 1, false), (4, 1, false), (5, 1, false)]), 6, true, [(.string ByteArray.empty), (.int .i64 0), (.int .i64 0), (.int .i64 0), (.int .i64 0), (.int .i64 0)]⟩
theorem ok_47 : TyOK Tryz.prog 47 ty_47 := ⟨sz_47, zeroOK_of (by kernel_rfl), (strct_of Tryz.underlying47 ⟨⟨rfl, sz_9, by decide⟩, ⟨rfl, sz_3, by decide⟩, ⟨rfl, sz_3, by decide⟩, ⟨rfl, sz_3, by decide⟩, ⟨rfl, sz_3, by decide⟩, ⟨rfl, sz_3, by decide⟩, trivial⟩)⟩
def ty_48 : Ty := ⟨.other, 1, false, [.nilFunc]⟩
theorem ok_48 : TyOK Tryz.prog 48 ty_48 := ⟨sz_48, zeroOK_of (by kernel_rfl), trivial⟩
def ty_49 : Ty := ⟨(.strct [(0, 1, false), (1, 1, false)]), 2, true, [(.int .i64 0), (.int .i64 0)]⟩
theorem ok_49 : TyOK Tryz.prog 49 ty_49 := ⟨sz_49, zeroOK_of (by kernel_rfl), (strct_of Tryz.underlying49 ⟨⟨rfl, sz_3, by decide⟩, ⟨rfl, sz_3, by decide⟩, trivial⟩)⟩
def ty_50 : Ty := ⟨(.strct [(0, 1, false), (1, 1, false)]), 2, true, [(.int .i64 0), (.int .i64 0)]⟩
theorem ok_50 : TyOK Tryz.prog 50 ty_50 := ⟨sz_50, zeroOK_of (by kernel_rfl), (strct_of Tryz.underlying50 ⟨⟨rfl, sz_3, by decide⟩, ⟨rfl, sz_3, by decide⟩, trivial⟩)⟩
def ty_51 : Ty := ⟨(.slc 50 2 true 16 [(.int .i64 0), (.int .i64 0)]), 1, false, [(.slice none 0 0)]⟩
theorem ok_51 : TyOK Tryz.prog 51 ty_51 := ⟨sz_51, zeroOK_of (by kernel_rfl), ⟨Tryz.underlying51, sz_50, by kernel_rfl, zeroOK_of (by kernel_rfl), rfl, by decide⟩⟩
def ty_52 : Ty := ⟨.other, 1, false, [.nilFunc]⟩
theorem ok_52 : TyOK Tryz.prog 52 ty_52 := ⟨sz_52, zeroOK_of (by kernel_rfl), trivial⟩
def ty_53 : Ty := ⟨(.slc 61 3 true 24 [(.int .i64 0), (.int .i64 0), (.int .i64 0)]), 1, false, [(.slice none 0 0)]⟩
theorem ok_53 : TyOK Tryz.prog 53 ty_53 := ⟨sz_53, zeroOK_of (by kernel_rfl), ⟨Tryz.underlying53, sz_61, by kernel_rfl, zeroOK_of (by kernel_rfl), rfl, by decide⟩⟩
def ty_54 : Ty := ⟨.other, 1, false, [.nilFunc]⟩
theorem ok_54 : TyOK Tryz.prog 54 ty_54 := ⟨sz_54, zeroOK_of (by kernel_rfl), trivial⟩
def ty_55 : Ty := ⟨.other, 1, false, [.nilFunc]⟩
theorem ok_55 : TyOK Tryz.prog 55 ty_55 := ⟨sz_55, zeroOK_of (by kernel_rfl), trivial⟩
def ty_56 : Ty := ⟨(.int .u32), 1, false, [(.int .u32 0)]⟩
theorem ok_56 : TyOK Tryz.prog 56 ty_56 := ⟨sz_56, zeroOK_of (by kernel_rfl), Tryz.underlying56⟩
def ty_57 : Ty := ⟨.other, 1, false, [.nilFunc]⟩
theorem ok_57 : TyOK Tryz.prog 57 ty_57 := ⟨sz_57, zeroOK_of (by kernel_rfl), trivial⟩
def ty_58 : Ty := ⟨.other, 1, false, [.nilFunc]⟩
theorem ok_58 : TyOK Tryz.prog 58 ty_58 := ⟨sz_58, zeroOK_of (by kernel_rfl), trivial⟩
def ty_59 : Ty := ⟨.other, 1, false, [.nilFunc]⟩
theorem ok_59 : TyOK Tryz.prog 59 ty_59 := ⟨sz_59, zeroOK_of (by kernel_rfl), trivial⟩
def ty_60 : Ty := ⟨(.strct [(0, 1, false), (1, 1, false), (2, 1, false)]), 3, true, [(.int .i64 0), (.int .i64 0), (.int .i64 0)]⟩
theorem ok_60 : TyOK Tryz.prog 60 ty_60 := ⟨sz_60, zeroOK_of (by kernel_rfl), (strct_of Tryz.underlying60 ⟨⟨rfl, sz_3, by decide⟩, ⟨rfl, sz_3, by decide⟩, ⟨rfl, sz_3, by decide⟩, trivial⟩)⟩
def ty_61 : Ty := ⟨(.strct [(0, 1, false), (1, 1, false), (2, 1, false)]), 3, true, [(.int .i64 0), (.int .i64 0), (.int .i64 0)]⟩
theorem ok_61 : TyOK Tryz.prog 61 ty_61 := ⟨sz_61, zeroOK_of (by kernel_rfl), (strct_of Tryz.underlying61 ⟨⟨rfl, sz_3, by decide⟩, ⟨rfl, sz_3, by decide⟩, ⟨rfl, sz_3, by decide⟩, trivial⟩)⟩
def ty_62 : Ty := ⟨(.int .u64), 1, false, [(.int .u64 0)]⟩
theorem ok_62 : TyOK Tryz.prog 62 ty_62 := ⟨sz_62, zeroOK_of (by kernel_rfl), Tryz.underlying62⟩
def ty_63 : Ty := ⟨.other, 1, false, [.nilFunc]⟩
theorem ok_63 : TyOK Tryz.prog 63 ty_63 := ⟨sz_63, zeroOK_of (by kernel_rfl), trivial⟩
def ty_64 : Ty := ⟨.other, 1, false, [.nilFunc]⟩
theorem ok_64 : TyOK Tryz.prog 64 ty_64 := ⟨sz_64, zeroOK_of (by kernel_rfl), trivial⟩
def ty_65 : Ty := ⟨.other, 1, false, [.nilFunc]⟩
theorem ok_65 : TyOK Tryz.prog 65 ty_65 := ⟨sz_65, zeroOK_of (by kernel_rfl), trivial⟩
def ty_67 : Ty := ⟨.other, 1, false, [.nilFunc]⟩
theorem ok_67 : TyOK Tryz.prog 67 ty_67 := ⟨sz_67, zeroOK_of (by kernel_rfl), trivial⟩
def ty_68 : Ty := ⟨.other, 1, false, [.nilFunc]⟩
theorem ok_68 : TyOK Tryz.prog 68 ty_68 := ⟨sz_68, zeroOK_of (by kernel_rfl), trivial⟩
def ty_69 : Ty := ⟨(.slc 73 1 false 24 [(.slice none 0 0)]), 1, false, [(.slice none 0 0)]⟩
theorem ok_69 : TyOK Tryz.prog 69 ty_69 := ⟨sz_69, zeroOK_of (by kernel_rfl), ⟨Tryz.underlying69, sz_73, by kernel_rfl, zeroOK_of (by kernel_rfl), rfl, by decide⟩⟩
def ty_70 : Ty := ⟨.other, 1, false, [.nilFunc]⟩
theorem ok_70 : TyOK Tryz.prog 70 ty_70 := ⟨sz_70, zeroOK_of (by kernel_rfl), trivial⟩
def ty_71 : Ty := ⟨.other, 1, false, [.nilFunc]⟩
theorem ok_71 : TyOK Tryz.prog 71 ty_71 := ⟨sz_71, zeroOK_of (by kernel_rfl), trivial⟩
def ty_72 : Ty := ⟨(.arr 2 1 false), 2, true, [(.int .i64 0), (.int .i64 0)]⟩
theorem ok_72 : TyOK Tryz.prog 72 ty_72 := ⟨sz_72, zeroOK_of (by kernel_rfl), ⟨_, Tryz.underlying72, sz_3⟩⟩
def ty_73 : Ty := ⟨(.slc 72 2 true 16 [(.int .i64 0), (.int .i64 0)]), 1, false, [(.slice none 0 0)]⟩
theorem ok_73 : TyOK Tryz.prog 73 ty_73 := ⟨sz_73, zeroOK_of (by kernel_rfl), ⟨Tryz.underlying73, sz_72, by kernel_rfl, zeroOK_of (by kernel_rfl), rfl, by decide⟩⟩
def ty_74 : Ty := ⟨.other, 1, false, [.nilFunc]⟩
theorem ok_74 : TyOK Tryz.prog 74 ty_74 := ⟨sz_74, zeroOK_of (by kernel_rfl), trivial⟩
def ty_76 : Ty := ⟨.other, 1, false, [.nilFunc]⟩
theorem ok_76 : TyOK Tryz.prog 76 ty_76 := ⟨sz_76, zeroOK_of (by kernel_rfl), trivial⟩
def ty_77 : Ty := ⟨.other, 1, false, [.nilFunc]⟩
theorem ok_77 : TyOK Tryz.prog 77 ty_77 := ⟨sz_77, zeroOK_of (by kernel_rfl), trivial⟩
def ty_78 : Ty := ⟨.other, 1, false, [.nilFunc]⟩
theorem ok_78 : TyOK Tryz.prog 78 ty_78 := ⟨sz_78, zeroOK_of (by kernel_rfl), trivial⟩
def ty_79 : Ty := ⟨.other, 1, false, [.nilFunc]⟩
theorem ok_79 : TyOK Tryz.prog 79 ty_79 := ⟨sz_79, zeroOK_of (by kernel_rfl), trivial⟩
def ty_80 : Ty := ⟨.other, 1, false, [.nilFunc]⟩
theorem ok_80 : TyOK Tryz.prog 80 ty_80 := ⟨sz_80, zeroOK_of (by kernel_rfl), trivial⟩
def ty_81 : Ty := ⟨.other, 1, false, [.nilFunc]⟩
theorem ok_81 : TyOK Tryz.prog 81 ty_81 := ⟨sz_81, zeroOK_of (by kernel_rfl), trivial⟩
def ty_82 : Ty := ⟨.other, 1, false, [.nilFunc]⟩
theorem ok_82 : TyOK Tryz.prog 82 ty_82 := ⟨sz_82, zeroOK_of (by kernel_rfl), trivial⟩
def ty_83 : Ty := ⟨.other, 1, false, [.nilFunc]⟩
theorem ok_83 : TyOK Tryz.prog 83 ty_83 := ⟨sz_83, zeroOK_of (by kernel_rfl), trivial⟩
def ty_84 : Ty := ⟨.other, 1, false, [.nilFunc]⟩
theorem ok_84 : TyOK Tryz.prog 84 ty_84 := ⟨sz_84, zeroOK_of (by kernel_rfl), trivial⟩
def ty_85 : Ty := ⟨.other, 1, false, [.nilFunc]⟩
theorem ok_85 : TyOK Tryz.prog 85 ty_85 := ⟨sz_85, zeroOK_of (by kernel_rfl), trivial⟩
def ty_86 : Ty := ⟨.other, 1, false, [.nilFunc]⟩
theorem ok_86 : TyOK Tryz.prog 86 ty_86 := ⟨sz_86, zeroOK_of (by kernel_rfl), trivial⟩
def ty_87 : Ty := ⟨.other, 1, false, [.nilFunc]⟩
theorem ok_87 : TyOK Tryz.prog 87 ty_87 := ⟨sz_87, zeroOK_of (by kernel_rfl), trivial⟩
def ty_88 : Ty := ⟨.other, 1, false, [.nilFunc]⟩
theorem ok_88 : TyOK Tryz.prog 88 ty_88 := ⟨sz_88, zeroOK_of (by kernel_rfl), trivial⟩
def ty_89 : Ty := ⟨.other, 1, false, [.nilFunc]⟩
theorem ok_89 : TyOK Tryz.prog 89 ty_89 := ⟨sz_89, zeroOK_of (by kernel_rfl), trivial⟩
def ty_90 : Ty := ⟨.other, 1, false, [.nilFunc]⟩
theorem ok_90 : TyOK Tryz.prog 90 ty_90 := ⟨sz_90, zeroOK_of (by kernel_rfl), trivial⟩
def ty_91 : Ty := ⟨.other, 1, false, [.nilFunc]⟩
theorem ok_91 : TyOK Tryz.prog 91 ty_91 := ⟨sz_91, zeroOK_of (by kernel_rfl), trivial⟩
def ty_92 : Ty := ⟨(.slc 129 2 true 16 [(.int .i64 0), (.int .i64 0)]), 1, false, [(.slice none 0 0)]⟩
theorem ok_92 : TyOK Tryz.prog 92 ty_92 := ⟨sz_92, zeroOK_of (by kernel_rfl), ⟨Tryz.underlying92, sz_129, by kernel_rfl, zeroOK_of (by kernel_rfl), rfl, by decide⟩⟩
def ty_93 : Ty := ⟨(.slc 98 2 true 32 [(.int .i64 0), (.slice none 0 0)]), 1, false, [(.slice none 0 0)]⟩
theorem ok_93 : TyOK Tryz.prog 93 ty_93 := ⟨sz_93, zeroOK_of (by kernel_rfl), ⟨Tryz.underlying93, sz_98, by kernel_rfl, zeroOK_of (by kernel_rfl), rfl, by decide⟩⟩
def ty_94 : Ty := ⟨(.strct [(0, 1, false), (1, 1, false), (2, 1, false)]), 3, true, [(.string ByteArray.empty), (.slice none 0 0), (.slice none 0 0)]⟩
theorem ok_94 : TyOK Tryz.prog 94 ty_94 := ⟨sz_94, zeroOK_of (by kernel_rfl), (strct_of Tryz.underlying94 ⟨⟨rfl, sz_9, by decide⟩, ⟨rfl, sz_92, by decide⟩, ⟨rfl, sz_93, by decide⟩, trivial⟩)⟩
def ty_95 : Ty := ⟨(.strct [(0, 1, false), (1, 1, false), (2, 1, false)]), 3, true, [(.string ByteArray.empty), (.slice none 0 0), (.slice none 0 0)]⟩
theorem ok_95 : TyOK Tryz.prog 95 ty_95 := ⟨sz_95, zeroOK_of (by kernel_rfl), (strct_of Tryz.underlying95 ⟨⟨rfl, sz_9, by decide⟩, ⟨rfl, sz_92, by decide⟩, ⟨rfl, sz_93, by decide⟩, trivial⟩)⟩
def ty_96 : Ty := ⟨.other, 1, false, [.nilFunc]⟩
theorem ok_96 : TyOK Tryz.prog 96 ty_96 := ⟨sz_96, zeroOK_of (by kernel_rfl), trivial⟩
def ty_97 : Ty := ⟨(.strct [(0, 1, false), (1, 1, false)]), 2, true, [(.int .i64 0), (.slice none 0 0)]⟩
theorem ok_97 : TyOK Tryz.prog 97 ty_97 := ⟨sz_97, zeroOK_of (by kernel_rfl), (strct_of Tryz.underlying97 ⟨⟨rfl, sz_3, by decide⟩, ⟨rfl, sz_92, by decide⟩, trivial⟩)⟩
def ty_98 : Ty := ⟨(.strct [(0, 1, false), (1, 1, false)]), 2, true, [(.int .i64 0), (.slice none 0 0)]⟩
theorem ok_98 : TyOK Tryz.prog 98 ty_98 := ⟨sz_98, zeroOK_of (by kernel_rfl), (strct_of Tryz.underlying98 ⟨⟨rfl, sz_3, by decide⟩, ⟨rfl, sz_92, by decide⟩, trivial⟩)⟩
def ty_99 : Ty := ⟨.other, 1, false, [.nilFunc]⟩
theorem ok_99 : TyOK Tryz.prog 99 ty_99 := ⟨sz_99, zeroOK_of (by kernel_rfl), trivial⟩
def ty_100 : Ty := ⟨.other, 1, false, [.nilFunc]⟩
theorem ok_100 : TyOK Tryz.prog 100 ty_100 := ⟨sz_100, zeroOK_of (by kernel_rfl), trivial⟩
def ty_101 : Ty := ⟨.other, 1, false, [.nilFunc]⟩
theorem ok_101 : TyOK Tryz.prog 101 ty_101 := ⟨sz_101, zeroOK_of (by kernel_rfl), trivial⟩
def ty_102 : Ty := ⟨.other, 1, false, [.nilFunc]⟩
theorem ok_102 : TyOK Tryz.prog 102 ty_102 := ⟨sz_102, zeroOK_of (by kernel_rfl), trivial⟩
def ty_103 : Ty := ⟨.other, 1, false, [.nilFunc]⟩
theorem ok_103 : TyOK Tryz.prog 103 ty_103 := ⟨sz_103, zeroOK_of (by kernel_rfl), trivial⟩
def ty_104 : Ty := ⟨.other, 1, false, [.nilFunc]⟩
theorem ok_104 : TyOK Tryz.prog 104 ty_104 := ⟨sz_104, zeroOK_of (by kernel_rfl), trivial⟩
def ty_105 : Ty := ⟨.other, 1, false, [.nilFunc]⟩
theorem ok_105 : TyOK Tryz.prog 105 ty_105 := ⟨sz_105, zeroOK_of (by kernel_rfl), trivial⟩
def ty_106 : Ty := ⟨.other, 1, false, [.nilFunc]⟩
theorem ok_106 : TyOK Tryz.prog 106 ty_106 := ⟨sz_106, zeroOK_of (by kernel_rfl), trivial⟩
def ty_107 : Ty := ⟨.other, 1, false, [.nilFunc]⟩
theorem ok_107 : TyOK Tryz.prog 107 ty_107 := ⟨sz_107, zeroOK_of (by kernel_rfl), trivial⟩
def ty_108 : Ty := ⟨(.strct [(0, 1, false), (1, 1, false)]), 2, true, [(.int .i64 0), .nilFunc]⟩
theorem ok_108 : TyOK Tryz.prog 108 ty_108 := ⟨sz_108, zeroOK_of (by kernel_rfl), (strct_of Tryz.underlying108 ⟨⟨rfl, sz_3, by decide⟩, ⟨rfl, sz_99, by decide⟩, trivial⟩)⟩
def ty_109 : Ty := ⟨(.strct [(0, 1, false), (1, 1, false)]), 2, true, [(.int .i64 0), .nilFunc]⟩
theorem ok_109 : TyOK Tryz.prog 109 ty_109 := ⟨sz_109, zeroOK_of (by kernel_rfl), (strct_of Tryz.underlying109 ⟨⟨rfl, sz_3, by decide⟩, ⟨rfl, sz_99, by decide⟩, trivial⟩)⟩
def ty_110 : Ty := ⟨(.slc 109 2 true 16 [(.int .i64 0), .nilFunc]), 1, false, [(.slice none 0 0)]⟩
theorem ok_110 : TyOK Tryz.prog 110 ty_110 := ⟨sz_110, zeroOK_of (by kernel_rfl), ⟨Tryz.underlying110, sz_109, by kernel_rfl, zeroOK_of (by kernel_rfl), rfl, by decide⟩⟩
def ty_111 : Ty := ⟨.other, 1, false, [.nilFunc]⟩
theorem ok_111 : TyOK Tryz.prog 111 ty_111 := ⟨sz_111, zeroOK_of (by kernel_rfl), trivial⟩
def ty_112 : Ty := ⟨.other, 1, false, [.nilFunc]⟩
theorem ok_112 : TyOK Tryz.prog 112 ty_112 := ⟨sz_112, zeroOK_of (by kernel_rfl), trivial⟩
def ty_113 : Ty := ⟨.other, 1, false, [.nilFunc]⟩
theorem ok_113 : TyOK Tryz.prog 113 ty_113 := ⟨sz_113, zeroOK_of (by kernel_rfl), trivial⟩
def ty_114 : Ty := ⟨.other, 1, false, [.nilFunc]⟩
theorem ok_114 : TyOK Tryz.prog 114 ty_114 := ⟨sz_114, zeroOK_of (by kernel_rfl), trivial⟩
def ty_115 : Ty := ⟨.other, 1, false, [.nilFunc]⟩
theorem ok_115 : TyOK Tryz.prog 115 ty_115 := ⟨sz_115, zeroOK_of (by kernel_rfl), trivial⟩
def ty_116 : Ty := ⟨(.arr 256 1 false), 256, true, [(.bool false), (.bool false), (.bool false), (.bool false), (.bool false), (.bool false), (.bool false), (.bool false), (.bool false), (.bool false), (.bool false), (.bool false), (.bool false), (.bool false), (.bool false), (.bool false), (.bool false), (.bool false), (.bool false), (.bool false), (.bool false), (.bool false), (.bool false), (.bool false), (.bool false), (.bool false), (.bool false), (.bool false), (.bool false), (.bool false), (.bool false), (.bool false), (.bool false), (.bool false), (.bool false), (.bool false), (.bool false), (.bool false), (.bool false), (.bool false), (.bool false), (.bool false), (.bool false), (.bool false), (.bool false), (.bool false), (.bool false), (.bool false), (.bool false), (.bool false), (.bool false), (.bool false), (.bool false), (.bool false), (.bool false), (.bool false), (.bool false), (.bool false), (.bool false), (.bool false), (.bool false), (.bool false), (.bool false), (.bool false), (.bool false), (.bool false), (.bool false), (.bool false), (.bool false), (.bool false), (.bool false), (.bool false), (.bool false), (.bool false), (.bool false), (.bool false), (.bool false), (.bool false), (.bool false), (.bool false), (.bool false), (.bool false), (.bool false), (.bool false), (.bool false), (.bool false), (.bool false), (.bool false), (.bool false), (.bool false), (.bool false), (.bool false), (.bool false), (.bool false), (.bool false), (.bool false), (.bool false), (.bool false), (.bool false), (.bool false), (.bool false), (.bool false), (.bool false), (.bool false), (.bool false), (.bool false), (.bool false), (.bool false), (.bool false), (.bool false), (.bool false), (.bool false), (.bool false), (.bool false), (.bool false), (.bool false), (.bool false), (.bool false), (.bool false), (.bool false), (.bool false), (.bool false), (.bool false), (.bool false), (.bool false), (.bool false), (.bool false), (.bool false), (.bool false), (.bool false), (.bool false), (.bool false), (.bool false), (.bool false), (.bool false), (.bool false), (.bool false), (.bool false), (.bool false), (.bool false), (.bool false), (.bool false), (.bool false), (.bool false), (.bool false), (.bool false), (.bool false), (.bool false), (.bool false), (.bool false), (.bool false), (.bool false), (.bool false), (.bool false), (.bool false), (.bool false), (.bool false), (.bool false), (.bool false), (.bool false), (.bool false), (.bool false), (.bool false), (.bool false), (.bool false), (.bool false), (.bool false), (.bool false), (.bool false), (.bool false), (.bool false), (.bool false), (.bool false), (.bool false), (.bool false), (.bool false), (.bool false), (.bool false), (.bool false), (.bool false), (.bool false), (.bool false), (.bool false), (.bool false), (.bool false), (.bool false), (.bool false), (.bool false), (.bool false), (.bool false), (.bool false), (.bool false), (.bool false), (.bool false), (.bool false), (.bool false), (.bool false), (.bool false), (.bool false), (.bool false), (.bool false), (.bool false), (.bool false), (.bool false), (.bool false), (.bool false), (.bool false), (.bool false), (.bool false), (.bool false), (.bool false), (.bool false), (.bool false), (.bool false), (.bool false), (.bool false), (.bool false), (.bool false), (.bool false), (.bool false), (.bool false), (.bool false), (.bool false), (.bool false), (.bool false), (.bool false), (.bool false), (.bool false), (.bool false), (.bool false), (.bool false), (.bool false), (.bool false), (.bool false), (.bool false), (.bool false), (.bool false), (.bool false), (.bool false), (.bool false), (.bool false), (.bool false), (.bool false), (.bool false), (.bool false), (.bool false), (.bool false), (.bool false), (.bool false), (.bool false), (.bool false), (.bool false), (.bool false), (.bool false), (.bool false), (.bool false)]⟩
theorem ok_116 : TyOK Tryz.prog 116 ty_116 := ⟨sz_116, zeroOK_of (by kernel_rfl), ⟨_, Tryz.underlying116, sz_4⟩⟩
def ty_117 : Ty := ⟨(.map 72 3), 1, false, [(.map none)]⟩
theorem ok_117 : TyOK Tryz.prog 117 ty_117 := ⟨sz_117, zeroOK_of (by kernel_rfl), Tryz.underlying117⟩
def ty_119 : Ty := ⟨.other, 1, false, [.nilFunc]⟩
theorem ok_119 : TyOK Tryz.prog 119 ty_119 := ⟨sz_119, zeroOK_of (by kernel_rfl), trivial⟩
def ty_120 : Ty := ⟨(.map 9 4), 1, false, [(.map none)]⟩
theorem ok_120 : TyOK Tryz.prog 120 ty_120 := ⟨sz_120, zeroOK_of (by kernel_rfl), Tryz.underlying120⟩
def ty_121 : Ty := ⟨.other, 1, false, [.nilFunc]⟩
theorem ok_121 : TyOK Tryz.prog 121 ty_121 := ⟨sz_121, zeroOK_of (by kernel_rfl), trivial⟩
def ty_122 : Ty := ⟨.other, 1, false, [.nilFunc]⟩
theorem ok_122 : TyOK Tryz.prog 122 ty_122 := ⟨sz_122, zeroOK_of (by kernel_rfl), trivial⟩
def ty_123 : Ty := ⟨(.map 3 4), 1, false, [(.map none)]⟩
theorem ok_123 : TyOK Tryz.prog 123 ty_123 := ⟨sz_123, zeroOK_of (by kernel_rfl), Tryz.underlying123⟩
def ty_124 : Ty := ⟨.other, 1, false, [.nilFunc]⟩
theorem ok_124 : TyOK Tryz.prog 124 ty_124 := ⟨sz_124, zeroOK_of (by kernel_rfl), trivial⟩
def ty_125 : Ty := ⟨.other, 1, false, [.nilFunc]⟩
theorem ok_125 : TyOK Tryz.prog 125 ty_125 := ⟨sz_125, zeroOK_of (by kernel_rfl), trivial⟩
def ty_126 : Ty := ⟨.other, 1, false, [.nilFunc]⟩
theorem ok_126 : TyOK Tryz.prog 126 ty_126 := ⟨sz_126, zeroOK_of (by kernel_rfl), trivial⟩
def ty_127 : Ty := ⟨.other, 1, false, [.nilFunc]⟩
theorem ok_127 : TyOK Tryz.prog 127 ty_127 := ⟨sz_127, zeroOK_of (by kernel_rfl), trivial⟩
def ty_128 : Ty := ⟨(.strct [(0, 1, false), (1, 1, false)]), 2, true, [(.int .i64 0), (.int .i64 0)]⟩
theorem ok_128 : TyOK Tryz.prog 128 ty_128 := ⟨sz_128, zeroOK_of (by kernel_rfl), (strct_of Tryz.underlying128 ⟨⟨rfl, sz_3, by decide⟩, ⟨rfl, sz_3, by decide⟩, trivial⟩)⟩
def ty_129 : Ty := ⟨(.strct [(0, 1, false), (1, 1, false)]), 2, true, [(.int .i64 0), (.int .i64 0)]⟩
theorem ok_129 : TyOK Tryz.prog 129 ty_129 := ⟨sz_129, zeroOK_of (by kernel_rfl), (strct_of Tryz.underlying129 ⟨⟨rfl, sz_3, by decide⟩, ⟨rfl, sz_3, by decide⟩, trivial⟩)⟩
def ty_130 : Ty := ⟨.other, 1, false, [.nilFunc]⟩
theorem ok_130 : TyOK Tryz.prog 130 ty_130 := ⟨sz_130, zeroOK_of (by kernel_rfl), trivial⟩
def ty_131 : Ty := ⟨.other, 1, false, [.nilFunc]⟩
theorem ok_131 : TyOK Tryz.prog 131 ty_131 := ⟨sz_131, zeroOK_of (by kernel_rfl), trivial⟩
def ty_132 : Ty := ⟨(.strct [(0, 1, false), (1, 1, false)]), 2, true, [(.slice none 0 0), (.slice none 0 0)]⟩
theorem ok_132 : TyOK Tryz.prog 132 ty_132 := ⟨sz_132, zeroOK_of (by kernel_rfl), (strct_of Tryz.underlying132 ⟨⟨rfl, sz_92, by decide⟩, ⟨rfl, sz_26, by decide⟩, trivial⟩)⟩
def ty_133 : Ty := ⟨(.strct [(0, 1, false), (1, 1, false)]), 2, true, [(.slice none 0 0), (.slice none 0 0)]⟩
theorem ok_133 : TyOK Tryz.prog 133 ty_133 := ⟨sz_133, zeroOK_of (by kernel_rfl), (strct_of Tryz.underlying133 ⟨⟨rfl, sz_92, by decide⟩, ⟨rfl, sz_26, by decide⟩, trivial⟩)⟩
def ty_134 : Ty := ⟨.other, 1, false, [.nilFunc]⟩
theorem ok_134 : TyOK Tryz.prog 134 ty_134 := ⟨sz_134, zeroOK_of (by kernel_rfl), trivial⟩
def ty_135 : Ty := ⟨.other, 1, false, [.nilFunc]⟩
theorem ok_135 : TyOK Tryz.prog 135 ty_135 := ⟨sz_135, zeroOK_of (by kernel_rfl), trivial⟩
def ty_136 : Ty := ⟨.other, 1, false, [.nilFunc]⟩
theorem ok_136 : TyOK Tryz.prog 136 ty_136 := ⟨sz_136, zeroOK_of (by kernel_rfl), trivial⟩
def ty_137 : Ty := ⟨.other, 1, false, [.nilFunc]⟩
theorem ok_137 : TyOK Tryz.prog 137 ty_137 := ⟨sz_137, zeroOK_of (by kernel_rfl), trivial⟩
def ty_138 : Ty := ⟨.other, 1, false, [.nilFunc]⟩
theorem ok_138 : TyOK Tryz.prog 138 ty_138 := ⟨sz_138, zeroOK_of (by kernel_rfl), trivial⟩
def ty_139 : Ty := ⟨.other, 1, false, [.nilFunc]⟩
theorem ok_139 : TyOK Tryz.prog 139 ty_139 := ⟨sz_139, zeroOK_of (by kernel_rfl), trivial⟩
def ty_140 : Ty := ⟨.other, 1, false, [.nilFunc]⟩
theorem ok_140 : TyOK Tryz.prog 140 ty_140 := ⟨sz_140, zeroOK_of (by kernel_rfl), trivial⟩
def ty_141 : Ty := ⟨(.arr 3 1 false), 3, true, [(.int .i64 0), (.int .i64 0), (.int .i64 0)]⟩
theorem ok_141 : TyOK Tryz.prog 141 ty_141 := ⟨sz_141, zeroOK_of (by kernel_rfl), ⟨_, Tryz.underlying141, sz_3⟩⟩
def ty_142 : Ty := ⟨.other, 1, false, [.nilFunc]⟩
theorem ok_142 : TyOK Tryz.prog 142 ty_142 := ⟨sz_142, zeroOK_of (by kernel_rfl), trivial⟩
def ty_143 : Ty := ⟨.other, 1, false, [.nilFunc]⟩
theorem ok_143 : TyOK Tryz.prog 143 ty_143 := ⟨sz_143, zeroOK_of (by kernel_rfl), trivial⟩
def ty_144 : Ty := ⟨.other, 1, false, [.nilFunc]⟩
theorem ok_144 : TyOK Tryz.prog 144 ty_144 := ⟨sz_144, zeroOK_of (by kernel_rfl), trivial⟩
def ty_145 : Ty := ⟨(.slc 4 1 false 1 [(.bool false)]), 1, false, [(.slice none 0 0)]⟩
theorem ok_145 : TyOK Tryz.prog 145 ty_145 := ⟨sz_145, zeroOK_of (by kernel_rfl), ⟨Tryz.underlying145, sz_4, by kernel_rfl, zeroOK_of (by kernel_rfl), rfl, by decide⟩⟩
def ty_146 : Ty := ⟨.other, 1, false, [.nilFunc]⟩
theorem ok_146 : TyOK Tryz.prog 146 ty_146 := ⟨sz_146, zeroOK_of (by kernel_rfl), trivial⟩
def ty_147 : Ty := ⟨(.strct [(0, 1, false), (1, 1, false), (2, 1, false), (3, 1, false)]), 4, true, [(.pointer none), (.pointer none), (.pointer none), (.string ByteArray.empty)]⟩
theorem ok_147 : TyOK Tryz.prog 147 ty_147 := ⟨sz_147, zeroOK_of (by kernel_rfl), (strct_of Tryz.underlying147 ⟨⟨rfl, sz_17, by decide⟩, ⟨rfl, sz_17, by decide⟩, ⟨rfl, sz_17, by decide⟩, ⟨rfl, sz_9, by decide⟩, trivial⟩)⟩
def ty_148 : Ty := ⟨(.strct [(0, 1, false), (1, 1, false), (2, 1, false), (3, 1, false)]), 4, true, [(.pointer none), (.pointer none), (.pointer none), (.string ByteArray.empty)]⟩
theorem ok_148 : TyOK Tryz.prog 148 ty_148 := ⟨sz_148, zeroOK_of (by kernel_rfl), (strct_of Tryz.underlying148 ⟨⟨rfl, sz_17, by decide⟩, ⟨rfl, sz_17, by decide⟩, ⟨rfl, sz_17, by decide⟩, ⟨rfl, sz_9, by decide⟩, trivial⟩)⟩
def ty_152 : Ty := ⟨.other, 1, false, [.nilFunc]⟩
theorem ok_152 : TyOK Tryz.prog 152 ty_152 := ⟨sz_152, zeroOK_of (by kernel_rfl), trivial⟩
def ty_153 : Ty := ⟨(.int .u8), 1, false, [(.int .u8 0)]⟩
theorem ok_153 : TyOK Tryz.prog 153 ty_153 := ⟨sz_153, zeroOK_of (by kernel_rfl), Tryz.underlying153⟩
def ty_154 : Ty := ⟨(.int .u8), 1, false, [(.int .u8 0)]⟩
theorem ok_154 : TyOK Tryz.prog 154 ty_154 := ⟨sz_154, zeroOK_of (by kernel_rfl), Tryz.underlying154⟩
def ty_155 : Ty := ⟨.other, 1, false, [.nilFunc]⟩
theorem ok_155 : TyOK Tryz.prog 155 ty_155 := ⟨sz_155, zeroOK_of (by kernel_rfl), trivial⟩
def ty_156 : Ty := ⟨.other, 1, false, [(.pointer none)]⟩
theorem ok_156 : TyOK Tryz.prog 156 ty_156 := ⟨sz_156, zeroOK_of (by kernel_rfl), trivial⟩
def ty_157 : Ty := ⟨(.int .i32), 1, false, [(.int .i32 0)]⟩
theorem ok_157 : TyOK Tryz.prog 157 ty_157 := ⟨sz_157, zeroOK_of (by kernel_rfl), Tryz.underlying157⟩
def ty_158 : Ty := ⟨(.int .i32), 1, false, [(.int .i32 0)]⟩
theorem ok_158 : TyOK Tryz.prog 158 ty_158 := ⟨sz_158, zeroOK_of (by kernel_rfl), Tryz.underlying158⟩
def ty_159 : Ty := ⟨(.strct [(0, 1, false), (1, 1, false), (2, 1, false), (3, 1, false), (4, 1, false), (5, 1, false), (6, 1, false), (7, 1, false), (8, 1, false), (9, 1, false), (10, 1, false)]), 11, true, [(.int .u64 0), (.int .u64 0), (.int .u32 0), (.int .u8 0), (.int .u8 0), (.int .u8 0), (.int .u8 0), .nilFunc, (.pointer none), (.int .i32 0), (.int .i32 0)]⟩
theorem ok_159 : TyOK Tryz.prog 159 ty_159 := ⟨sz_159, zeroOK_of (by kernel_rfl), (strct_of Tryz.underlying159 ⟨⟨rfl, sz_12, by decide⟩, ⟨rfl, sz_12, by decide⟩, ⟨rfl, sz_56, by decide⟩, ⟨rfl, sz_153, by decide⟩, ⟨rfl, sz_5, by decide⟩, ⟨rfl, sz_5, by decide⟩, ⟨rfl, sz_154, by decide⟩, ⟨rfl, sz_155, by decide⟩, ⟨rfl, sz_156, by decide⟩, ⟨rfl, sz_157, by decide⟩, ⟨rfl, sz_158, by decide⟩, trivial⟩)⟩
def ty_160 : Ty := ⟨(.strct [(0, 1, false), (1, 1, false), (2, 1, false), (3, 1, false), (4, 1, false), (5, 1, false), (6, 1, false), (7, 1, false), (8, 1, false), (9, 1, false), (10, 1, false)]), 11, true, [(.int .u64 0), (.int .u64 0), (.int .u32 0), (.int .u8 0), (.int .u8 0), (.int .u8 0), (.int .u8 0), .nilFunc, (.pointer none), (.int .i32 0), (.int .i32 0)]⟩
theorem ok_160 : TyOK Tryz.prog 160 ty_160 := ⟨sz_160, zeroOK_of (by kernel_rfl), (strct_of Tryz.underlying160 ⟨⟨rfl, sz_12, by decide⟩, ⟨rfl, sz_12, by decide⟩, ⟨rfl, sz_56, by decide⟩, ⟨rfl, sz_153, by decide⟩, ⟨rfl, sz_5, by decide⟩, ⟨rfl, sz_5, by decide⟩, ⟨rfl, sz_154, by decide⟩, ⟨rfl, sz_155, by decide⟩, ⟨rfl, sz_156, by decide⟩, ⟨rfl, sz_157, by decide⟩, ⟨rfl, sz_158, by decide⟩, trivial⟩)⟩
def ty_161 : Ty := ⟨.other, 1, false, [(.pointer none)]⟩
theorem ok_161 : TyOK Tryz.prog 161 ty_161 := ⟨sz_161, zeroOK_of (by kernel_rfl), trivial⟩
def TT : Nat → Option Ty := tlook [(1, ty_1), (2, ty_2), (3, ty_3), (4, ty_4), (5, ty_5), (6, ty_6), (7, ty_7), (8, ty_8), (9, ty_9), (10, ty_10), (11, ty_11), (12, ty_12), (13, ty_13), (14, ty_14), (15, ty_15), (16, ty_16), (17, ty_17), (18, ty_18), (19, ty_19), (20, ty_20), (21, ty_21), (22, ty_22), (23, ty_23), (24, ty_24), (25, ty_25), (26, ty_26), (27, ty_27), (28, ty_28), (29, ty_29), (30, ty_30), (31, ty_31), (32, ty_32), (33, ty_33), (35, ty_35), (37, ty_37), (38, ty_38), (39, ty_39), (40, ty_40), (41, ty_41), (42, ty_42), (43, ty_43), (44, ty_44), (45, ty_45), (46, ty_46), (47, ty_47), (48, ty_48), (49, ty_49), (50, ty_50), (51, ty_51), (52, ty_52), (53, ty_53), (54, ty_54), (55, ty_55), (56, ty_56), (57, ty_57), (58, ty_58), (59, ty_59), (60, ty_60), (61, ty_61), (62, ty_62), (63, ty_63), (64, ty_64), (65, ty_65), (67, ty_67), (68, ty_68), (69, ty_69), (70, ty_70), (71, ty_71), (72, ty_72), (73, ty_73), (74, ty_74), (76, ty_76), (77, ty_77), (78, ty_78), (79, ty_79), (80, ty_80), (81, ty_81), (82, ty_82), (83, ty_83), (84, ty_84), (85, ty_85), (86, ty_86), (87, ty_87), (88, ty_88), (89, ty_89), (90, ty_90), (91, ty_91), (92, ty_92), (93, ty_93), (94, ty_94), (95, ty_95), (96, ty_96), (97, ty_97), (98, ty_98), (99, ty_99), (100, ty_100), (101, ty_101), (102, ty_102), (103, ty_103), (104, ty_104), (105, ty_105), (106, ty_106), (107, ty_107), (108, ty_108), (109, ty_109), (110, ty_110), (111, ty_111), (112, ty_112), (113, ty_113), (114, ty_114), (115, ty_115), (116, ty_116), (117, ty_117), (119, ty_119), (120, ty_120), (121, ty_121), (122, ty_122), (123, ty_123), (124, ty_124), (125, ty_125), (126, ty_126), (127, ty_127), (128, ty_128), (129, ty_129), (130, ty_130), (131, ty_131), (132, ty_132), (133, ty_133), (134, ty_134), (135, ty_135), (136, ty_136), (137, ty_137), (138, ty_138), (139, ty_139), (140, ty_140), (141, ty_141), (142, ty_142), (143, ty_143), (144, ty_144), (145, ty_145), (146, ty_146), (147, ty_147), (148, ty_148), (152, ty_152), (153, ty_153), (154, ty_154), (155, ty_155), (156, ty_156), (157, ty_157), (158, ty_158), (159, ty_159), (160, ty_160), (161, ty_161)]
theorem tok : TOK Tryz.prog TT := tok_of ⟨ok_1, ok_2, ok_3, ok_4, ok_5, ok_6, ok_7, ok_8, ok_9, ok_10, ok_11, ok_12, ok_13, ok_14, ok_15, ok_16, ok_17, ok_18, ok_19, ok_20, ok_21, ok_22, ok_23, ok_24, ok_25, ok_26, ok_27, ok_28, ok_29, ok_30, ok_31, ok_32, ok_33, ok_35, ok_37, ok_38, ok_39, ok_40, ok_41, ok_42, ok_43, ok_44, ok_45, ok_46, ok_47, ok_48, ok_49, ok_50, ok_51, ok_52, ok_53, ok_54, ok_55, ok_56, ok_57, ok_58, ok_59, ok_60, ok_61, ok_62, ok_63, ok_64, ok_65, ok_67, ok_68, ok_69, ok_70, ok_71, ok_72, ok_73, ok_74, ok_76, ok_77, ok_78, ok_79, ok_80, ok_81, ok_82, ok_83, ok_84, ok_85, ok_86, ok_87, ok_88, ok_89, ok_90, ok_91, ok_92, ok_93, ok_94, ok_95, ok_96, ok_97, ok_98, ok_99, ok_100, ok_101, ok_102, ok_103, ok_104, ok_105, ok_106, ok_107, ok_108, ok_109, ok_110, ok_111, ok_112, ok_113, ok_114, ok_115, ok_116, ok_117, ok_119, ok_120, ok_121, ok_122, ok_123, ok_124, ok_125, ok_126, ok_127, ok_128, ok_129, ok_130, ok_131, ok_132, ok_133, ok_134, ok_135, ok_136, ok_137, ok_138, ok_139, ok_140, ok_141, ok_142, ok_143, ok_144, ok_145, ok_146, ok_147, ok_148, ok_152, ok_153, ok_154, ok_155, ok_156, ok_157, ok_158, ok_159, ok_160, ok_161, trivial⟩
theorem mixed : Tryz.prog.follows .mixedOrders = true := by kernel_rfl
end Go.Proofs.YtenajilnjeafpaaGreat
set_option linter.unusedVariables false
namespace Go.Proofs.YtenajilnjeafpaaGreat
open Go.RowKit
variable {N : Nat} {ops : Array Oper} {lf : Oper → Bool} {Q : SS → Prop} {t : List (Nat × AV)} {h : List (Nat × Option LObj)} {rest : List Oper} {d : Nat} {op : Op} {ty : TypeId} {pos : String} {af : Array Edge} {gd : Option (Nat × Bool)} {r : AV}
theorem zI {z : Int} (k : Lex Tryz.prog N ops lf Q rest (S ((d, .v (.int .i64 z)) :: t) h)) (hr : stepC TT t h op ty = some (.v (.int .i64 (IntKind.i64.wrap z))) := by rfl) (h0 : -9223372036854775808 ≤ z ∧ z ≤ 9223372036854775807 := by constructor <;> omega) (hw : wantedF ops (look t) ⟨some d, op, ty, pos, af, gd⟩ = some true := by rfl) (hd : Nat.blt d N = true := by rfl) : Lex Tryz.prog N ops lf Q (⟨some d, op, ty, pos, af, gd⟩ :: rest) (S t h) := L_int tok hr h0 hw hd k
theorem zL {ti e es eb sz z : Nat} {ea ag : Bool} {ez z0 : List Value} {x : Operand} {α : Type} {f : α → List AV} {l : List α} (k : Lex Tryz.prog N ops lf Q rest (S ((d, .v (.int .i64 l.length)) :: t) h)) (hk : TT ti = some ⟨.slc e es ea eb ez, sz, ag, z0⟩ := by rfl) (hx : evF (look t) x = some (.sl z (l.map f)) := by rfl) (hw : wantedF ops (look t) ⟨some d, .call { callee := .builtin .len, args := #[x], argTypes := #[ti] }, ty, pos, af, gd⟩ = some true := by rfl) (hd : Nat.blt d N = true := by rfl) : Lex Tryz.prog N ops lf Q (⟨some d, .call { callee := .builtin .len, args := #[x], argTypes := #[ti] }, ty, pos, af, gd⟩ :: rest) (S t h) := L_lenMap tok hk hx hw hd k
theorem zC  (k : Lex Tryz.prog N ops lf Q rest (S ((d, r) :: t) h)) (hr : stepC TT t h op ty = some r := by rfl) (hw : wantedF ops (look t) ⟨some d, op, ty, pos, af, gd⟩ = some true := by rfl) (hd : Nat.blt d N = true := by rfl) : Lex Tryz.prog N ops lf Q (⟨some d, op, ty, pos, af, gd⟩ :: rest) (S t h) := L_calm tok hr hw hd k
theorem zK (k : Lex Tryz.prog N ops lf Q rest (S ((d, .v undef) :: t) h)) (hw : wantedF ops (look t) ⟨some d, op, ty, pos, af, gd⟩ = some false := by rfl) (hd : Nat.blt d N = true := by rfl) : Lex Tryz.prog N ops lf Q (⟨some d, op, ty, pos, af, gd⟩ :: rest) (S t h) := L_skip hw hd k
theorem zB {elem : TypeId} {x : Operand} {y : AV} {cs : List AV} (k : Lex Tryz.prog N ops lf Q rest (S ((d, .lp d 0) :: t) ((d, some (.cells cs)) :: h))) (hx : evF (look t) x = some y := by rfl) (hcs : cellsC y = some cs := by rfl) (h1 : freshT d t = true := by rfl) (h2 : freshH d h = true := by rfl) (hm : ment.mentL d cs = false := by rfl) (hl : lf ⟨some d, .box elem x, ty, pos, af, gd⟩ = true := by rfl) (hw : wantedF ops (look t) ⟨some d, .box elem x, ty, pos, af, gd⟩ = some true := by rfl) (hd : Nat.blt d N = true := by rfl) : Lex Tryz.prog N ops lf Q (⟨some d, .box elem x, ty, pos, af, gd⟩ :: rest) (S t h) := L_box hx hcs h1 h2 hm hl hw hd k
theorem zA {elem : TypeId} {y : Ty} (k : Lex Tryz.prog N ops lf Q rest (S ((d, .lp d 0) :: t) ((d, some (.cells (vMap y.zero))) :: h))) (hy : TT elem = some y := by rfl) (hone : y.zero.all Value.oneCell' = true := by rfl) (h1 : freshT d t = true := by rfl) (h2 : freshH d h = true := by rfl) (hl : lf ⟨some d, .alloc elem, ty, pos, af, gd⟩ = true := by rfl) (hw : wantedF ops (look t) ⟨some d, .alloc elem, ty, pos, af, gd⟩ = some true := by rfl) (hd : Nat.blt d N = true := by rfl) : Lex Tryz.prog N ops lf Q (⟨some d, .alloc elem, ty, pos, af, gd⟩ :: rest) (S t h) := L_alloc tok hy hone h1 h2 hl hw hd k
theorem zS {ti : Nat} {y : Ty} {x v : Operand} {id off : Nat} {xs cs ys : List AV} {u : AV} (k : Lex Tryz.prog N ops lf Q rest (S t ((id, some (.cells ys)) :: h))) (hy : TT ti = some y := by rfl) (hx : evF (look t) x = some (.lp id off) := by rfl) (hv : evF (look t) v = some u := by rfl) (hcs : cellsC u = some cs := by rfl) (hcl : Nat.beq cs.length y.size = true := by rfl) (hh : hlook h id = some (.cells xs) := by rfl) (hsp : spliceN off cs xs = some ys := by rfl) (hl : lf ⟨none, .store ti x v, ty, pos, af, gd⟩ = true := by rfl) (hw : wantedF ops (look t) ⟨none, .store ti x v, ty, pos, af, gd⟩ = some true := by rfl) : Lex Tryz.prog N ops lf Q (⟨none, .store ti x v, ty, pos, af, gd⟩ :: rest) (S t h) := L_store tok hy hx hv hcs hcl hh hsp hl hw k
theorem zU {ti : Nat} {y : Ty} {parts : List (Nat × Operand)} {ps : List (Nat × AV)} (k : Lex Tryz.prog N ops lf Q rest (S ((d, r) :: t) h)) (hy : TT ti = some y := by rfl) (hone : y.zero.all Value.oneCell' = true := by rfl) (hps : evP (evF (look t)) parts = some ps := by rfl) (hr : buildC TT ti ps = some r := by rfl) (hw : wantedF ops (look t) ⟨some d, .build ti parts.toArray, ty, pos, af, gd⟩ = some true := by rfl) (hd : Nat.blt d N = true := by rfl) : Lex Tryz.prog N ops lf Q (⟨some d, .build ti parts.toArray, ty, pos, af, gd⟩ :: rest) (S t h) := L_build tok hy hone hps hr hw hd k
theorem zV {ti e es eb sz len : Nat} {ea ag : Bool} {ez z : List Value} {parts : List (Nat × Operand)} {ps : List (Nat × AV)} {ys : List AV} {rows : List (List AV)} (k : Lex Tryz.prog N ops lf Q rest (S ((d, .sl es rows) :: t) h)) (hk : TT ti = some ⟨.slc e es ea eb ez, sz, ag, z⟩ := by rfl) (hone : ez.all Value.oneCell' = true := by rfl) (hps : evP (evF (look t)) parts = some ps := by rfl) (hf : fillA (fun i => some (i * es, es)) (repA len (vMap ez)) ps = some ys := by rfl) (hpu : pureA.pureL ys = true := by rfl) (hch : chunkA es len ys = some rows := by rfl) (hlim : Nat.ble (len * es) 16777216 = true := by rfl) (hw : wantedF ops (look t) ⟨some d, .buildSlice ti len parts.toArray, ty, pos, af, gd⟩ = some true := by rfl) (hd : Nat.blt d N = true := by rfl) : Lex Tryz.prog N ops lf Q (⟨some d, .buildSlice ti len parts.toArray, ty, pos, af, gd⟩ :: rest) (S t h) := L_buildSlice tok hk hone hps hf hpu hch hlim hw hd k
theorem zF {f : Nat} {caps : List Operand} {xs : List AV} (k : Lex Tryz.prog N ops lf Q rest (S ((d, .fn f xs) :: t) h)) (hx : evL (evF (look t)) caps = some xs := by rfl) (hw : wantedF ops (look t) ⟨some d, .makeFunc (.func f) #[] caps.toArray, ty, pos, af, gd⟩ = some true := by rfl) (hd : Nat.blt d N = true := by rfl) : Lex Tryz.prog N ops lf Q (⟨some d, .makeFunc (.func f) #[] caps.toArray, ty, pos, af, gd⟩ :: rest) (S t h) := L_makeFunc hx hw hd k
theorem zX {ti e es eb sz : Nat} {ea ag : Bool} {ez z : List Value} {x y : Operand} {ki : IntKind} {i : Int} {rows : List (List AV)} {row : List AV} (k : Lex Tryz.prog N ops lf Q rest (S ((d, .dp row 0) :: t) h)) (hk : TT ti = some ⟨.slc e es ea eb ez, sz, ag, z⟩ := by rfl) (hx : evF (look t) x = some (.sl es rows) := by rfl) (hy : evF (look t) y = some (.v (.int ki i)) := by rfl) (h0 : 0 ≤ i := by omega) (hrow : rows[i.toNat]? = some row := by first | exact row_map (by assumption) | exact row_mapI (by assumption)) (hw : wantedF ops (look t) ⟨some d, .indexAddr ti x y, ty, pos, af, gd⟩ = some true := by rfl) (hd : Nat.blt d N = true := by rfl) : Lex Tryz.prog N ops lf Q (⟨some d, .indexAddr ti x y, ty, pos, af, gd⟩ :: rest) (S t h) := L_index tok hk hx hy h0 hrow hw hd k
theorem zR {Q : Exit → SS → Prop} {s : SS} {id : Nat} {l : List Oper} (k : Lex Tryz.prog N l.toArray lfT (Q .normal) l s) (hn : noDefer l = true := by rfl) : A Tryz.prog N (.region id l.toArray false) Q s := A_region (lf := lfT) hn k
theorem zD {Q : Exit → SS → Prop} {s : SS} {id : Nat} {l : List Oper} (k : Lex Tryz.prog N l.toArray lf0 (Q .normal) l s) (hB : chkOps lf0 l = true := by kernel_rfl) (hD : dstsOk N l = true := by rfl) : A Tryz.prog N (.region id l.toArray true) Q s := A_region_drawn (lf := lf0) mixed hB hD k
theorem zT {Q : Exit → SS → Prop} {s : SS} {c : Operand} {x y : Code} (k : A Tryz.prog N x Q s) (hc : evF s.t c = some (.v (.bool true)) := by rfl) : A Tryz.prog N (.cond c x y) Q s := A_cond hc (fun _ => k) (fun e => by cases e)
theorem zE {Q : Exit → SS → Prop} {s : SS} {c : Operand} {x y : Code} (k : A Tryz.prog N y Q s) (hc : evF s.t c = some (.v (.bool false)) := by rfl) : A Tryz.prog N (.cond c x y) Q s := A_cond hc (fun e => by cases e) (fun _ => k)
end Go.Proofs.YtenajilnjeafpaaGreat
set_option linter.unusedVariables false
namespace Go.Proofs.YtenajilnjeafpaaGreat
open Go.RowKit

/-- A link: the neighbour and the weight. -/
abbrev Lk := Int × Int
structure GraphD where
  ids : List Int
  ports : List (List Lk)
def GraphD.n (g : GraphD) : Nat := g.ports.length

def linkB (n v : Nat) (l : Lk) : Bool := decide (0 ≤ l.1) && (decide (l.1 < n) && (!(l.1 == (v : Int)) && (decide (1 ≤ l.2) && decide (l.2 ≤ 15))))
theorem linkB_iff (n v : Nat) (l : Lk) : linkB n v l = true ↔ 0 ≤ l.1 ∧ l.1 < n ∧ l.1 ≠ v ∧ 1 ≤ l.2 ∧ l.2 ≤ 15 := by
  unfold linkB
  simp
def linksB (n v : Nat) (ls : List Lk) : Bool := ls.all (linkB n v) && decide ((ls.map (·.1)).Nodup)
def idB (x : Int) : Bool := decide (0 ≤ x) && decide (x ≤ 255)
def idsB (l : List Int) : Bool := l.all idB && decide l.Nodup
/-- The weight of the link to a node; 0 if there is none. -/
def weightTo (ls : List Lk) (u : Int) : Int := match ls.find? (fun l => l.1 == u) with | some l => l.2 | none => 0
def portsB (ports : List (List Lk)) : Bool := (List.range ports.length).all fun v => linksB ports.length v (ports.getD v [])
def symB (ports : List (List Lk)) : Bool := (List.range ports.length).all fun v => (ports.getD v []).all fun l => weightTo (ports.getD l.1.toNat []) v == l.2
/-- A valid graph. -/
def validG (g : GraphD) : Bool := decide (1 ≤ g.ports.length) && (decide (g.ports.length ≤ 24) && (decide (g.ids.length = g.ports.length) && (idsB g.ids && (portsB g.ports && symB g.ports))))

theorem pigeon (n : Nat) : ∀ l : List Nat, l.Nodup → (∀ x ∈ l, x < n) → l.length ≤ n := by
  induction n with
  | zero =>
    intro l _ h
    cases l with
    | nil => simp
    | cons a l => exact absurd (h a (by simp)) (by omega)
  | succ n ih =>
    intro l hn h
    by_cases hm : n ∈ l
    · have h1 := ih (l.erase n) (hn.erase n) (fun x hx => by
        have h2 := h x (List.mem_of_mem_erase hx)
        have h3 : x ≠ n := fun e => by rw [e] at hx; exact (List.Nodup.not_mem_erase hn) hx
        omega)
      rw [List.length_erase_of_mem hm] at h1
      omega
    · have := ih l hn (fun x hx => by have h2 := h x hx; have h3 : x ≠ n := fun e => hm (e ▸ hx); omega)
      omega
theorem nodup_map_inj {α β : Type} (f : α → β) : ∀ l : List α, l.Nodup → (∀ x ∈ l, ∀ y ∈ l, f x = f y → x = y) → (l.map f).Nodup := by
  intro l
  induction l with
  | nil => intro _ _; simp
  | cons a l ih =>
    intro hn hf
    rw [List.map_cons, List.nodup_cons] at *
    refine ⟨fun h => ?_, ih hn.2 fun x hx y hy h => hf x (by simp [hx]) y (by simp [hy]) h⟩
    rw [List.mem_map] at h
    obtain ⟨b, hb, he⟩ := h
    exact hn.1 (hf b (by simp [hb]) a (by simp) he ▸ hb)
/-- A node of a valid graph has fewer ports than there are nodes. -/
theorem links_short {n v : Nat} {ls : List Lk} (hv : v < n) (h : linksB n v ls = true) : ls.length < n := by
  unfold linksB at h
  rw [Bool.and_eq_true, decide_eq_true_eq, List.all_eq_true] at h
  obtain ⟨h1, h2⟩ := h
  have hb : ∀ x : Int, x ∈ ls.map (·.1) → 0 ≤ x ∧ x < n ∧ x ≠ v := by
    intro x hx
    rw [List.mem_map] at hx
    obtain ⟨l, hl, rfl⟩ := hx
    have := (linkB_iff n v l).1 (h1 l hl)
    exact ⟨this.1, this.2.1, this.2.2.1⟩
  have h3 : ((ls.map (·.1)).map Int.toNat).Nodup := nodup_map_inj Int.toNat _ h2 fun x hx y hy he => by
    have hx' := hb x hx
    have hy' := hb y hy
    omega
  have h4 := pigeon n (v :: (ls.map (·.1)).map Int.toNat) (by
    rw [List.nodup_cons]
    refine ⟨fun hm => ?_, h3⟩
    rw [List.mem_map] at hm
    obtain ⟨x, hx, he⟩ := hm
    have := hb x hx
    omega) (fun x hx => by
      rcases List.mem_cons.1 hx with rfl | hx
      · exact hv
      · rw [List.mem_map] at hx
        obtain ⟨y, hy, rfl⟩ := hx
        have := hb y hy
        omega)
  simp at h4
  omega
theorem valid_facts {g : GraphD} (h : validG g = true) : 1 ≤ g.ports.length ∧ g.ports.length ≤ 24 ∧ g.ids.length = g.ports.length ∧ (∀ x ∈ g.ids, 0 ≤ x ∧ x ≤ 255) ∧ g.ids.Nodup ∧
    (∀ (v : Nat) (ls : List Lk), g.ports[v]? = some ls → linksB g.ports.length v ls = true) ∧ (∀ (v : Nat) (ls : List Lk), g.ports[v]? = some ls → ∀ l ∈ ls, weightTo (g.ports.getD l.1.toNat []) v = l.2) := by
  unfold validG at h
  simp only [Bool.and_eq_true, decide_eq_true_eq] at h
  obtain ⟨h1, h2, h3, h4, h5, h6⟩ := h
  unfold idsB at h4
  simp only [Bool.and_eq_true, decide_eq_true_eq, List.all_eq_true, idB] at h4
  refine ⟨h1, h2, h3, h4.1, h4.2, fun v ls hv => ?_, fun v ls hv l hl => ?_⟩
  · have hlt := (List.getElem?_eq_some_iff.1 hv).1
    have := List.all_eq_true.1 h5 v (List.mem_range.2 hlt)
    rw [List.getD_eq_getElem?_getD, hv] at this
    exact this
  · have hlt := (List.getElem?_eq_some_iff.1 hv).1
    have := List.all_eq_true.1 h6 v (List.mem_range.2 hlt)
    rw [List.getD_eq_getElem?_getD, hv] at this
    have := List.all_eq_true.1 this l hl
    simpa using this
end Go.Proofs.YtenajilnjeafpaaGreat

set_option linter.unusedVariables false
namespace Go.Proofs.YtenajilnjeafpaaGreat

theorem idsB_bad {l : List Int} {k : Nat} {x : Int} (hx : l[k]? = some x) (h : idB x = false) : idsB l = false := by
  unfold idsB
  rw [List.all_eq_false.2 ⟨x, List.mem_of_getElem? hx, by simp [h]⟩]; rfl
theorem idsB_twice {l : List Int} {k : Nat} {x : Int} (hx : l[k]? = some x) (h : x ∈ l.take k) : idsB l = false := by
  unfold idsB
  have : ¬ l.Nodup := by
    intro hn
    obtain ⟨j, hj⟩ := List.getElem?_of_mem h
    rw [List.getElem?_take] at hj
    split at hj
    · rename_i hjk
      have h1 := List.getElem?_eq_some_iff.1 hj
      have h2 := List.getElem?_eq_some_iff.1 hx
      have := (List.pairwise_iff_getElem.1 hn) j k h1.1 h2.1 hjk
      rw [h1.2, h2.2] at this
      exact this rfl
    · cases hj
  simp [this]
theorem idsB_iff (l : List Int) : idsB l = true ↔ (∀ x ∈ l, idB x = true) ∧ l.Nodup := by
  unfold idsB; rw [Bool.and_eq_true, decide_eq_true_eq, List.all_eq_true]
theorem take_next {α : Type} {l : List α} {k : Nat} {x : α} (hx : l[k]? = some x) : l.take (k + 1) = l.take k ++ [x] := by
  rw [List.take_add_one, hx]; rfl
theorem idsB_step {l : List Int} {k : Nat} {x : Int} (hx : l[k]? = some x) (h : idsB (l.take k) = true) (h1 : idB x = true) (h2 : x ∉ l.take k) : idsB (l.take (k + 1)) = true := by
  rw [idsB_iff] at *
  rw [take_next hx]
  refine ⟨fun y hy => ?_, ?_⟩
  · rcases List.mem_append.1 hy with hy | hy
    · exact h.1 y hy
    · simp at hy; subst hy; exact h1
  · rw [List.nodup_append]
    exact ⟨h.2, by simp, fun a ha b hb => by simp at hb; subst hb; exact fun e => h2 (e ▸ ha)⟩
/-- Which numbers have been met. -/
def bits (l : List Int) : List Bool := (List.range 256).map fun i : Nat => decide ((i : Int) ∈ l)
theorem bits_nil : bits [] = List.replicate 256 false := by
  unfold bits
  rw [show (fun i : Nat => decide ((i : Int) ∈ ([] : List Int))) = fun _ => false from by funext i; simp, List.map_const', List.length_range]
theorem bits_len (l : List Int) : (bits l).length = 256 := by simp [bits]
theorem bits_get (l : List Int) (x : Int) (h0 : 0 ≤ x) (h1 : x ≤ 255) : (bits l)[x.toNat]? = some (decide (x ∈ l)) := by
  unfold bits
  rw [List.getElem?_map, List.getElem?_range (by omega)]
  have : ((x.toNat : Nat) : Int) = x := by omega
  simp [this]
theorem bits_set (l : List Int) (x : Int) (h0 : 0 ≤ x) (h1 : x ≤ 255) : (bits l).set x.toNat true = bits (l ++ [x]) := by
  apply List.ext_getElem
  · simp [bits]
  · intro i h2 h3
    have hx : ((x.toNat : Nat) : Int) = x := by omega
    rw [List.getElem_set]
    unfold bits
    simp only [List.getElem_map, List.getElem_range, List.mem_append, List.mem_singleton]
    by_cases hi : x.toNat = i
    · subst hi
      simp [hx]
    · have : ¬ ((i : Nat) : Int) = x := by omega
      simp [hi, this]
end Go.Proofs.YtenajilnjeafpaaGreat
namespace Go.Proofs.YtenajilnjeafpaaGreat
theorem linksB_iff (n v : Nat) (l : List Lk) : linksB n v l = true ↔ (∀ x ∈ l, linkB n v x = true) ∧ (l.map (·.1)).Nodup := by
  unfold linksB; rw [Bool.and_eq_true, decide_eq_true_eq, List.all_eq_true]
theorem linksB_bad {n v : Nat} {l : List Lk} {k : Nat} {x : Lk} (hx : l[k]? = some x) (h : linkB n v x = false) : linksB n v l = false := by
  rw [← Bool.not_eq_true, linksB_iff]
  intro h1
  rw [h1.1 x (List.mem_of_getElem? hx)] at h; cases h
theorem linksB_twice {n v : Nat} {l : List Lk} {j k : Nat} {x y : Lk} (hjk : j < k) (hy : l[j]? = some y) (hx : l[k]? = some x) (h : y.1 = x.1) : linksB n v l = false := by
  rw [← Bool.not_eq_true, linksB_iff]
  intro h1
  have g1 := List.getElem?_eq_some_iff.1 hy
  have g2 := List.getElem?_eq_some_iff.1 hx
  have := (List.pairwise_iff_getElem.1 h1.2) j k (by simpa using g1.1) (by simpa using g2.1) hjk
  simp [g1.2, g2.2, h] at this
theorem linksB_step {n v : Nat} {l : List Lk} {k : Nat} {x : Lk} (hx : l[k]? = some x) (h : linksB n v (l.take k) = true) (h1 : linkB n v x = true) (h2 : ∀ (j : Nat) (y : Lk), j < k → l[j]? = some y → y.1 ≠ x.1) : linksB n v (l.take (k + 1)) = true := by
  rw [linksB_iff] at *
  rw [take_next hx]
  refine ⟨fun y hy => ?_, ?_⟩
  · rcases List.mem_append.1 hy with hy | hy
    · exact h.1 y hy
    · simp at hy; subst hy; exact h1
  · rw [List.map_append, List.nodup_append]
    refine ⟨h.2, by simp, fun a ha b hb => ?_⟩
    simp at hb; subst hb
    obtain ⟨y, hy, rfl⟩ := List.mem_map.1 ha
    obtain ⟨j, hj⟩ := List.getElem?_of_mem hy
    rw [List.getElem?_take] at hj
    split at hj
    · rename_i hjk; exact h2 j y hjk hj
    · cases hj
/-- The port that leads to a node, or -1. -/
def portTo (l : List Lk) (u : Int) : Int := match l.findIdx? (fun x => x.1 == u) with | some i => i | none => -1
theorem portTo_none {l : List Lk} {u : Int} (h : ∀ (j : Nat) (y : Lk), l[j]? = some y → y.1 ≠ u) : portTo l u = -1 := by
  unfold portTo
  have : l.findIdx? (fun x => x.1 == u) = none := by
    rw [List.findIdx?_eq_none_iff]
    intro x hx
    obtain ⟨j, hj⟩ := List.getElem?_of_mem hx
    simpa using h j x hj
  rw [this]
theorem portTo_some {l : List Lk} {u : Int} {k : Nat} {x : Lk} (hx : l[k]? = some x) (hu : x.1 = u) (h : ∀ (j : Nat) (y : Lk), j < k → l[j]? = some y → y.1 ≠ u) : portTo l u = k := by
  unfold portTo
  have : l.findIdx? (fun x => x.1 == u) = some k := by
    rw [List.findIdx?_eq_some_iff_getElem]
    have g := List.getElem?_eq_some_iff.1 hx
    refine ⟨g.1, by simp [g.2, hu], fun j hj => ?_⟩
    have hjl : j < l.length := by have := g.1; omega
    have := h j l[j] hj (List.getElem?_eq_getElem hjl)
    simpa using this
  rw [this]
theorem portTo_cases (l : List Lk) (u : Int) : (portTo l u = -1 ∧ ∀ x ∈ l, x.1 ≠ u) ∨ ∃ (k : Nat) (x : Lk), portTo l u = k ∧ l[k]? = some x ∧ x.1 = u ∧ l.find? (fun x => x.1 == u) = some x := by
  unfold portTo
  cases hf : l.findIdx? (fun x => x.1 == u) with
  | none =>
    rw [List.findIdx?_eq_none_iff] at hf
    exact .inl ⟨rfl, fun x hx => by simpa using hf x hx⟩
  | some k =>
    obtain ⟨h1, h2, h3⟩ := List.findIdx?_eq_some_iff_getElem.1 hf
    refine .inr ⟨k, l[k], rfl, List.getElem?_eq_getElem h1, by simpa using h2, ?_⟩
    rw [List.find?_eq_some_iff_getElem]
    exact ⟨h2, k, h1, rfl, fun j hj => by simpa using h3 j hj⟩
theorem weight_none {l : List Lk} {u : Int} (h : ∀ x ∈ l, x.1 ≠ u) : weightTo l u = 0 := by
  unfold weightTo
  have : l.find? (fun x => x.1 == u) = none := by
    rw [List.find?_eq_none]; intro x hx; simpa using h x hx
  rw [this]
theorem weight_some {l : List Lk} {u : Int} {x : Lk} (h : l.find? (fun x => x.1 == u) = some x) : weightTo l u = x.2 := by unfold weightTo; rw [h]
theorem validG_iff (g : GraphD) : validG g = true ↔ 1 ≤ g.ports.length ∧ g.ports.length ≤ 24 ∧ g.ids.length = g.ports.length ∧ idsB g.ids = true ∧ portsB g.ports = true ∧ symB g.ports = true := by
  unfold validG; simp only [Bool.and_eq_true, decide_eq_true_eq]
theorem portsB_iff (ports : List (List Lk)) : portsB ports = true ↔ ∀ (v : Nat) (ls : List Lk), ports[v]? = some ls → linksB ports.length v ls = true := by
  unfold portsB
  rw [List.all_eq_true]
  constructor
  · intro h v ls hv
    have := h v (List.mem_range.2 (List.getElem?_eq_some_iff.1 hv).1)
    rwa [List.getD_eq_getElem?_getD, hv] at this
  · intro h v hv
    obtain ⟨ls, hls⟩ : ∃ ls, ports[v]? = some ls := ⟨_, List.getElem?_eq_getElem (List.mem_range.1 hv)⟩
    rw [List.getD_eq_getElem?_getD, hls]
    exact h v ls hls
theorem symB_iff (ports : List (List Lk)) : symB ports = true ↔ ∀ (v : Nat) (ls : List Lk), ports[v]? = some ls → ∀ l ∈ ls, weightTo (ports.getD l.1.toNat []) v = l.2 := by
  unfold symB
  rw [List.all_eq_true]
  constructor
  · intro h v ls hv l hl
    have := h v (List.mem_range.2 (List.getElem?_eq_some_iff.1 hv).1)
    rw [List.getD_eq_getElem?_getD, hv] at this
    simpa using List.all_eq_true.1 this l hl
  · intro h v hv
    obtain ⟨ls, hls⟩ : ∃ ls, ports[v]? = some ls := ⟨_, List.getElem?_eq_getElem (List.mem_range.1 hv)⟩
    rw [List.getD_eq_getElem?_getD, hls]
    rw [Option.getD_some, List.all_eq_true]
    intro l hl
    simpa using h v ls hls l hl
end Go.Proofs.YtenajilnjeafpaaGreat
set_option linter.unusedVariables false
namespace Go.Proofs.YtenajilnjeafpaaGreat
open Go.RowKit
def encInts (l : List Int) : AV := .sl 1 (l.map fun z => [i64 z])
def encLink (l : Lk) : List AV := [i64 l.1, i64 l.2]
def encLinks (l : List Lk) : AV := .sl 2 (l.map encLink)
def encPorts (l : List (List Lk)) : AV := .sl 1 (l.map fun x => [encLinks x])
def encG (g : GraphD) : AV := .agg [encInts g.ids, encPorts g.ports]
def encC (c : List (List Int)) : AV := .sl 1 (c.map fun x => [encInts x])
/-- All of memory may be read. -/
def okW (w : World) (g : Nat) : Prop := g < w.heap.size
theorem relAll1 {ok : Nat → Prop} {w : World} {lv : Live} {a : AV} {cs : List Value} (h : RelAll ok w lv [a] cs) : ∃ u, cs = [u] ∧ Rel ok w lv a u := by
  match cs, h with
  | [u], h => exact ⟨u, rfl, h.2 0 _ _ rfl rfl⟩
theorem relAll2 {ok : Nat → Prop} {w : World} {lv : Live} {a b : AV} {cs : List Value} (h : RelAll ok w lv [a, b] cs) : ∃ u v, cs = [u, v] ∧ Rel ok w lv a u ∧ Rel ok w lv b v := by
  match cs, h with
  | [u, v], h => exact ⟨u, v, rfl, h.2 0 _ _ rfl rfl, h.2 1 _ _ rfl rfl⟩
theorem relAll3 {ok : Nat → Prop} {w : World} {lv : Live} {a b c : AV} {cs : List Value} (h : RelAll ok w lv [a, b, c] cs) : ∃ u v x, cs = [u, v, x] ∧ Rel ok w lv a u ∧ Rel ok w lv b v ∧ Rel ok w lv c x := by
  match cs, h with
  | [u, v, x], h => exact ⟨u, v, x, rfl, h.2 0 _ _ rfl rfl, h.2 1 _ _ rfl rfl, h.2 2 _ _ rfl rfl⟩
theorem con_of_calls {P : Program} {f : FuncId} {args : List AV} {x : Value} (hb : HasBody P f) (h : ∀ (w : World) (us : List Value) (ok : Nat → Prop), (∀ g, ok g → g < w.heap.size) → RelAll ok w (fun _ => none) args us → Calls P f us.toArray w fun e w' => e = .returned x ∧ Below w.heap.size w w') : Con P f args (.v x) :=
  ⟨hb, rfl, fun ok0 w us _ hok hr => (h w us ok0 hok hr).mono fun e w' ⟨h1, h2⟩ => ⟨x, h1, .v x, h2⟩⟩
end Go.Proofs.YtenajilnjeafpaaGreat
