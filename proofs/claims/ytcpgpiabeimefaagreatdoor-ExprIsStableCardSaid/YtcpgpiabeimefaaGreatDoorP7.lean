/- Part 7 of the texts under ExprParses,ExprIsStable,ExprReadsBack,ExprIgnoresBrackets: joined, with what it needs alone. -/
import Derived.Test.YtcpgpiabeimefaaGreatDoorProg
import Derived.KernelRfl
import Derived.RangeFuncNested
import Derived.RangeFuncSeq
import Derived.Test.YtcpgpiabeimefaaGreatDoorP4
import Derived.Test.YtcpgpiabeimefaaGreatDoorP5
import Derived.Test.YtcpgpiabeimefaaGreatDoorP6
set_option linter.unusedVariables false
set_option maxRecDepth 100000
namespace Go.Proofs.YtcpgpiabeimefaaGreatDoor
theorem sz_1 : yat Tryz.prog 1 1 false := ⟨by kernel_rfl, by kernel_rfl⟩
theorem sz_2 : yat Tryz.prog 2 1 false := ⟨by kernel_rfl, by kernel_rfl⟩
theorem sz_3 : yat Tryz.prog 3 1 false := ⟨by kernel_rfl, by kernel_rfl⟩
theorem sz_4 : yat Tryz.prog 4 1 false := ⟨by kernel_rfl, by kernel_rfl⟩
theorem sz_5 : yat Tryz.prog 5 1 false := ⟨by kernel_rfl, by kernel_rfl⟩
theorem sz_6 : yat Tryz.prog 6 1 false := ⟨by kernel_rfl, by kernel_rfl⟩
theorem sz_7 : yat Tryz.prog 7 4 true := ⟨by kernel_rfl, by kernel_rfl⟩
theorem sz_8 : yat Tryz.prog 8 4 true := ⟨by kernel_rfl, by kernel_rfl⟩
theorem sz_9 : yat Tryz.prog 9 1 false := ⟨by kernel_rfl, by kernel_rfl⟩
theorem sz_10 : yat Tryz.prog 10 1 false := ⟨by kernel_rfl, by kernel_rfl⟩
theorem sz_11 : yat Tryz.prog 11 1 false := ⟨by kernel_rfl, by kernel_rfl⟩
theorem sz_12 : yat Tryz.prog 12 1 false := ⟨by kernel_rfl, by kernel_rfl⟩
theorem sz_13 : yat Tryz.prog 13 2 true := ⟨by kernel_rfl, by kernel_rfl⟩
theorem sz_14 : yat Tryz.prog 14 2 true := ⟨by kernel_rfl, by kernel_rfl⟩
theorem sz_15 : yat Tryz.prog 15 1 false := ⟨by kernel_rfl, by kernel_rfl⟩
theorem sz_16 : yat Tryz.prog 16 1 false := ⟨by kernel_rfl, by kernel_rfl⟩
theorem sz_17 : yat Tryz.prog 17 1 false := ⟨by kernel_rfl, by kernel_rfl⟩
theorem sz_18 : yat Tryz.prog 18 1 true := ⟨by kernel_rfl, by kernel_rfl⟩
theorem sz_19 : yat Tryz.prog 19 1 true := ⟨by kernel_rfl, by kernel_rfl⟩
theorem sz_20 : yat Tryz.prog 20 1 false := ⟨by kernel_rfl, by kernel_rfl⟩
theorem sz_21 : yat Tryz.prog 21 1 false := ⟨by kernel_rfl, by kernel_rfl⟩
theorem sz_22 : yat Tryz.prog 22 1 false := ⟨by kernel_rfl, by kernel_rfl⟩
theorem sz_23 : yat Tryz.prog 23 1 false := ⟨by kernel_rfl, by kernel_rfl⟩
theorem sz_24 : yat Tryz.prog 24 1 false := ⟨by kernel_rfl, by kernel_rfl⟩
theorem sz_25 : yat Tryz.prog 25 1 false := ⟨by kernel_rfl, by kernel_rfl⟩
theorem sz_26 : yat Tryz.prog 26 1 false := ⟨by kernel_rfl, by kernel_rfl⟩
theorem sz_28 : yat Tryz.prog 28 1 false := ⟨by kernel_rfl, by kernel_rfl⟩
theorem sz_29 : yat Tryz.prog 29 1 false := ⟨by kernel_rfl, by kernel_rfl⟩
theorem sz_30 : yat Tryz.prog 30 1 false := ⟨by kernel_rfl, by kernel_rfl⟩
theorem sz_31 : yat Tryz.prog 31 1 false := ⟨by kernel_rfl, by kernel_rfl⟩
theorem sz_33 : yat Tryz.prog 33 1 false := ⟨by kernel_rfl, by kernel_rfl⟩
theorem sz_34 : yat Tryz.prog 34 1 false := ⟨by kernel_rfl, by kernel_rfl⟩
theorem sz_35 : yat Tryz.prog 35 1 false := ⟨by kernel_rfl, by kernel_rfl⟩
theorem sz_36 : yat Tryz.prog 36 1 false := ⟨by kernel_rfl, by kernel_rfl⟩
theorem sz_37 : yat Tryz.prog 37 2 true := ⟨by kernel_rfl, by kernel_rfl⟩
theorem sz_38 : yat Tryz.prog 38 2 true := ⟨by kernel_rfl, by kernel_rfl⟩
theorem sz_39 : yat Tryz.prog 39 1 false := ⟨by kernel_rfl, by kernel_rfl⟩
theorem sz_41 : yat Tryz.prog 41 1 false := ⟨by kernel_rfl, by kernel_rfl⟩
theorem sz_42 : yat Tryz.prog 42 3 true := ⟨by kernel_rfl, by kernel_rfl⟩
theorem sz_43 : yat Tryz.prog 43 3 true := ⟨by kernel_rfl, by kernel_rfl⟩
theorem sz_45 : yat Tryz.prog 45 1 false := ⟨by kernel_rfl, by kernel_rfl⟩
theorem sz_46 : yat Tryz.prog 46 1 false := ⟨by kernel_rfl, by kernel_rfl⟩
theorem sz_47 : yat Tryz.prog 47 1 false := ⟨by kernel_rfl, by kernel_rfl⟩
theorem sz_48 : yat Tryz.prog 48 1 false := ⟨by kernel_rfl, by kernel_rfl⟩
theorem sz_49 : yat Tryz.prog 49 1 false := ⟨by kernel_rfl, by kernel_rfl⟩
theorem sz_50 : yat Tryz.prog 50 6 true := ⟨by kernel_rfl, by kernel_rfl⟩
theorem sz_51 : yat Tryz.prog 51 6 true := ⟨by kernel_rfl, by kernel_rfl⟩
theorem sz_52 : yat Tryz.prog 52 1 false := ⟨by kernel_rfl, by kernel_rfl⟩
theorem sz_53 : yat Tryz.prog 53 1 false := ⟨by kernel_rfl, by kernel_rfl⟩
theorem sz_54 : yat Tryz.prog 54 2 true := ⟨by kernel_rfl, by kernel_rfl⟩
theorem sz_55 : yat Tryz.prog 55 2 true := ⟨by kernel_rfl, by kernel_rfl⟩
theorem sz_56 : yat Tryz.prog 56 4 true := ⟨by kernel_rfl, by kernel_rfl⟩
theorem sz_57 : yat Tryz.prog 57 4 true := ⟨by kernel_rfl, by kernel_rfl⟩
theorem sz_58 : yat Tryz.prog 58 1 false := ⟨by kernel_rfl, by kernel_rfl⟩
theorem sz_59 : yat Tryz.prog 59 1 false := ⟨by kernel_rfl, by kernel_rfl⟩
theorem sz_60 : yat Tryz.prog 60 1 false := ⟨by kernel_rfl, by kernel_rfl⟩
theorem sz_61 : yat Tryz.prog 61 1 false := ⟨by kernel_rfl, by kernel_rfl⟩
theorem sz_62 : yat Tryz.prog 62 1 false := ⟨by kernel_rfl, by kernel_rfl⟩
theorem sz_63 : yat Tryz.prog 63 1 false := ⟨by kernel_rfl, by kernel_rfl⟩
theorem sz_64 : yat Tryz.prog 64 1 false := ⟨by kernel_rfl, by kernel_rfl⟩
theorem sz_65 : yat Tryz.prog 65 1 false := ⟨by kernel_rfl, by kernel_rfl⟩
theorem sz_66 : yat Tryz.prog 66 1 false := ⟨by kernel_rfl, by kernel_rfl⟩
theorem sz_67 : yat Tryz.prog 67 4 true := ⟨by kernel_rfl, by kernel_rfl⟩
theorem sz_68 : yat Tryz.prog 68 4 true := ⟨by kernel_rfl, by kernel_rfl⟩
theorem sz_70 : yat Tryz.prog 70 1 false := ⟨by kernel_rfl, by kernel_rfl⟩
theorem sz_71 : yat Tryz.prog 71 2 true := ⟨by kernel_rfl, by kernel_rfl⟩
theorem sz_72 : yat Tryz.prog 72 2 true := ⟨by kernel_rfl, by kernel_rfl⟩
theorem sz_74 : yat Tryz.prog 74 1 false := ⟨by kernel_rfl, by kernel_rfl⟩
theorem sz_75 : yat Tryz.prog 75 1 false := ⟨by kernel_rfl, by kernel_rfl⟩
theorem sz_76 : yat Tryz.prog 76 1 false := ⟨by kernel_rfl, by kernel_rfl⟩
theorem sz_77 : yat Tryz.prog 77 1 false := ⟨by kernel_rfl, by kernel_rfl⟩
theorem sz_78 : yat Tryz.prog 78 1 false := ⟨by kernel_rfl, by kernel_rfl⟩
theorem sz_79 : yat Tryz.prog 79 1 false := ⟨by kernel_rfl, by kernel_rfl⟩
theorem sz_80 : yat Tryz.prog 80 1 false := ⟨by kernel_rfl, by kernel_rfl⟩
theorem sz_81 : yat Tryz.prog 81 1 false := ⟨by kernel_rfl, by kernel_rfl⟩
theorem sz_82 : yat Tryz.prog 82 1 false := ⟨by kernel_rfl, by kernel_rfl⟩
theorem sz_83 : yat Tryz.prog 83 1 false := ⟨by kernel_rfl, by kernel_rfl⟩
theorem sz_84 : yat Tryz.prog 84 1 false := ⟨by kernel_rfl, by kernel_rfl⟩
theorem sz_86 : yat Tryz.prog 86 1 false := ⟨by kernel_rfl, by kernel_rfl⟩
theorem sz_87 : yat Tryz.prog 87 1 false := ⟨by kernel_rfl, by kernel_rfl⟩
theorem sz_88 : yat Tryz.prog 88 1 false := ⟨by kernel_rfl, by kernel_rfl⟩
theorem sz_89 : yat Tryz.prog 89 1 false := ⟨by kernel_rfl, by kernel_rfl⟩
theorem sz_90 : yat Tryz.prog 90 1 false := ⟨by kernel_rfl, by kernel_rfl⟩
theorem sz_91 : yat Tryz.prog 91 1 false := ⟨by kernel_rfl, by kernel_rfl⟩
theorem sz_92 : yat Tryz.prog 92 1 false := ⟨by kernel_rfl, by kernel_rfl⟩
theorem sz_93 : yat Tryz.prog 93 1 false := ⟨by kernel_rfl, by kernel_rfl⟩
theorem sz_95 : yat Tryz.prog 95 1 false := ⟨by kernel_rfl, by kernel_rfl⟩
theorem sz_96 : yat Tryz.prog 96 1 false := ⟨by kernel_rfl, by kernel_rfl⟩
theorem sz_97 : yat Tryz.prog 97 1 false := ⟨by kernel_rfl, by kernel_rfl⟩
theorem sz_98 : yat Tryz.prog 98 1 false := ⟨by kernel_rfl, by kernel_rfl⟩
theorem sz_99 : yat Tryz.prog 99 1 false := ⟨by kernel_rfl, by kernel_rfl⟩
theorem sz_100 : yat Tryz.prog 100 1 false := ⟨by kernel_rfl, by kernel_rfl⟩
theorem sz_102 : yat Tryz.prog 102 1 false := ⟨by kernel_rfl, by kernel_rfl⟩
theorem sz_103 : yat Tryz.prog 103 1 false := ⟨by kernel_rfl, by kernel_rfl⟩
theorem sz_104 : yat Tryz.prog 104 1 false := ⟨by kernel_rfl, by kernel_rfl⟩
theorem sz_105 : yat Tryz.prog 105 1 false := ⟨by kernel_rfl, by kernel_rfl⟩
theorem sz_106 : yat Tryz.prog 106 1 false := ⟨by kernel_rfl, by kernel_rfl⟩
theorem sz_107 : yat Tryz.prog 107 1 false := ⟨by kernel_rfl, by kernel_rfl⟩
theorem sz_108 : yat Tryz.prog 108 1 false := ⟨by kernel_rfl, by kernel_rfl⟩
theorem sz_109 : yat Tryz.prog 109 1 false := ⟨by kernel_rfl, by kernel_rfl⟩
theorem sz_110 : yat Tryz.prog 110 1 false := ⟨by kernel_rfl, by kernel_rfl⟩
theorem sz_111 : yat Tryz.prog 111 1 false := ⟨by kernel_rfl, by kernel_rfl⟩
theorem sz_112 : yat Tryz.prog 112 24 true := ⟨by kernel_rfl, by kernel_rfl⟩
theorem sz_113 : yat Tryz.prog 113 1 false := ⟨by kernel_rfl, by kernel_rfl⟩
theorem sz_114 : yat Tryz.prog 114 1 false := ⟨by kernel_rfl, by kernel_rfl⟩
theorem sz_115 : yat Tryz.prog 115 1 false := ⟨by kernel_rfl, by kernel_rfl⟩
theorem sz_117 : yat Tryz.prog 117 1 false := ⟨by kernel_rfl, by kernel_rfl⟩
theorem sz_118 : yat Tryz.prog 118 1 false := ⟨by kernel_rfl, by kernel_rfl⟩
theorem sz_119 : yat Tryz.prog 119 20 true := ⟨by kernel_rfl, by kernel_rfl⟩
theorem sz_120 : yat Tryz.prog 120 1 false := ⟨by kernel_rfl, by kernel_rfl⟩
theorem sz_121 : yat Tryz.prog 121 65 true := ⟨by kernel_rfl, by kernel_rfl⟩
theorem sz_122 : yat Tryz.prog 122 1 false := ⟨by kernel_rfl, by kernel_rfl⟩
theorem sz_123 : yat Tryz.prog 123 1 false := ⟨by kernel_rfl, by kernel_rfl⟩
theorem sz_124 : yat Tryz.prog 124 1 false := ⟨by kernel_rfl, by kernel_rfl⟩
theorem sz_125 : yat Tryz.prog 125 32 true := ⟨by kernel_rfl, by kernel_rfl⟩
theorem sz_126 : yat Tryz.prog 126 64 true := ⟨by kernel_rfl, by kernel_rfl⟩
theorem sz_127 : yat Tryz.prog 127 4 true := ⟨by kernel_rfl, by kernel_rfl⟩
theorem sz_128 : yat Tryz.prog 128 4 true := ⟨by kernel_rfl, by kernel_rfl⟩
theorem sz_132 : yat Tryz.prog 132 1 false := ⟨by kernel_rfl, by kernel_rfl⟩
theorem sz_133 : yat Tryz.prog 133 1 false := ⟨by kernel_rfl, by kernel_rfl⟩
theorem sz_134 : yat Tryz.prog 134 1 false := ⟨by kernel_rfl, by kernel_rfl⟩
theorem sz_135 : yat Tryz.prog 135 1 false := ⟨by kernel_rfl, by kernel_rfl⟩
theorem sz_136 : yat Tryz.prog 136 1 false := ⟨by kernel_rfl, by kernel_rfl⟩
theorem sz_137 : yat Tryz.prog 137 11 true := ⟨by kernel_rfl, by kernel_rfl⟩
theorem sz_138 : yat Tryz.prog 138 11 true := ⟨by kernel_rfl, by kernel_rfl⟩
def ty_1 : Ty := ⟨.other, 1, false, [.nilFunc]⟩
theorem ok_1 : ycm Tryz.prog 1 ty_1 := ⟨sz_1, yai (by kernel_rfl), trivial⟩
def ty_2 : Ty := ⟨(.int .i64), 1, false, [(.int .i64 0)]⟩
theorem ok_2 : ycm Tryz.prog 2 ty_2 := ⟨sz_2, yai (by kernel_rfl), Tryz.underlying2⟩
def ty_3 : Ty := ⟨(.int .i64), 1, false, [(.int .i64 0)]⟩
theorem ok_3 : ycm Tryz.prog 3 ty_3 := ⟨sz_3, yai (by kernel_rfl), Tryz.underlying3⟩
def ty_4 : Ty := ⟨.bool, 1, false, [(.bool false)]⟩
theorem ok_4 : ycm Tryz.prog 4 ty_4 := ⟨sz_4, yai (by kernel_rfl), Tryz.underlying4⟩
def ty_5 : Ty := ⟨(.int .u8), 1, false, [(.int .u8 0)]⟩
theorem ok_5 : ycm Tryz.prog 5 ty_5 := ⟨sz_5, yai (by kernel_rfl), Tryz.underlying5⟩
def ty_6 : Ty := ⟨(.int .u8), 1, false, [(.int .u8 0)]⟩
theorem ok_6 : ycm Tryz.prog 6 ty_6 := ⟨sz_6, yai (by kernel_rfl), Tryz.underlying6⟩
def ty_7 : Ty := ⟨(.strct [(0, 1, false), (1, 1, false), (2, 1, false), (3, 1, false)]), 4, true, [(.int .i64 0), (.int .i64 0), (.bool false), (.int .u8 0)]⟩
theorem ok_7 : ycm Tryz.prog 7 ty_7 := ⟨sz_7, yai (by kernel_rfl), (ycp Tryz.underlying7 ⟨⟨rfl, sz_2, by decide⟩, ⟨rfl, sz_3, by decide⟩, ⟨rfl, sz_4, by decide⟩, ⟨rfl, sz_6, by decide⟩, trivial⟩)⟩
def ty_8 : Ty := ⟨(.strct [(0, 1, false), (1, 1, false), (2, 1, false), (3, 1, false)]), 4, true, [(.int .i64 0), (.int .i64 0), (.bool false), (.int .u8 0)]⟩
theorem ok_8 : ycm Tryz.prog 8 ty_8 := ⟨sz_8, yai (by kernel_rfl), (ycp Tryz.underlying8 ⟨⟨rfl, sz_2, by decide⟩, ⟨rfl, sz_3, by decide⟩, ⟨rfl, sz_4, by decide⟩, ⟨rfl, sz_6, by decide⟩, trivial⟩)⟩
def ty_9 : Ty := ⟨.string, 1, false, [(.string ByteArray.empty)]⟩
theorem ok_9 : ycm Tryz.prog 9 ty_9 := ⟨sz_9, yai (by kernel_rfl), Tryz.underlying9⟩
def ty_10 : Ty := ⟨.string, 1, false, [(.string ByteArray.empty)]⟩
theorem ok_10 : ycm Tryz.prog 10 ty_10 := ⟨sz_10, yai (by kernel_rfl), Tryz.underlying10⟩
def ty_11 : Ty := ⟨.string, 1, false, [(.string ByteArray.empty)]⟩
theorem ok_11 : ycm Tryz.prog 11 ty_11 := ⟨sz_11, yai (by kernel_rfl), Tryz.underlying11⟩
def ty_12 : Ty := ⟨(.int .u64), 1, false, [(.int .u64 0)]⟩
theorem ok_12 : ycm Tryz.prog 12 ty_12 := ⟨sz_12, yai (by kernel_rfl), Tryz.underlying12⟩
def ty_13 : Ty := ⟨(.strct [(0, 1, false), (1, 1, false)]), 2, true, [(.string ByteArray.empty), (.int .u64 0)]⟩
theorem ok_13 : ycm Tryz.prog 13 ty_13 := ⟨sz_13, yai (by kernel_rfl), (ycp Tryz.underlying13 ⟨⟨rfl, sz_9, by decide⟩, ⟨rfl, sz_12, by decide⟩, trivial⟩)⟩
def ty_14 : Ty := ⟨(.strct [(0, 1, false), (1, 1, false)]), 2, true, [(.string ByteArray.empty), (.int .u64 0)]⟩
theorem ok_14 : ycm Tryz.prog 14 ty_14 := ⟨sz_14, yai (by kernel_rfl), (ycp Tryz.underlying14 ⟨⟨rfl, sz_9, by decide⟩, ⟨rfl, sz_12, by decide⟩, trivial⟩)⟩
def ty_15 : Ty := ⟨.other, 1, false, [(.pointer none)]⟩
theorem ok_15 : ycm Tryz.prog 15 ty_15 := ⟨sz_15, yai (by kernel_rfl), trivial⟩
def ty_16 : Ty := ⟨.other, 1, false, [(.pointer none)]⟩
theorem ok_16 : ycm Tryz.prog 16 ty_16 := ⟨sz_16, yai (by kernel_rfl), trivial⟩
def ty_17 : Ty := ⟨.other, 1, false, [(.pointer none)]⟩
theorem ok_17 : ycm Tryz.prog 17 ty_17 := ⟨sz_17, yai (by kernel_rfl), trivial⟩
def ty_18 : Ty := ⟨(.strct [(0, 1, false)]), 1, true, [(.pointer none)]⟩
theorem ok_18 : ycm Tryz.prog 18 ty_18 := ⟨sz_18, yai (by kernel_rfl), (ycp Tryz.underlying18 ⟨⟨rfl, sz_17, by decide⟩, trivial⟩)⟩
def ty_19 : Ty := ⟨(.strct [(0, 1, false)]), 1, true, [(.pointer none)]⟩
theorem ok_19 : ycm Tryz.prog 19 ty_19 := ⟨sz_19, yai (by kernel_rfl), (ycp Tryz.underlying19 ⟨⟨rfl, sz_17, by decide⟩, trivial⟩)⟩
def ty_20 : Ty := ⟨.other, 1, false, [.nilIface]⟩
theorem ok_20 : ycm Tryz.prog 20 ty_20 := ⟨sz_20, yai (by kernel_rfl), trivial⟩
def ty_21 : Ty := ⟨(.int .i32), 1, false, [(.int .i32 0)]⟩
theorem ok_21 : ycm Tryz.prog 21 ty_21 := ⟨sz_21, yai (by kernel_rfl), Tryz.underlying21⟩
def ty_22 : Ty := ⟨(.slc 9 1 false 16 [(.string ByteArray.empty)]), 1, false, [(.slice none 0 0)]⟩
theorem ok_22 : ycm Tryz.prog 22 ty_22 := ⟨sz_22, yai (by kernel_rfl), ⟨Tryz.underlying22, sz_9, by kernel_rfl, yai (by kernel_rfl), rfl, by decide⟩⟩
def ty_23 : Ty := ⟨.other, 1, false, [.nilFunc]⟩
theorem ok_23 : ycm Tryz.prog 23 ty_23 := ⟨sz_23, yai (by kernel_rfl), trivial⟩
def ty_24 : Ty := ⟨.other, 1, false, [.nilFunc]⟩
theorem ok_24 : ycm Tryz.prog 24 ty_24 := ⟨sz_24, yai (by kernel_rfl), trivial⟩
def ty_25 : Ty := ⟨(.slc 38 2 true 16 [(.int .i64 0), (.int .i64 0)]), 1, false, [(.slice none 0 0)]⟩
theorem ok_25 : ycm Tryz.prog 25 ty_25 := ⟨sz_25, yai (by kernel_rfl), ⟨Tryz.underlying25, sz_38, by kernel_rfl, yai (by kernel_rfl), rfl, by decide⟩⟩
def ty_26 : Ty := ⟨(.int .i64), 1, false, [(.int .i64 0)]⟩
theorem ok_26 : ycm Tryz.prog 26 ty_26 := ⟨sz_26, yai (by kernel_rfl), Tryz.underlying26⟩
def ty_28 : Ty := ⟨.other, 1, false, [.nilFunc]⟩
theorem ok_28 : ycm Tryz.prog 28 ty_28 := ⟨sz_28, yai (by kernel_rfl), trivial⟩
def ty_29 : Ty := ⟨.other, 1, false, [.nilFunc]⟩
theorem ok_29 : ycm Tryz.prog 29 ty_29 := ⟨sz_29, yai (by kernel_rfl), trivial⟩
def ty_30 : Ty := ⟨.other, 1, false, [.nilFunc]⟩
theorem ok_30 : ycm Tryz.prog 30 ty_30 := ⟨sz_30, yai (by kernel_rfl), trivial⟩
def ty_31 : Ty := ⟨.other, 1, false, [.nilFunc]⟩
theorem ok_31 : ycm Tryz.prog 31 ty_31 := ⟨sz_31, yai (by kernel_rfl), trivial⟩
def ty_33 : Ty := ⟨.other, 1, false, [.nilFunc]⟩
theorem ok_33 : ycm Tryz.prog 33 ty_33 := ⟨sz_33, yai (by kernel_rfl), trivial⟩
def ty_34 : Ty := ⟨.other, 1, false, [.nilFunc]⟩
theorem ok_34 : ycm Tryz.prog 34 ty_34 := ⟨sz_34, yai (by kernel_rfl), trivial⟩
def ty_35 : Ty := ⟨.other, 1, false, [.nilFunc]⟩
theorem ok_35 : ycm Tryz.prog 35 ty_35 := ⟨sz_35, yai (by kernel_rfl), trivial⟩
def ty_36 : Ty := ⟨.other, 1, false, [.nilFunc]⟩
theorem ok_36 : ycm Tryz.prog 36 ty_36 := ⟨sz_36, yai (by kernel_rfl), trivial⟩
def ty_37 : Ty := ⟨(.strct [(0, 1, false), (1, 1, false)]), 2, true, [(.int .i64 0), (.int .i64 0)]⟩
theorem ok_37 : ycm Tryz.prog 37 ty_37 := ⟨sz_37, yai (by kernel_rfl), (ycp Tryz.underlying37 ⟨⟨rfl, sz_3, by decide⟩, ⟨rfl, sz_3, by decide⟩, trivial⟩)⟩
def ty_38 : Ty := ⟨(.strct [(0, 1, false), (1, 1, false)]), 2, true, [(.int .i64 0), (.int .i64 0)]⟩
theorem ok_38 : ycm Tryz.prog 38 ty_38 := ⟨sz_38, yai (by kernel_rfl), (ycp Tryz.underlying38 ⟨⟨rfl, sz_3, by decide⟩, ⟨rfl, sz_3, by decide⟩, trivial⟩)⟩
def ty_39 : Ty := ⟨(.slc 68 4 true 32 [(.int .i64 0), (.int .i64 0), (.int .i64 0), (.int .i64 0)]), 1, false, [(.slice none 0 0)]⟩
theorem ok_39 : ycm Tryz.prog 39 ty_39 := ⟨sz_39, yai (by kernel_rfl), ⟨Tryz.underlying39, sz_68, by kernel_rfl, yai (by kernel_rfl), rfl, by decide⟩⟩
def ty_41 : Ty := ⟨.other, 1, false, [.nilFunc]⟩
theorem ok_41 : ycm Tryz.prog 41 ty_41 := ⟨sz_41, yai (by kernel_rfl), trivial⟩
def ty_42 : Ty := ⟨(.strct [(0, 1, false), (1, 1, false), (2, 1, false)]), 3, true, [(.string ByteArray.empty), (.slice none 0 0), (.slice none 0 0)]⟩
theorem ok_42 : ycm Tryz.prog 42 ty_42 := ⟨sz_42, yai (by kernel_rfl), (ycp Tryz.underlying42 ⟨⟨rfl, sz_9, by decide⟩, ⟨rfl, sz_39, by decide⟩, ⟨rfl, sz_22, by decide⟩, trivial⟩)⟩
def ty_43 : Ty := ⟨(.strct [(0, 1, false), (1, 1, false), (2, 1, false)]), 3, true, [(.string ByteArray.empty), (.slice none 0 0), (.slice none 0 0)]⟩
theorem ok_43 : ycm Tryz.prog 43 ty_43 := ⟨sz_43, yai (by kernel_rfl), (ycp Tryz.underlying43 ⟨⟨rfl, sz_9, by decide⟩, ⟨rfl, sz_39, by decide⟩, ⟨rfl, sz_22, by decide⟩, trivial⟩)⟩
def ty_45 : Ty := ⟨.other, 1, false, [.nilFunc]⟩
theorem ok_45 : ycm Tryz.prog 45 ty_45 := ⟨sz_45, yai (by kernel_rfl), trivial⟩
def ty_46 : Ty := ⟨.other, 1, false, [.nilFunc]⟩
theorem ok_46 : ycm Tryz.prog 46 ty_46 := ⟨sz_46, yai (by kernel_rfl), trivial⟩
def ty_47 : Ty := ⟨.other, 1, false, [.nilFunc]⟩
theorem ok_47 : ycm Tryz.prog 47 ty_47 := ⟨sz_47, yai (by kernel_rfl), trivial⟩
def ty_48 : Ty := ⟨.other, 1, false, [.nilFunc]⟩
theorem ok_48 : ycm Tryz.prog 48 ty_48 := ⟨sz_48, yai (by kernel_rfl), trivial⟩
def ty_49 : Ty := ⟨.other, 1, false, [(.pointer none)]⟩
theorem ok_49 : ycm Tryz.prog 49 ty_49 := ⟨sz_49, yai (by kernel_rfl), trivial⟩
def ty_50 : Ty := ⟨(.strct [(0, 1, false), (1, 1, false), (2, 1, false), (3, 1, false), (4, 1, false), (5, 1, false)]), 6, true, [(.string ByteArray.empty), (.slice none 0 0), (.slice none 0 0), (.int .i64 0), (.int .i64 0), (.int .i64 0)]⟩
theorem ok_50 : ycm Tryz.prog 50 ty_50 := ⟨sz_50, yai (by kernel_rfl), (ycp Tryz.underlying50 ⟨⟨rfl, sz_9, by decide⟩, ⟨rfl, sz_22, by decide⟩, ⟨rfl, sz_39, by decide⟩, ⟨rfl, sz_3, by decide⟩, ⟨rfl, sz_26, by decide⟩, ⟨rfl, sz_3, by decide⟩, trivial⟩)⟩
def ty_51 : Ty := ⟨(.strct [(0, 1, false), (1, 1, false), (2, 1, false), (3, 1, false), (4, 1, false), (5, 1, false)]), 6, true, [(.string ByteArray.empty), (.slice none 0 0), (.slice none 0 0), (.int .i64 0), (.int .i64 0), (.int .i64 0)]⟩
theorem ok_51 : ycm Tryz.prog 51 ty_51 := ⟨sz_51, yai (by kernel_rfl), (ycp Tryz.underlying51 ⟨⟨rfl, sz_9, by decide⟩, ⟨rfl, sz_22, by decide⟩, ⟨rfl, sz_39, by decide⟩, ⟨rfl, sz_3, by decide⟩, ⟨rfl, sz_26, by decide⟩, ⟨rfl, sz_3, by decide⟩, trivial⟩)⟩
def ty_52 : Ty := ⟨.other, 1, false, [(.pointer none)]⟩
theorem ok_52 : ycm Tryz.prog 52 ty_52 := ⟨sz_52, yai (by kernel_rfl), trivial⟩
def ty_53 : Ty := ⟨(.slc 5 1 false 1 [(.int .u8 0)]), 1, false, [(.slice none 0 0)]⟩
theorem ok_53 : ycm Tryz.prog 53 ty_53 := ⟨sz_53, yai (by kernel_rfl), ⟨Tryz.underlying53, sz_5, by kernel_rfl, yai (by kernel_rfl), rfl, by decide⟩⟩
def ty_54 : Ty := ⟨(.strct [(0, 1, false), (1, 1, false)]), 2, true, [(.pointer none), (.slice none 0 0)]⟩
theorem ok_54 : ycm Tryz.prog 54 ty_54 := ⟨sz_54, yai (by kernel_rfl), (ycp Tryz.underlying54 ⟨⟨rfl, sz_52, by decide⟩, ⟨rfl, sz_53, by decide⟩, trivial⟩)⟩
def ty_55 : Ty := ⟨(.strct [(0, 1, false), (1, 1, false)]), 2, true, [(.pointer none), (.slice none 0 0)]⟩
theorem ok_55 : ycm Tryz.prog 55 ty_55 := ⟨sz_55, yai (by kernel_rfl), (ycp Tryz.underlying55 ⟨⟨rfl, sz_52, by decide⟩, ⟨rfl, sz_53, by decide⟩, trivial⟩)⟩
def ty_56 : Ty := ⟨(.strct [(0, 2, true), (2, 1, false), (3, 1, false)]), 4, true, [(.pointer none), (.slice none 0 0), (.slice none 0 0), (.slice none 0 0)]⟩
theorem ok_56 : ycm Tryz.prog 56 ty_56 := ⟨sz_56, yai (by kernel_rfl), (ycp Tryz.underlying56 ⟨⟨rfl, sz_55, by decide⟩, ⟨rfl, sz_25, by decide⟩, ⟨rfl, sz_22, by decide⟩, trivial⟩)⟩
def ty_57 : Ty := ⟨(.strct [(0, 2, true), (2, 1, false), (3, 1, false)]), 4, true, [(.pointer none), (.slice none 0 0), (.slice none 0 0), (.slice none 0 0)]⟩
theorem ok_57 : ycm Tryz.prog 57 ty_57 := ⟨sz_57, yai (by kernel_rfl), (ycp Tryz.underlying57 ⟨⟨rfl, sz_55, by decide⟩, ⟨rfl, sz_25, by decide⟩, ⟨rfl, sz_22, by decide⟩, trivial⟩)⟩
def ty_58 : Ty := ⟨.other, 1, false, [.nilFunc]⟩
theorem ok_58 : ycm Tryz.prog 58 ty_58 := ⟨sz_58, yai (by kernel_rfl), trivial⟩
def ty_59 : Ty := ⟨.other, 1, false, [.nilFunc]⟩
theorem ok_59 : ycm Tryz.prog 59 ty_59 := ⟨sz_59, yai (by kernel_rfl), trivial⟩
def ty_60 : Ty := ⟨.other, 1, false, [.nilFunc]⟩
theorem ok_60 : ycm Tryz.prog 60 ty_60 := ⟨sz_60, yai (by kernel_rfl), trivial⟩
def ty_61 : Ty := ⟨.other, 1, false, [.nilFunc]⟩
theorem ok_61 : ycm Tryz.prog 61 ty_61 := ⟨sz_61, yai (by kernel_rfl), trivial⟩
def ty_62 : Ty := ⟨.other, 1, false, [.nilFunc]⟩
theorem ok_62 : ycm Tryz.prog 62 ty_62 := ⟨sz_62, yai (by kernel_rfl), trivial⟩
def ty_63 : Ty := ⟨.other, 1, false, [.nilFunc]⟩
theorem ok_63 : ycm Tryz.prog 63 ty_63 := ⟨sz_63, yai (by kernel_rfl), trivial⟩
def ty_64 : Ty := ⟨.other, 1, false, [.nilFunc]⟩
theorem ok_64 : ycm Tryz.prog 64 ty_64 := ⟨sz_64, yai (by kernel_rfl), trivial⟩
def ty_65 : Ty := ⟨.other, 1, false, [.nilFunc]⟩
theorem ok_65 : ycm Tryz.prog 65 ty_65 := ⟨sz_65, yai (by kernel_rfl), trivial⟩
def ty_66 : Ty := ⟨.other, 1, false, [.nilFunc]⟩
theorem ok_66 : ycm Tryz.prog 66 ty_66 := ⟨sz_66, yai (by kernel_rfl), trivial⟩
def ty_67 : Ty := ⟨(.strct [(0, 1, false), (1, 1, false), (2, 1, false), (3, 1, false)]), 4, true, [(.int .i64 0), (.int .i64 0), (.int .i64 0), (.int .i64 0)]⟩
theorem ok_67 : ycm Tryz.prog 67 ty_67 := ⟨sz_67, yai (by kernel_rfl), (ycp Tryz.underlying67 ⟨⟨rfl, sz_3, by decide⟩, ⟨rfl, sz_3, by decide⟩, ⟨rfl, sz_3, by decide⟩, ⟨rfl, sz_3, by decide⟩, trivial⟩)⟩
def ty_68 : Ty := ⟨(.strct [(0, 1, false), (1, 1, false), (2, 1, false), (3, 1, false)]), 4, true, [(.int .i64 0), (.int .i64 0), (.int .i64 0), (.int .i64 0)]⟩
theorem ok_68 : ycm Tryz.prog 68 ty_68 := ⟨sz_68, yai (by kernel_rfl), (ycp Tryz.underlying68 ⟨⟨rfl, sz_3, by decide⟩, ⟨rfl, sz_3, by decide⟩, ⟨rfl, sz_3, by decide⟩, ⟨rfl, sz_3, by decide⟩, trivial⟩)⟩
def ty_70 : Ty := ⟨.other, 1, false, [.nilFunc]⟩
theorem ok_70 : ycm Tryz.prog 70 ty_70 := ⟨sz_70, yai (by kernel_rfl), trivial⟩
def ty_71 : Ty := ⟨(.strct [(0, 1, false), (1, 1, false)]), 2, true, [(.int .i64 0), (.int .i64 0)]⟩
theorem ok_71 : ycm Tryz.prog 71 ty_71 := ⟨sz_71, yai (by kernel_rfl), (ycp Tryz.underlying71 ⟨⟨rfl, sz_3, by decide⟩, ⟨rfl, sz_26, by decide⟩, trivial⟩)⟩
def ty_72 : Ty := ⟨(.strct [(0, 1, false), (1, 1, false)]), 2, true, [(.int .i64 0), (.int .i64 0)]⟩
theorem ok_72 : ycm Tryz.prog 72 ty_72 := ⟨sz_72, yai (by kernel_rfl), (ycp Tryz.underlying72 ⟨⟨rfl, sz_3, by decide⟩, ⟨rfl, sz_26, by decide⟩, trivial⟩)⟩
def ty_74 : Ty := ⟨.other, 1, false, [.nilFunc]⟩
theorem ok_74 : ycm Tryz.prog 74 ty_74 := ⟨sz_74, yai (by kernel_rfl), trivial⟩
def ty_75 : Ty := ⟨.other, 1, false, [(.pointer none)]⟩
theorem ok_75 : ycm Tryz.prog 75 ty_75 := ⟨sz_75, yai (by kernel_rfl), trivial⟩
def ty_76 : Ty := ⟨.other, 1, false, [.nilFunc]⟩
theorem ok_76 : ycm Tryz.prog 76 ty_76 := ⟨sz_76, yai (by kernel_rfl), trivial⟩
def ty_77 : Ty := ⟨.other, 1, false, [.nilFunc]⟩
theorem ok_77 : ycm Tryz.prog 77 ty_77 := ⟨sz_77, yai (by kernel_rfl), trivial⟩
def ty_78 : Ty := ⟨.other, 1, false, [.nilFunc]⟩
theorem ok_78 : ycm Tryz.prog 78 ty_78 := ⟨sz_78, yai (by kernel_rfl), trivial⟩
def ty_79 : Ty := ⟨.other, 1, false, [.nilFunc]⟩
theorem ok_79 : ycm Tryz.prog 79 ty_79 := ⟨sz_79, yai (by kernel_rfl), trivial⟩
def ty_80 : Ty := ⟨.other, 1, false, [.nilFunc]⟩
theorem ok_80 : ycm Tryz.prog 80 ty_80 := ⟨sz_80, yai (by kernel_rfl), trivial⟩
def ty_81 : Ty := ⟨.other, 1, false, [.nilFunc]⟩
theorem ok_81 : ycm Tryz.prog 81 ty_81 := ⟨sz_81, yai (by kernel_rfl), trivial⟩
def ty_82 : Ty := ⟨.other, 1, false, [(.pointer none)]⟩
theorem ok_82 : ycm Tryz.prog 82 ty_82 := ⟨sz_82, yai (by kernel_rfl), trivial⟩
def ty_83 : Ty := ⟨.other, 1, false, [.nilIface]⟩
theorem ok_83 : ycm Tryz.prog 83 ty_83 := ⟨sz_83, yai (by kernel_rfl), trivial⟩
def ty_84 : Ty := ⟨.other, 1, false, [.nilIface]⟩
theorem ok_84 : ycm Tryz.prog 84 ty_84 := ⟨sz_84, yai (by kernel_rfl), trivial⟩
def ty_86 : Ty := ⟨.other, 1, false, [.nilFunc]⟩
theorem ok_86 : ycm Tryz.prog 86 ty_86 := ⟨sz_86, yai (by kernel_rfl), trivial⟩
def ty_87 : Ty := ⟨.other, 1, false, [.nilFunc]⟩
theorem ok_87 : ycm Tryz.prog 87 ty_87 := ⟨sz_87, yai (by kernel_rfl), trivial⟩
def ty_88 : Ty := ⟨.other, 1, false, [(.pointer none)]⟩
theorem ok_88 : ycm Tryz.prog 88 ty_88 := ⟨sz_88, yai (by kernel_rfl), trivial⟩
def ty_89 : Ty := ⟨.other, 1, false, [.nilFunc]⟩
theorem ok_89 : ycm Tryz.prog 89 ty_89 := ⟨sz_89, yai (by kernel_rfl), trivial⟩
def ty_90 : Ty := ⟨.other, 1, false, [.nilFunc]⟩
theorem ok_90 : ycm Tryz.prog 90 ty_90 := ⟨sz_90, yai (by kernel_rfl), trivial⟩
def ty_91 : Ty := ⟨.other, 1, false, [.nilFunc]⟩
theorem ok_91 : ycm Tryz.prog 91 ty_91 := ⟨sz_91, yai (by kernel_rfl), trivial⟩
def ty_92 : Ty := ⟨.other, 1, false, [.nilFunc]⟩
theorem ok_92 : ycm Tryz.prog 92 ty_92 := ⟨sz_92, yai (by kernel_rfl), trivial⟩
def ty_93 : Ty := ⟨.other, 1, false, [.nilFunc]⟩
theorem ok_93 : ycm Tryz.prog 93 ty_93 := ⟨sz_93, yai (by kernel_rfl), trivial⟩
def ty_95 : Ty := ⟨.other, 1, false, [.nilFunc]⟩
theorem ok_95 : ycm Tryz.prog 95 ty_95 := ⟨sz_95, yai (by kernel_rfl), trivial⟩
def ty_96 : Ty := ⟨.other, 1, false, [.nilFunc]⟩
theorem ok_96 : ycm Tryz.prog 96 ty_96 := ⟨sz_96, yai (by kernel_rfl), trivial⟩
def ty_97 : Ty := ⟨.other, 1, false, [.nilFunc]⟩
theorem ok_97 : ycm Tryz.prog 97 ty_97 := ⟨sz_97, yai (by kernel_rfl), trivial⟩
def ty_98 : Ty := ⟨(.slc 25 1 false 24 [(.slice none 0 0)]), 1, false, [(.slice none 0 0)]⟩
theorem ok_98 : ycm Tryz.prog 98 ty_98 := ⟨sz_98, yai (by kernel_rfl), ⟨Tryz.underlying98, sz_25, by kernel_rfl, yai (by kernel_rfl), rfl, by decide⟩⟩
def ty_99 : Ty := ⟨.other, 1, false, [.nilFunc]⟩
theorem ok_99 : ycm Tryz.prog 99 ty_99 := ⟨sz_99, yai (by kernel_rfl), trivial⟩
def ty_100 : Ty := ⟨.other, 1, false, [.nilFunc]⟩
theorem ok_100 : ycm Tryz.prog 100 ty_100 := ⟨sz_100, yai (by kernel_rfl), trivial⟩
def ty_102 : Ty := ⟨.other, 1, false, [.nilFunc]⟩
theorem ok_102 : ycm Tryz.prog 102 ty_102 := ⟨sz_102, yai (by kernel_rfl), trivial⟩
def ty_103 : Ty := ⟨.other, 1, false, [.nilFunc]⟩
theorem ok_103 : ycm Tryz.prog 103 ty_103 := ⟨sz_103, yai (by kernel_rfl), trivial⟩
def ty_104 : Ty := ⟨.other, 1, false, [.nilFunc]⟩
theorem ok_104 : ycm Tryz.prog 104 ty_104 := ⟨sz_104, yai (by kernel_rfl), trivial⟩
def ty_105 : Ty := ⟨.other, 1, false, [.nilFunc]⟩
theorem ok_105 : ycm Tryz.prog 105 ty_105 := ⟨sz_105, yai (by kernel_rfl), trivial⟩
def ty_106 : Ty := ⟨.other, 1, false, [.nilFunc]⟩
theorem ok_106 : ycm Tryz.prog 106 ty_106 := ⟨sz_106, yai (by kernel_rfl), trivial⟩
def ty_107 : Ty := ⟨(.slc 3 1 false 8 [(.int .i64 0)]), 1, false, [(.slice none 0 0)]⟩
theorem ok_107 : ycm Tryz.prog 107 ty_107 := ⟨sz_107, yai (by kernel_rfl), ⟨Tryz.underlying107, sz_3, by kernel_rfl, yai (by kernel_rfl), rfl, by decide⟩⟩
def ty_108 : Ty := ⟨(.slc 4 1 false 1 [(.bool false)]), 1, false, [(.slice none 0 0)]⟩
theorem ok_108 : ycm Tryz.prog 108 ty_108 := ⟨sz_108, yai (by kernel_rfl), ⟨Tryz.underlying108, sz_4, by kernel_rfl, yai (by kernel_rfl), rfl, by decide⟩⟩
def ty_109 : Ty := ⟨.other, 1, false, [(.pointer none)]⟩
theorem ok_109 : ycm Tryz.prog 109 ty_109 := ⟨sz_109, yai (by kernel_rfl), trivial⟩
def ty_110 : Ty := ⟨.other, 1, false, [.nilFunc]⟩
theorem ok_110 : ycm Tryz.prog 110 ty_110 := ⟨sz_110, yai (by kernel_rfl), trivial⟩
def ty_111 : Ty := ⟨.other, 1, false, [.nilFunc]⟩
theorem ok_111 : ycm Tryz.prog 111 ty_111 := ⟨sz_111, yai (by kernel_rfl), trivial⟩
def ty_112 : Ty := ⟨(.arr 24 1 false), 24, true, [(.int .u8 0), (.int .u8 0), (.int .u8 0), (.int .u8 0), (.int .u8 0), (.int .u8 0), (.int .u8 0), (.int .u8 0), (.int .u8 0), (.int .u8 0), (.int .u8 0), (.int .u8 0), (.int .u8 0), (.int .u8 0), (.int .u8 0), (.int .u8 0), (.int .u8 0), (.int .u8 0), (.int .u8 0), (.int .u8 0), (.int .u8 0), (.int .u8 0), (.int .u8 0), (.int .u8 0)]⟩
theorem ok_112 : ycm Tryz.prog 112 ty_112 := ⟨sz_112, yai (by kernel_rfl), ⟨_, Tryz.underlying112, sz_5⟩⟩
def ty_113 : Ty := ⟨(.int .u64), 1, false, [(.int .u64 0)]⟩
theorem ok_113 : ycm Tryz.prog 113 ty_113 := ⟨sz_113, yai (by kernel_rfl), Tryz.underlying113⟩
def ty_114 : Ty := ⟨.other, 1, false, [.nilFunc]⟩
theorem ok_114 : ycm Tryz.prog 114 ty_114 := ⟨sz_114, yai (by kernel_rfl), trivial⟩
def ty_115 : Ty := ⟨.other, 1, false, [.nilFunc]⟩
theorem ok_115 : ycm Tryz.prog 115 ty_115 := ⟨sz_115, yai (by kernel_rfl), trivial⟩
def ty_117 : Ty := ⟨.other, 1, false, [.nilFunc]⟩
theorem ok_117 : ycm Tryz.prog 117 ty_117 := ⟨sz_117, yai (by kernel_rfl), trivial⟩
def ty_118 : Ty := ⟨.other, 1, false, [.nilFunc]⟩
theorem ok_118 : ycm Tryz.prog 118 ty_118 := ⟨sz_118, yai (by kernel_rfl), trivial⟩
def ty_119 : Ty := ⟨(.arr 20 1 false), 20, true, [(.int .u64 0), (.int .u64 0), (.int .u64 0), (.int .u64 0), (.int .u64 0), (.int .u64 0), (.int .u64 0), (.int .u64 0), (.int .u64 0), (.int .u64 0), (.int .u64 0), (.int .u64 0), (.int .u64 0), (.int .u64 0), (.int .u64 0), (.int .u64 0), (.int .u64 0), (.int .u64 0), (.int .u64 0), (.int .u64 0)]⟩
theorem ok_119 : ycm Tryz.prog 119 ty_119 := ⟨sz_119, yai (by kernel_rfl), ⟨_, Tryz.underlying119, sz_113⟩⟩
def ty_120 : Ty := ⟨(.int .u32), 1, false, [(.int .u32 0)]⟩
theorem ok_120 : ycm Tryz.prog 120 ty_120 := ⟨sz_120, yai (by kernel_rfl), Tryz.underlying120⟩
def ty_121 : Ty := ⟨(.arr 65 1 false), 65, true, [(.int .u8 0), (.int .u8 0), (.int .u8 0), (.int .u8 0), (.int .u8 0), (.int .u8 0), (.int .u8 0), (.int .u8 0), (.int .u8 0), (.int .u8 0), (.int .u8 0), (.int .u8 0), (.int .u8 0), (.int .u8 0), (.int .u8 0), (.int .u8 0), (.int .u8 0), (.int .u8 0), (.int .u8 0), (.int .u8 0), (.int .u8 0), (.int .u8 0), (.int .u8 0), (.int .u8 0), (.int .u8 0), (.int .u8 0), (.int .u8 0), (.int .u8 0), (.int .u8 0), (.int .u8 0), (.int .u8 0), (.int .u8 0), (.int .u8 0), (.int .u8 0), (.int .u8 0), (.int .u8 0), (.int .u8 0), (.int .u8 0), (.int .u8 0), (.int .u8 0), (.int .u8 0), (.int .u8 0), (.int .u8 0), (.int .u8 0), (.int .u8 0), (.int .u8 0), (.int .u8 0), (.int .u8 0), (.int .u8 0), (.int .u8 0), (.int .u8 0), (.int .u8 0), (.int .u8 0), (.int .u8 0), (.int .u8 0), (.int .u8 0), (.int .u8 0), (.int .u8 0), (.int .u8 0), (.int .u8 0), (.int .u8 0), (.int .u8 0), (.int .u8 0), (.int .u8 0), (.int .u8 0)]⟩
theorem ok_121 : ycm Tryz.prog 121 ty_121 := ⟨sz_121, yai (by kernel_rfl), ⟨_, Tryz.underlying121, sz_5⟩⟩
def ty_122 : Ty := ⟨(.int .u64), 1, false, [(.int .u64 0)]⟩
theorem ok_122 : ycm Tryz.prog 122 ty_122 := ⟨sz_122, yai (by kernel_rfl), Tryz.underlying122⟩
def ty_123 : Ty := ⟨.other, 1, false, [.nilFunc]⟩
theorem ok_123 : ycm Tryz.prog 123 ty_123 := ⟨sz_123, yai (by kernel_rfl), trivial⟩
def ty_124 : Ty := ⟨.other, 1, false, [.nilFunc]⟩
theorem ok_124 : ycm Tryz.prog 124 ty_124 := ⟨sz_124, yai (by kernel_rfl), trivial⟩
def ty_125 : Ty := ⟨(.arr 32 1 false), 32, true, [(.int .u8 0), (.int .u8 0), (.int .u8 0), (.int .u8 0), (.int .u8 0), (.int .u8 0), (.int .u8 0), (.int .u8 0), (.int .u8 0), (.int .u8 0), (.int .u8 0), (.int .u8 0), (.int .u8 0), (.int .u8 0), (.int .u8 0), (.int .u8 0), (.int .u8 0), (.int .u8 0), (.int .u8 0), (.int .u8 0), (.int .u8 0), (.int .u8 0), (.int .u8 0), (.int .u8 0), (.int .u8 0), (.int .u8 0), (.int .u8 0), (.int .u8 0), (.int .u8 0), (.int .u8 0), (.int .u8 0), (.int .u8 0)]⟩
theorem ok_125 : ycm Tryz.prog 125 ty_125 := ⟨sz_125, yai (by kernel_rfl), ⟨_, Tryz.underlying125, sz_5⟩⟩
def ty_126 : Ty := ⟨(.arr 64 1 false), 64, true, [(.int .u8 0), (.int .u8 0), (.int .u8 0), (.int .u8 0), (.int .u8 0), (.int .u8 0), (.int .u8 0), (.int .u8 0), (.int .u8 0), (.int .u8 0), (.int .u8 0), (.int .u8 0), (.int .u8 0), (.int .u8 0), (.int .u8 0), (.int .u8 0), (.int .u8 0), (.int .u8 0), (.int .u8 0), (.int .u8 0), (.int .u8 0), (.int .u8 0), (.int .u8 0), (.int .u8 0), (.int .u8 0), (.int .u8 0), (.int .u8 0), (.int .u8 0), (.int .u8 0), (.int .u8 0), (.int .u8 0), (.int .u8 0), (.int .u8 0), (.int .u8 0), (.int .u8 0), (.int .u8 0), (.int .u8 0), (.int .u8 0), (.int .u8 0), (.int .u8 0), (.int .u8 0), (.int .u8 0), (.int .u8 0), (.int .u8 0), (.int .u8 0), (.int .u8 0), (.int .u8 0), (.int .u8 0), (.int .u8 0), (.int .u8 0), (.int .u8 0), (.int .u8 0), (.int .u8 0), (.int .u8 0), (.int .u8 0), (.int .u8 0), (.int .u8 0), (.int .u8 0), (.int .u8 0), (.int .u8 0), (.int .u8 0), (.int .u8 0), (.int .u8 0), (.int .u8 0)]⟩
theorem ok_126 : ycm Tryz.prog 126 ty_126 := ⟨sz_126, yai (by kernel_rfl), ⟨_, Tryz.underlying126, sz_5⟩⟩
def ty_127 : Ty := ⟨(.strct [(0, 1, false), (1, 1, false), (2, 1, false), (3, 1, false)]), 4, true, [(.pointer none), (.pointer none), (.pointer none), (.string ByteArray.empty)]⟩
theorem ok_127 : ycm Tryz.prog 127 ty_127 := ⟨sz_127, yai (by kernel_rfl), (ycp Tryz.underlying127 ⟨⟨rfl, sz_17, by decide⟩, ⟨rfl, sz_17, by decide⟩, ⟨rfl, sz_17, by decide⟩, ⟨rfl, sz_9, by decide⟩, trivial⟩)⟩
def ty_128 : Ty := ⟨(.strct [(0, 1, false), (1, 1, false), (2, 1, false), (3, 1, false)]), 4, true, [(.pointer none), (.pointer none), (.pointer none), (.string ByteArray.empty)]⟩
theorem ok_128 : ycm Tryz.prog 128 ty_128 := ⟨sz_128, yai (by kernel_rfl), (ycp Tryz.underlying128 ⟨⟨rfl, sz_17, by decide⟩, ⟨rfl, sz_17, by decide⟩, ⟨rfl, sz_17, by decide⟩, ⟨rfl, sz_9, by decide⟩, trivial⟩)⟩
def ty_132 : Ty := ⟨(.int .u8), 1, false, [(.int .u8 0)]⟩
theorem ok_132 : ycm Tryz.prog 132 ty_132 := ⟨sz_132, yai (by kernel_rfl), Tryz.underlying132⟩
def ty_133 : Ty := ⟨(.int .u8), 1, false, [(.int .u8 0)]⟩
theorem ok_133 : ycm Tryz.prog 133 ty_133 := ⟨sz_133, yai (by kernel_rfl), Tryz.underlying133⟩
def ty_134 : Ty := ⟨.other, 1, false, [.nilFunc]⟩
theorem ok_134 : ycm Tryz.prog 134 ty_134 := ⟨sz_134, yai (by kernel_rfl), trivial⟩
def ty_135 : Ty := ⟨(.int .i32), 1, false, [(.int .i32 0)]⟩
theorem ok_135 : ycm Tryz.prog 135 ty_135 := ⟨sz_135, yai (by kernel_rfl), Tryz.underlying135⟩
def ty_136 : Ty := ⟨(.int .i32), 1, false, [(.int .i32 0)]⟩
theorem ok_136 : ycm Tryz.prog 136 ty_136 := ⟨sz_136, yai (by kernel_rfl), Tryz.underlying136⟩
def ty_137 : Ty := ⟨(.strct [(0, 1, false), (1, 1, false), (2, 1, false), (3, 1, false), (4, 1, false), (5, 1, false), (6, 1, false), (7, 1, false), (8, 1, false), (9, 1, false), (10, 1, false)]), 11, true, [(.int .u64 0), (.int .u64 0), (.int .u32 0), (.int .u8 0), (.int .u8 0), (.int .u8 0), (.int .u8 0), .nilFunc, (.pointer none), (.int .i32 0), (.int .i32 0)]⟩
theorem ok_137 : ycm Tryz.prog 137 ty_137 := ⟨sz_137, yai (by kernel_rfl), (ycp Tryz.underlying137 ⟨⟨rfl, sz_12, by decide⟩, ⟨rfl, sz_12, by decide⟩, ⟨rfl, sz_120, by decide⟩, ⟨rfl, sz_132, by decide⟩, ⟨rfl, sz_5, by decide⟩, ⟨rfl, sz_5, by decide⟩, ⟨rfl, sz_133, by decide⟩, ⟨rfl, sz_134, by decide⟩, ⟨rfl, sz_88, by decide⟩, ⟨rfl, sz_135, by decide⟩, ⟨rfl, sz_136, by decide⟩, trivial⟩)⟩
def ty_138 : Ty := ⟨(.strct [(0, 1, false), (1, 1, false), (2, 1, false), (3, 1, false), (4, 1, false), (5, 1, false), (6, 1, false), (7, 1, false), (8, 1, false), (9, 1, false), (10, 1, false)]), 11, true, [(.int .u64 0), (.int .u64 0), (.int .u32 0), (.int .u8 0), (.int .u8 0), (.int .u8 0), (.int .u8 0), .nilFunc, (.pointer none), (.int .i32 0), (.int .i32 0)]⟩
theorem ok_138 : ycm Tryz.prog 138 ty_138 := ⟨sz_138, yai (by kernel_rfl), (ycp Tryz.underlying138 ⟨⟨rfl, sz_12, by decide⟩, ⟨rfl, sz_12, by decide⟩, ⟨rfl, sz_120, by decide⟩, ⟨rfl, sz_132, by decide⟩, ⟨rfl, sz_5, by decide⟩, ⟨rfl, sz_5, by decide⟩, ⟨rfl, sz_133, by decide⟩, ⟨rfl, sz_134, by decide⟩, ⟨rfl, sz_88, by decide⟩, ⟨rfl, sz_135, by decide⟩, ⟨rfl, sz_136, by decide⟩, trivial⟩)⟩
def TT : Nat → Option Ty := tlook [(1, ty_1), (2, ty_2), (3, ty_3), (4, ty_4), (5, ty_5), (6, ty_6), (7, ty_7), (8, ty_8), (9, ty_9), (10, ty_10), (11, ty_11), (12, ty_12), (13, ty_13), (14, ty_14), (15, ty_15), (16, ty_16), (17, ty_17), (18, ty_18), (19, ty_19), (20, ty_20), (21, ty_21), (22, ty_22), (23, ty_23), (24, ty_24), (25, ty_25), (26, ty_26), (28, ty_28), (29, ty_29), (30, ty_30), (31, ty_31), (33, ty_33), (34, ty_34), (35, ty_35), (36, ty_36), (37, ty_37), (38, ty_38), (39, ty_39), (41, ty_41), (42, ty_42), (43, ty_43), (45, ty_45), (46, ty_46), (47, ty_47), (48, ty_48), (49, ty_49), (50, ty_50), (51, ty_51), (52, ty_52), (53, ty_53), (54, ty_54), (55, ty_55), (56, ty_56), (57, ty_57), (58, ty_58), (59, ty_59), (60, ty_60), (61, ty_61), (62, ty_62), (63, ty_63), (64, ty_64), (65, ty_65), (66, ty_66), (67, ty_67), (68, ty_68), (70, ty_70), (71, ty_71), (72, ty_72), (74, ty_74), (75, ty_75), (76, ty_76), (77, ty_77), (78, ty_78), (79, ty_79), (80, ty_80), (81, ty_81), (82, ty_82), (83, ty_83), (84, ty_84), (86, ty_86), (87, ty_87), (88, ty_88), (89, ty_89), (90, ty_90), (91, ty_91), (92, ty_92), (93, ty_93), (95, ty_95), (96, ty_96), (97, ty_97), (98, ty_98), (99, ty_99), (100, ty_100), (102, ty_102), (103, ty_103), (104, ty_104), (105, ty_105), (106, ty_106), (107, ty_107), (108, ty_108), (109, ty_109), (110, ty_110), (111, ty_111), (112, ty_112), (113, ty_113), (114, ty_114), (115, ty_115), (117, ty_117), (118, ty_118), (119, ty_119), (120, ty_120), (121, ty_121), (122, ty_122), (123, ty_123), (124, ty_124), (125, ty_125), (126, ty_126), (127, ty_127), (128, ty_128), (132, ty_132), (133, ty_133), (134, ty_134), (135, ty_135), (136, ty_136), (137, ty_137), (138, ty_138)]
theorem tok : TOK Tryz.prog TT := tok_of ⟨ok_1, ok_2, ok_3, ok_4, ok_5, ok_6, ok_7, ok_8, ok_9, ok_10, ok_11, ok_12, ok_13, ok_14, ok_15, ok_16, ok_17, ok_18, ok_19, ok_20, ok_21, ok_22, ok_23, ok_24, ok_25, ok_26, ok_28, ok_29, ok_30, ok_31, ok_33, ok_34, ok_35, ok_36, ok_37, ok_38, ok_39, ok_41, ok_42, ok_43, ok_45, ok_46, ok_47, ok_48, ok_49, ok_50, ok_51, ok_52, ok_53, ok_54, ok_55, ok_56, ok_57, ok_58, ok_59, ok_60, ok_61, ok_62, ok_63, ok_64, ok_65, ok_66, ok_67, ok_68, ok_70, ok_71, ok_72, ok_74, ok_75, ok_76, ok_77, ok_78, ok_79, ok_80, ok_81, ok_82, ok_83, ok_84, ok_86, ok_87, ok_88, ok_89, ok_90, ok_91, ok_92, ok_93, ok_95, ok_96, ok_97, ok_98, ok_99, ok_100, ok_102, ok_103, ok_104, ok_105, ok_106, ok_107, ok_108, ok_109, ok_110, ok_111, ok_112, ok_113, ok_114, ok_115, ok_117, ok_118, ok_119, ok_120, ok_121, ok_122, ok_123, ok_124, ok_125, ok_126, ok_127, ok_128, ok_132, ok_133, ok_134, ok_135, ok_136, ok_137, ok_138, trivial⟩
theorem mixed : Tryz.prog.follows .mixedOrders = true := by kernel_rfl
end Go.Proofs.YtcpgpiabeimefaaGreatDoor
set_option linter.unusedVariables false
namespace Go.Proofs.YtcpgpiabeimefaaGreatDoor
open Go.RowKit
variable {N : Nat} {ops : Array Oper} {lf : Oper → Bool} {Q : SS → Prop} {t : List (Nat × AV)} {h : List (Nat × Option LObj)} {rest : List Oper} {d : Nat} {op : Op} {ty : TypeId} {pos : String} {af : Array Edge} {gd : Option (Nat × Bool)} {r : AV}
theorem zI {z : Int} (k : Lex Tryz.prog N ops lf Q rest (S ((d, .v (.int .i64 z)) :: t) h)) (hr : stepC TT t h op ty = some (.v (.int .i64 (IntKind.i64.wrap z))) := by rfl) (h0 : -9223372036854775808 ≤ z ∧ z ≤ 9223372036854775807 := by constructor <;> omega) (hw : ybh ops (ybj t) ⟨some d, op, ty, pos, af, gd⟩ = some true := by rfl) (hd : Nat.blt d N = true := by rfl) : Lex Tryz.prog N ops lf Q (⟨some d, op, ty, pos, af, gd⟩ :: rest) (S t h) := L_int tok hr h0 hw hd k
theorem zL {ti e es eb sz z : Nat} {ea ag : Bool} {ez z0 : List Value} {x : Operand} {α : Type} {f : α → List AV} {l : List α} (k : Lex Tryz.prog N ops lf Q rest (S ((d, .v (.int .i64 l.length)) :: t) h)) (hk : TT ti = some ⟨.slc e es ea eb ez, sz, ag, z0⟩ := by rfl) (hx : evF (ybj t) x = some (.sl z (l.map f)) := by rfl) (hw : ybh ops (ybj t) ⟨some d, .call { callee := .builtin .len, args := #[x], argTypes := #[ti] }, ty, pos, af, gd⟩ = some true := by rfl) (hd : Nat.blt d N = true := by rfl) : Lex Tryz.prog N ops lf Q (⟨some d, .call { callee := .builtin .len, args := #[x], argTypes := #[ti] }, ty, pos, af, gd⟩ :: rest) (S t h) := L_lenMap tok hk hx hw hd k
theorem zC  (k : Lex Tryz.prog N ops lf Q rest (S ((d, r) :: t) h)) (hr : stepC TT t h op ty = some r := by rfl) (hw : ybh ops (ybj t) ⟨some d, op, ty, pos, af, gd⟩ = some true := by rfl) (hd : Nat.blt d N = true := by rfl) : Lex Tryz.prog N ops lf Q (⟨some d, op, ty, pos, af, gd⟩ :: rest) (S t h) := L_calm tok hr hw hd k
theorem zK (k : Lex Tryz.prog N ops lf Q rest (S ((d, .v undef) :: t) h)) (hw : ybh ops (ybj t) ⟨some d, op, ty, pos, af, gd⟩ = some false := by rfl) (hd : Nat.blt d N = true := by rfl) : Lex Tryz.prog N ops lf Q (⟨some d, op, ty, pos, af, gd⟩ :: rest) (S t h) := L_skip hw hd k
theorem zB {elem : TypeId} {x : Operand} {y : AV} {cs : List AV} (k : Lex Tryz.prog N ops lf Q rest (S ((d, .lp d 0) :: t) ((d, some (.cells cs)) :: h))) (hx : evF (ybj t) x = some y := by rfl) (hcs : yff y = some cs := by rfl) (h1 : yfi d t = true := by rfl) (h2 : yer d h = true := by rfl) (hm : ment.mentL d cs = false := by rfl) (hl : lf ⟨some d, .box elem x, ty, pos, af, gd⟩ = true := by rfl) (hw : ybh ops (ybj t) ⟨some d, .box elem x, ty, pos, af, gd⟩ = some true := by rfl) (hd : Nat.blt d N = true := by rfl) : Lex Tryz.prog N ops lf Q (⟨some d, .box elem x, ty, pos, af, gd⟩ :: rest) (S t h) := L_box hx hcs h1 h2 hm hl hw hd k
theorem zA {elem : TypeId} {y : Ty} (k : Lex Tryz.prog N ops lf Q rest (S ((d, .lp d 0) :: t) ((d, some (.cells (vMap y.zero))) :: h))) (hy : TT elem = some y := by rfl) (hone : y.zero.all Value.oneCell' = true := by rfl) (h1 : yfi d t = true := by rfl) (h2 : yer d h = true := by rfl) (hl : lf ⟨some d, .alloc elem, ty, pos, af, gd⟩ = true := by rfl) (hw : ybh ops (ybj t) ⟨some d, .alloc elem, ty, pos, af, gd⟩ = some true := by rfl) (hd : Nat.blt d N = true := by rfl) : Lex Tryz.prog N ops lf Q (⟨some d, .alloc elem, ty, pos, af, gd⟩ :: rest) (S t h) := L_alloc tok hy hone h1 h2 hl hw hd k
theorem zS {ti : Nat} {y : Ty} {x v : Operand} {id off : Nat} {xs cs ys : List AV} {u : AV} (k : Lex Tryz.prog N ops lf Q rest (S t ((id, some (.cells ys)) :: h))) (hy : TT ti = some y := by rfl) (hx : evF (ybj t) x = some (.lp id off) := by rfl) (hv : evF (ybj t) v = some u := by rfl) (hcs : yff u = some cs := by rfl) (hcl : Nat.beq cs.length y.size = true := by rfl) (hh : yaq h id = some (.cells xs) := by rfl) (hsp : spliceN off cs xs = some ys := by rfl) (hl : lf ⟨none, .store ti x v, ty, pos, af, gd⟩ = true := by rfl) (hw : ybh ops (ybj t) ⟨none, .store ti x v, ty, pos, af, gd⟩ = some true := by rfl) : Lex Tryz.prog N ops lf Q (⟨none, .store ti x v, ty, pos, af, gd⟩ :: rest) (S t h) := L_store tok hy hx hv hcs hcl hh hsp hl hw k
theorem zU {ti : Nat} {y : Ty} {parts : List (Nat × Operand)} {ps : List (Nat × AV)} (k : Lex Tryz.prog N ops lf Q rest (S ((d, r) :: t) h)) (hy : TT ti = some y := by rfl) (hone : y.zero.all Value.oneCell' = true := by rfl) (hps : evP (evF (ybj t)) parts = some ps := by rfl) (hr : buildC TT ti ps = some r := by rfl) (hw : ybh ops (ybj t) ⟨some d, .build ti parts.toArray, ty, pos, af, gd⟩ = some true := by rfl) (hd : Nat.blt d N = true := by rfl) : Lex Tryz.prog N ops lf Q (⟨some d, .build ti parts.toArray, ty, pos, af, gd⟩ :: rest) (S t h) := L_build tok hy hone hps hr hw hd k
theorem zV {ti e es eb sz len : Nat} {ea ag : Bool} {ez z : List Value} {parts : List (Nat × Operand)} {ps : List (Nat × AV)} {ys : List AV} {rows : List (List AV)} (k : Lex Tryz.prog N ops lf Q rest (S ((d, .sl es rows) :: t) h)) (hk : TT ti = some ⟨.slc e es ea eb ez, sz, ag, z⟩ := by rfl) (hone : ez.all Value.oneCell' = true := by rfl) (hps : evP (evF (ybj t)) parts = some ps := by rfl) (hf : fillA (fun i => some (i * es, es)) (repA len (vMap ez)) ps = some ys := by rfl) (hpu : ybw.pureL ys = true := by rfl) (hch : chunkA es len ys = some rows := by rfl) (hlim : Nat.ble (len * es) 16777216 = true := by rfl) (hw : ybh ops (ybj t) ⟨some d, .buildSlice ti len parts.toArray, ty, pos, af, gd⟩ = some true := by rfl) (hd : Nat.blt d N = true := by rfl) : Lex Tryz.prog N ops lf Q (⟨some d, .buildSlice ti len parts.toArray, ty, pos, af, gd⟩ :: rest) (S t h) := L_buildSlice tok hk hone hps hf hpu hch hlim hw hd k
theorem zF {f : Nat} {caps : List Operand} {xs : List AV} (k : Lex Tryz.prog N ops lf Q rest (S ((d, .fn f xs) :: t) h)) (hx : evL (evF (ybj t)) caps = some xs := by rfl) (hw : ybh ops (ybj t) ⟨some d, .makeFunc (.func f) #[] caps.toArray, ty, pos, af, gd⟩ = some true := by rfl) (hd : Nat.blt d N = true := by rfl) : Lex Tryz.prog N ops lf Q (⟨some d, .makeFunc (.func f) #[] caps.toArray, ty, pos, af, gd⟩ :: rest) (S t h) := L_makeFunc hx hw hd k
theorem zX {ti e es eb sz : Nat} {ea ag : Bool} {ez z : List Value} {x y : Operand} {ki : IntKind} {i : Int} {rows : List (List AV)} {row : List AV} (k : Lex Tryz.prog N ops lf Q rest (S ((d, .dp row 0) :: t) h)) (hk : TT ti = some ⟨.slc e es ea eb ez, sz, ag, z⟩ := by rfl) (hx : evF (ybj t) x = some (.sl es rows) := by rfl) (hy : evF (ybj t) y = some (.v (.int ki i)) := by rfl) (h0 : 0 ≤ i := by omega) (hrow : rows[i.toNat]? = some row := by first | exact yeq (by assumption) | exact row_mapI (by assumption)) (hw : ybh ops (ybj t) ⟨some d, .indexAddr ti x y, ty, pos, af, gd⟩ = some true := by rfl) (hd : Nat.blt d N = true := by rfl) : Lex Tryz.prog N ops lf Q (⟨some d, .indexAddr ti x y, ty, pos, af, gd⟩ :: rest) (S t h) := yci tok hk hx hy h0 hrow hw hd k
theorem zR {Q : Exit → SS → Prop} {s : SS} {id : Nat} {l : List Oper} (k : Lex Tryz.prog N l.toArray lfT (Q .normal) l s) (hn : noDefer l = true := by rfl) : A Tryz.prog N (.region id l.toArray false) Q s := yah (lf := lfT) hn k
theorem zD {Q : Exit → SS → Prop} {s : SS} {id : Nat} {l : List Oper} (k : Lex Tryz.prog N l.toArray lf0 (Q .normal) l s) (hB : chkOps lf0 l = true := by kernel_rfl) (hD : dstsOk N l = true := by rfl) : A Tryz.prog N (.region id l.toArray true) Q s := ycf (lf := lf0) mixed hB hD k
theorem zT {Q : Exit → SS → Prop} {s : SS} {c : Operand} {x y : Code} (k : A Tryz.prog N x Q s) (hc : evF s.t c = some (.v (.bool true)) := by rfl) : A Tryz.prog N (.cond c x y) Q s := yap hc (fun _ => k) (fun e => by cases e)
theorem zE {Q : Exit → SS → Prop} {s : SS} {c : Operand} {x y : Code} (k : A Tryz.prog N y Q s) (hc : evF s.t c = some (.v (.bool false)) := by rfl) : A Tryz.prog N (.cond c x y) Q s := yap hc (fun e => by cases e) (fun _ => k)
end Go.Proofs.YtcpgpiabeimefaaGreatDoor
set_option linter.unusedVariables false
set_option maxHeartbeats 4000000
namespace Go.Proofs.YtcpgpiabeimefaaGreatDoor
open Go.RowKit
def DieAt (P : Program) (N : Nat) (o : Oper) (s : SS) (D : List PanicEntry → SS → Prop) : Prop :=
  ∀ (B : Bse) (ok0 : Nat → Prop) (lv : Live) (a : Act) (w : World), Sim B ok0 N s lv a w → ∀ (K : Act → World → Prop) (Q : Exit → Act → World → Prop), (∀ ch a' w', (∃ s' lv', D ch s' ∧ Sim B ok0 N s' lv' a' w') → Q (.panic ch) a' w') → o.wp P a w K Q
variable {P : Program} {N : Nat}
theorem lex_opsK {ops : Array Oper} {lf : Oper → Bool} {Q : SS → Prop} {B : Bse} {ok0 : Nat → Prop} {Q' : Exit → Act → World → Prop} {n : Nat} {rest : List Nat} (hQ : ∀ s lv a w, Q s → Sim B ok0 N s lv a w → wpOpsIn (FW B.rd) n P ops Q' rest a w) {l : List Oper} {s : SS} (hnd : ∀ (i : Nat) (o : Oper), ops[i]? = some o → isDefer o.op = false)
    (h : Lex P N ops lf Q l s) : ∀ (k : Nat), (∀ (j : Nat) (o : Oper), l[j]? = some o → ops[k + j]? = some o) → ∀ (lv : Live) (a : Act) (w : World), Sim B ok0 N s lv a w → wpOpsIn (FW B.rd) n P ops Q' (List.range' k l.length ++ rest) a w := by
  induction h with
  | nil h => intro k hl lv a w hs; exact hQ _ lv a w h hs
  | @calm o l s r hw hd hy k ih =>
    intro k hl lv a w hs
    have h0 : ops[k]? = some o := by simpa using hl 0 o rfl
    simp only [List.length_cons, List.range'_succ, List.cons_append, wpOpsIn, h0, hs.wanted hw, if_true]
    exact oper_FW (hnd k o h0) (yield_wp hs hd hy Q' fun a' w' hs' => ih (k + 1) (fun j o' ho' => by have := hl (j + 1) o' (by simpa using ho'); rwa [show k + (j + 1) = k + 1 + j by omega] at this) lv a' w' hs')
  | @skip o l s hw hd k ih =>
    intro k hl lv a w hs
    have h0 : ops[k]? = some o := by simpa using hl 0 o rfl
    simp only [List.length_cons, List.range'_succ, List.cons_append, wpOpsIn, h0, hs.wanted hw, Bool.false_eq_true, if_false]
    exact ⟨fun _ _ => trivial, ih (k + 1) (fun j o' ho' => by have := hl (j + 1) o' (by simpa using ho'); rwa [show k + (j + 1) = k + 1 + j by omega] at this) lv _ w (hs.put hd hs.inv (Below.refl _ _) (.v _))⟩
  | @loud o l s R hl' hw hy k ih =>
    intro k hl lv a w hs
    have h0 : ops[k]? = some o := by simpa using hl 0 o rfl
    simp only [List.length_cons, List.range'_succ, List.cons_append, wpOpsIn, h0, hs.wanted hw, if_true]
    refine oper_FW (hnd k o h0) (Oper.wp_mono (fun a' w' ⟨s', lv', hR, hs'⟩ => ?_) (hy B ok0 lv a w hs Q'))
    exact ih s' hR (k + 1) (fun j o' ho' => by have := hl (j + 1) o' (by simpa using ho'); rwa [show k + (j + 1) = k + 1 + j by omega] at this) lv' a' w' hs'
  | @split l s d b hb k ih =>
    intro k hl lv a w hs
    refine ih b rfl k hl lv a w ?_
    rw [updF_same hb]
    exact hs
theorem ybb {Q : Exit → SS → Prop} {s : SS} {lf : Oper → Bool} {id : Nat} {l : List Oper} (k : Nat) {o : Oper} {l1 : List Oper} (hnd : noDefer l = true) (hk : l[k]? = some o) (h1 : l.take k = l1) (h : Lex P N l.toArray lf (fun s1 => ybh l.toArray s1.t o = some true ∧ DieAt P N o s1 fun ch s' => Q (.panic ch) s') l1 s) : A P N (.region id l.toArray false) Q s := by
  intro B ok0 lv a w hs
  have hlt := (List.getElem?_eq_some_iff.1 hk).1
  have hlen : l1.length = k := by rw [← h1, List.length_take]; omega
  refine wpIn_region ?_
  have hsp : List.range l.toArray.size = List.range' 0 l1.length ++ (k :: List.range' (k + 1) (l.length - k - 1)) := by
    rw [List.size_toArray, List.range_eq_range', hlen]
    have e : l.length = k + ((l.length - k - 1) + 1) := by omega
    conv => lhs; rw [e]
    rw [← List.range'_append_1, Nat.zero_add, List.range'_succ]
  rw [hsp]
  refine lex_opsK (fun s1 lv1 a1 w1 hq hs1 => ?_) (noDefer_get hnd) h 0 (fun j o' ho' => ?_) lv a w hs
  · have h0 : l.toArray[k]? = some o := by simpa using hk
    simp only [wpOpsIn, h0, hs1.wanted hq.1, if_true]
    exact oper_FW (noDefer_get hnd k o h0) (hq.2 B ok0 lv1 a1 w1 hs1 _ _ fun ch a' w' hh => hh)
  · rw [← h1, List.getElem?_take] at ho'
    split at ho'
    · rw [Nat.zero_add]; simpa using ho'
    · cases ho'
def ConP (P : Program) (f : FuncId) (args : List AV) (hs : Nat → Option LObj) (ch : List PanicEntry) : Prop :=
  HasBody P f ∧ ∀ (ok0 : Nat → Prop) (lv : Live) (w : World) (us : List Value), Inv (yee w lv) ok0 hs lv w → ycd (ybq (yee w lv) ok0 lv w) w lv args us →
    Calls P f us.toArray w fun e w' => e = .panicked ch ∧ ∃ lv', Inv (yee w lv) ok0 (fun _ => none) lv' w'
def EndsP (ch : List PanicEntry) : Exit → SS → Prop
  | .panic c, _ => c = ch
  | _, _ => False
theorem leaves_marksP {P : Program} {fn : Func} {R : Ending → World → Prop} {B : Bse} {ok0 : Nat → Prop} {N : Nat} {s : SS} {lv : Live} (hB : B.dl = []) {n : Nat} {fr : FrameMode} {ch : List PanicEntry} (hfr : fr = .panicking ch) {tm : Array Value}
    (fin : ∀ (a : Act) (w : World), Sim B ok0 N s lv a w → LeavesIn Fence.wide n P fn tm R [] fr w) : ∀ (ms : List Deferred) (a : Act) (w : World), a.defers = ms → Sim B ok0 N s lv a w → LeavesInM Fence.wide n P fn tm R a.defers fr w
  | [], a, w, hm, hs => by rw [hm]; exact fin a w hs
  | d :: ms, a, w, hm, hs => by
    obtain ⟨ms', h1, hn, h2⟩ := hs.defers
    rw [hB, List.append_nil, hm] at h1
    subst h1
    obtain ⟨D, hd, hD, hge⟩ := h2 d (by simp)
    rw [hm]
    refine ⟨by rw [hfr]; simp, .inl ⟨D, _, by rw [hd], run_takeDeferred hD, ?_⟩⟩
    simp only [List.nodup_cons] at hn
    have hsh := Shut.put hD
    have hs' := hs.shut hsh (fun k hk => World.putObj_heap_other (by omega)) (l := ms) ⟨ms, by rw [hB, List.append_nil], hn.2, fun d' hd' => by
      obtain ⟨D', e1, e2, e3⟩ := h2 d' (by simp [hd'])
      refine ⟨D', e1, (World.putObj_heap_other fun e => ?_).trans e2, e3⟩
      subst e
      exact hn.1 (by rw [hd, ← e1]; exact hd')⟩
    exact leaves_marksP hB hfr fin ms { a with defers := ms } _ rfl hs'
theorem conP_of {P : Program} {f : FuncId} {fn : Func} {c : Code} {N : Nat} {args : List AV} {hs : Nat → Option LObj} {ch : List PanicEntry} (hf : P.funcs[f]? = some fn) (hn : (fn.name == "runtime.NumGoroutine") = false) (hb : fn.body = some c) (hN : fn.ntmps = N) (hlen : (Nat.ble args.length N && Nat.ble N 1000000) = true)
    (h : A P N c (EndsP ch) ⟨ybj (enumF 0 args), hs⟩) : ConP P f args hs ch := by
  refine ⟨⟨fn, hf, hn, by simp [hb]⟩, fun ok0 lv w us hi hus => ?_⟩
  simp only [Bool.and_eq_true, Nat.ble_eq] at hlen
  obtain ⟨hlen', hbig⟩ := hlen
  refine (callsIn_wide (n := 0)).1 (callsIn_of_wp_marks hf hb trivial ?_)
  have hsim : Sim ⟨w, lentOf lv, fun id => (lv id).bind (·.1), none, [], fun _ => undef⟩ ok0 N ⟨ybj (enumF 0 args), hs⟩ lv { tmps := us.toArray ++ Array.replicate (fn.ntmps - us.toArray.size) undef, defers := [] } w := by
    refine ⟨hi.pinned _ _ _ _ (fun l h => by cases h), ?_, fun x y hy => ?_, ⟨[], rfl, List.nodup_nil, fun d hd => by cases hd⟩, hbig, fun id b o hN hx hc hb => ?_⟩
    · simp [hN, hus.1]; omega
    · simp only [enumF_args] at hy
      have hlt := (List.getElem?_eq_some_iff.1 hy).1
      refine ⟨.inl (by omega), ?_⟩
      rw [valAt, if_pos (by omega)]
      obtain ⟨u, hu⟩ : ∃ u, us[x]? = some u := ⟨_, List.getElem?_eq_getElem (by rw [hus.1]; exact hlt)⟩
      simp only [getD_args us _ x u hu]
      exact hus.2 x y u hy hu
    · simp only at hb
      cases hl : lv id with
      | none => simp [hl] at hb
      | some q => obtain ⟨q1, q2⟩ := q; simp [hl] at hb; subst hb; exact ⟨q2, rfl⟩
  refine wpIn_mono (h _ ok0 _ _ w hsim) fun e a' w' ⟨s', lv', hq, hs2⟩ => ?_
  cases e with
  | panic c =>
    obtain rfl : c = ch := hq
    refine leaves_marksP rfl rfl (fun a2 w2 hs3 => ?_) _ a' w' rfl hs2
    obtain ⟨lv2, i1, i2, i3⟩ := hs3.inv.weak (h' := fun _ => none) (fun id x hx => by cases hx)
    exact ⟨rfl, lv2, i1.pinned _ _ _ _ (fun l h => by cases h)⟩
  | _ => exact hq.elim
theorem callP_die {o : Oper} {g : Operand} {args : List Operand} {ats : Array TypeId} {f : FuncId} {caps xs args0 : List AV} {hm : Nat → Option LObj} {ch : List PanicEntry} {σ : Nat → Nat} {ids : List Nat} {s : SS} {h2 : Nat → Option LObj}
    (ho : o.op = .call { callee := .value g, args := args.toArray, argTypes := ats }) (hg : evF s.t g = some (.fn f caps)) (hx : evL (evF s.t) args = some xs) (hargs : xs ++ caps = args0.map (renA σ)) (hc : ConP P f args0 hm ch)
    (hinj : ∀ i ∈ ids, ∀ j ∈ ids, σ i = σ j → i = j) (hdom : ∀ id, (hm id).isSome → id ∈ ids) (hmem : ∀ id o, hm id = some o → s.h (σ id) = some (renO σ o))
    (hh2 : ∀ j ob', h2 j = some ob' → (∀ i ∈ ids, σ i ≠ j ∧ mentO (σ i) ob' = false) ∧ s.h j = some ob') : DieAt P N o s (fun c s' => c = ch ∧ s' = ⟨fun _ => none, h2⟩) := by
  intro B ok0 lv a w hs K Q hQ
  have hfr := hs.eval hg
  have har := evL_rel (a := a) args xs (fun x y _ hxy => hs.eval hxy) hx
  generalize hv : a.eval g = v at hfr
  cases hfr with
  | fn vs hl hrc =>
  have hrun : (execOp a.eval o).run P w = .ok (.enter f (args.map a.eval ++ vs).toArray) w := by
    unfold execOp
    simp only [ho, resolve, Deferred.ofValue, hv, Sem.run_bind, Sem.run_pure, Result.andThen_ok, invoke]
    rw [run_callFunc hc.1]
    simp
  let lv1 : Live := fun id => if id ∈ ids ∧ (hm id).isSome then lv (σ id) else none
  have hl1 : ∀ id b n, lv1 id = some (b, n) → id ∈ ids ∧ (hm id).isSome ∧ lv (σ id) = some (b, n) := by
    intro id b n hb
    simp only [lv1] at hb
    split at hb
    · rename_i h; exact ⟨h.1, h.2, hb⟩
    · cases hb
  have hl2 : ∀ id b n, lv1 id = some (b, n) → lv (σ id) = some (b, n) := fun id b n h => (hl1 id b n h).2.2
  have hmine : ∀ b, lentOf lv1 b → B.mine b ∧ b < w.heap.size ∧ ∃ i ∈ ids, ∃ n, lv (σ i) = some (some b, n) := by
    rintro b ⟨id, n, hb⟩
    obtain ⟨h1, h2, h3⟩ := hl1 id _ n hb
    obtain ⟨_, _, h4, h5, _⟩ := hs.inv.lvat h3
    exact ⟨h4, h5, id, h1, n, h3⟩
  have hok1 : ∀ g, ybq B ok0 lv w g → ybq (yee w lv1) (ybq B ok0 lv w) lv1 w g := fun g hg => ⟨.inl hg, hg.2.1, fun id b n hb => hg.2.2 (σ id) b n (hl2 id _ n hb)⟩
  have hinv : Inv (yee w lv1) (ybq B ok0 lv w) hm lv1 w := by
    refine ⟨⟨rfl, rfl, rfl, Nat.le_refl _, fun _ _ _ => rfl, hs.inv.base.glob, hs.inv.base.glob.size, fun k hk => hs.inv.base.mineG (hmine k hk).1, fun l h => by cases h⟩, fun g hg => hg.2.1, fun id hid => by simp [lv1, hid], fun i j b n m h1 h2 => ?_, fun id x hx => ?_⟩
    · obtain ⟨q1, _, q2⟩ := hl1 _ _ _ h1
      obtain ⟨r1, _, r2⟩ := hl1 _ _ _ h2
      exact hinj i q1 j r1 (hs.inv.inj _ _ b n m q2 r2)
    · obtain ⟨b, n, h1, h2⟩ := hs.inv.obj (σ id) _ (hmem id x hx)
      have hlv : lv1 id = some (b, n) := by simp [lv1, hdom id (by simp [hx]), hx, h1]
      refine ⟨b, n, hlv, ?_⟩
      cases b with
      | none => exact renO_nil h2
      | some b => exact ⟨.inl ⟨id, n, hlv⟩, h2.2.1, yfl.unren hl2 hok1 h2.2.2⟩
  have hall : ycd (ybq (yee w lv1) (ybq B ok0 lv w) lv1 w) w lv1 args0 (args.map a.eval ++ vs) := by
    have hlen : (args.map a.eval ++ vs).length = args0.length := by
      have := congrArg List.length hargs
      simp only [List.length_append, List.length_map] at this ⊢
      have := har.1
      simp at this
      omega
    refine ⟨hlen, fun i x u hx hu => ?_⟩
    have hxi : (xs ++ caps)[i]? = some (renA σ x) := by rw [hargs]; simp [hx]
    have hrel : Rel (ybq B ok0 lv w) w lv (renA σ x) u := by
      by_cases hlt : i < xs.length
      · rw [List.getElem?_append_left hlt] at hxi
        rw [List.getElem?_append_left (by rw [har.1]; exact hlt)] at hu
        exact har.2 i _ u hxi hu
      · rw [List.getElem?_append_right (by omega)] at hxi
        rw [List.getElem?_append_right (by rw [har.1]; omega), har.1] at hu
        exact hrc _ _ u hxi hu
    exact (Rel.unren hl2 hrel).keep fun g hg => ⟨hok1 g hg, rfl⟩
  unfold Oper.wp
  rw [hrun]
  refine (hc.2 (ybq B ok0 lv w) lv1 w (args.map a.eval ++ vs) hinv hall).mono fun e w' ⟨he, lv3, hi3⟩ => ?_
  subst he
  have hb3 := hi3.base
  have hstay : ∀ k, k < w.heap.size → (∀ i ∈ ids, ∀ n, lv (σ i) ≠ some (some k, n)) → w'.heap[k]? = w.heap[k]? := by
    intro k hk hn
    exact hb3.block k hk fun hlent => by
      obtain ⟨_, _, i, hi, n, hn'⟩ := hmine k hlent
      exact hn i hi n hn'
  have hsz : w.heap.size ≤ w'.heap.size := hb3.size
  let lv2 : Live := fun j => if (h2 j).isSome then lv j else none
  have hlv2 : ∀ j b n, lv2 j = some (b, n) → lv j = some (b, n) ∧ ∃ ob, h2 j = some ob := by
    intro j b n hb
    simp only [lv2] at hb
    split at hb
    · rename_i h; exact ⟨hb, Option.isSome_iff_exists.1 h⟩
    · cases hb
  have hnl : ∀ j b n, lv2 j = some (some b, n) → ∀ i ∈ ids, ∀ n', lv (σ i) ≠ some (some b, n') := by
    intro j b n hb i hi n' hn'
    obtain ⟨h1, ob, h3⟩ := hlv2 j _ n hb
    exact ((hh2 j ob h3).1 i hi).1 (hs.inv.inj _ _ b n' n hn' h1)
  have hok2 : ∀ g, ybq B ok0 lv w g → ybq B ok0 lv2 w' g ∧ w'.heap[g]? = w.heap[g]? := by
    intro g hg
    exact ⟨⟨hg.1, Nat.lt_of_lt_of_le hg.2.1 hsz, fun j b n hb => hg.2.2 j b n (hlv2 j _ n hb).1⟩, hstay g hg.2.1 fun i _ n hn => hg.2.2 _ _ n hn rfl⟩
  refine hQ ch a w' ⟨⟨fun _ => none, h2⟩, lv2, ⟨rfl, rfl⟩, ⟨⟨?_, hs.inv.ok0lt, fun j hj => ?_, fun i j b n m h1 h2' => ?_, fun j x hx => ?_⟩, hs.size, (fun x y hy => by cases hy), hs.defers.same (fun g hg => (hstay g (Array.getElem?_eq_some_iff.1 hg).1 fun i hi n hn => (hs.inv.lvat hn).choose_spec.2.2.2.notDef hg).trans hg), hs.big, fun j b o' hN hj hcj hb => ?_⟩⟩
  · refine ⟨hb3.os.trans hs.inv.base.os, hb3.tape.trans hs.inv.base.tape, hb3.output.trans hs.inv.base.output, Nat.le_trans hs.inv.base.size hsz, fun k hk hnl => ?_, hb3.glob, hs.inv.base.gsize, hs.inv.base.lentG, hs.inv.base.rdok⟩
    refine (hstay k (Nat.lt_of_lt_of_le hk hs.inv.base.size) fun i hi n hn => ?_).trans (hs.inv.base.block k hk hnl)
    obtain ⟨_, _, q1, _, _⟩ := hs.inv.lvat hn
    rcases q1 with q1 | q1
    · exact hnl q1
    · omega
  · show lv2 j = none
    simp only [lv2]
    rw [if_neg (by rw [show h2 j = none from hj]; simp)]
  · exact hs.inv.inj i j b n m (hlv2 i _ n h1).1 (hlv2 j _ m h2').1
  · obtain ⟨hne, hsj⟩ := hh2 j x hx
    obtain ⟨b, n, h1, h3⟩ := hs.inv.obj j x hsj
    have hl : lv2 j = some (b, n) := by
      show (if (h2 j).isSome = true then lv j else none) = _
      rw [if_pos (by rw [show h2 j = some x from hx]; rfl)]; exact h1
    refine ⟨b, n, hl, ?_⟩
    cases b with
    | none => exact h3
    | some b =>
      refine ⟨h3.1, Nat.lt_of_lt_of_le h3.2.1 hsz, ?_⟩
      exact (h3.2.2.relive fun i b' n' hb' _ => (hlv2 i b' n' hb').1).keep hok2 (hstay b h3.2.1 (hnl j b n hl))
  · obtain ⟨hne, hsj⟩ := hh2 j o' hj
    obtain ⟨n, hn⟩ := hs.pin j b o' hN hsj hcj hb
    exact ⟨n, by show (if (h2 j).isSome = true then lv j else none) = _; rw [if_pos (by rw [show h2 j = some o' from hj]; rfl)]; exact hn⟩
theorem panic_die {o : Oper} {x : Operand} {t : TypeId} {u : Value} {s : SS} (ho : o.op = .panic x) (hx : evF s.t x = some (.v (.iface t u))) : DieAt P N o s (fun c s' => c = [{ v := .iface t u, recovered := false }] ∧ s' = s) := by
  intro B ok0 lv a w hs K Q hQ
  have hv := hs.eval hx
  have hrun : (execOp a.eval o).run P w = .halt (.panic (.iface t u)) w := by
    have e : a.eval x = .iface t u := rel_v hv
    unfold execOp
    simp [ho, Instr.panic, e, goPanic]
  unfold Oper.wp
  rw [hrun]
  exact hQ _ a w ⟨s, lv, ⟨rfl, rfl⟩, hs⟩
theorem DieAt.mono {o : Oper} {s : SS} {D D' : List PanicEntry → SS → Prop} (h : DieAt P N o s D) (hD : ∀ c s', D c s' → D' c s') : DieAt P N o s D' :=
  fun B ok0 lv a w hs K Q hQ => h B ok0 lv a w hs K Q fun ch a' w' ⟨s', lv', h1, h2⟩ => hQ ch a' w' ⟨s', lv', hD ch s' h1, h2⟩
variable {t : List (Nat × AV)} {h : List (Nat × Option LObj)} {ty : TypeId} {pos : String} {af : Array Edge} {gd : Option (Nat × Bool)}
theorem dieC (sg : List (Nat × Nat)) {dst : Option Tmp} {g : Operand} {args : List Operand} {ats : Array TypeId} {f : FuncId} {caps xs args0 : List AV} {hs : List (Nat × Option LObj)} {ch : List PanicEntry} {D : List PanicEntry → SS → Prop} (hc : ConP P f args0 (yaq hs) ch) (hg : evF (ybj t) g = some (.fn f caps)) (hx : evL (evF (ybj t)) args = some xs)
    (hargs : xs ++ caps = args0.map (renA (yex sg))) (hv : nodupN (ydn sg) = true) (hd1 : domIn (yck sg) hs = true) (hsub : subH h (renH sg hs)) (hD : D ch ⟨fun _ => none, fun _ => none⟩) : DieAt P N ⟨dst, .call { callee := .value g, args := args.toArray, argTypes := ats }, ty, pos, af, gd⟩ (S t h) D := by
  refine (callP_die (σ := yex sg) (ids := yck sg) (h2 := fun _ => none) rfl hg hx hargs hc (slook_inj hv) (domIn_spec hd1) (fun id o ho => renH_mem hsub id o ho) (fun j ob hj => by cases hj)).mono ?_
  rintro c s' ⟨rfl, rfl⟩
  exact hD
theorem dieP {dst : Option Tmp} {x : Operand} {tt : TypeId} {u : Value} {D : List PanicEntry → SS → Prop} (hx : evF (ybj t) x = some (.v (.iface tt u))) (hD : D [{ v := .iface tt u, recovered := false }] (S t h)) : DieAt P N ⟨dst, .panic x, ty, pos, af, gd⟩ (S t h) D := by
  refine (panic_die rfl hx).mono ?_
  rintro c s' ⟨rfl, rfl⟩
  exact hD
end Go.Proofs.YtcpgpiabeimefaaGreatDoor
set_option linter.unusedVariables false
set_option maxHeartbeats 4000000
namespace Go.Proofs.YtcpgpiabeimefaaGreatDoor
open Go.RowKit

def aside : List (Nat × AV) → List (Nat × AV)
  | [] => []
  | (x, y) :: t => (x + 1000000, y) :: aside t
theorem look_aside : ∀ (t : List (Nat × AV)) (x : Nat), ybj (aside t) (x + 1000000) = ybj t x
  | [], x => rfl
  | (a, y) :: t, x => by
    simp only [aside, ybj]
    have e : Nat.beq (x + 1000000) (a + 1000000) = Nat.beq x a := by
      cases h : Nat.beq x a with
      | true => rw [Nat.eq_of_beq_eq_true h]; simp
      | false =>
        refine yfm fun e => ?_
        obtain rfl : x = a := by omega
        simp at h
    rw [e]
    cases Nat.beq x a with
    | true => rfl
    | false => exact look_aside t x
def allLt (n : Nat) : List (Nat × AV) → Bool
  | [] => true
  | (x, _) :: t => Nat.blt x n && allLt n t
theorem allLt_spec {n : Nat} : ∀ {t : List (Nat × AV)}, allLt n t = true → ∀ x y, ybj t x = some y → x < n
  | [], _, x, y, h => by simp [ybj] at h
  | (a, z) :: t, hl, x, y, h => by
    simp only [allLt, Bool.and_eq_true, Nat.blt_eq] at hl
    simp only [ybj] at h
    cases hb : Nat.beq x a with
    | true => rw [Nat.eq_of_beq_eq_true hb]; exact hl.1
    | false => simp only [hb] at h; exact allLt_spec hl.2 x y h
def lowS : List (Nat × AV) → List (Nat × AV)
  | [] => []
  | (x, y) :: t => match Nat.ble 1000000 x with
    | true => lowS t
    | false => (x, y) :: lowS t
theorem look_lowS : ∀ {t : List (Nat × AV)} {x : Nat}, ybj (lowS t) x = match Nat.ble 1000000 x with | true => none | false => ybj t x
  | [], x => by cases h : Nat.ble 1000000 x <;> rfl
  | (a, z) :: t, x => by
    have ih := look_lowS (t := t) (x := x)
    simp only [lowS]
    cases ha : Nat.ble 1000000 a with
    | true =>
      simp only
      rw [ih]
      cases hx : Nat.ble 1000000 x with
      | true => rfl
      | false =>
        simp only [ybj]
        rw [yfm (fun e => by subst e; rw [ha] at hx; cases hx)]
    | false =>
      simp only [ybj]
      cases hb : Nat.beq x a with
      | true => rw [Nat.eq_of_beq_eq_true hb, ha]
      | false => simp only; rw [ih]
section
variable {P : Program} {n : Nat} {ops : Array Oper} {Q : Exit → Act → World → Prop} {a : Act} {w : World}
end
end Go.Proofs.YtcpgpiabeimefaaGreatDoor
