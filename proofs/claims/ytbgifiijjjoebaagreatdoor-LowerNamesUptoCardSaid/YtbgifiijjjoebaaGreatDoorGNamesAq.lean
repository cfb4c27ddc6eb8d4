/- What the table says of the types and functions that this text's code names (written by gentypes.py). -/
import Derived.Test.YtbgifiijjjoebaaGreatDoorGNamesAi
namespace Go.Proofs.YtbgifiijjjoebaaGreatDoor
open Go.RowKit
@[go_sem] theorem qVsT_arrP_158 : arrP Tryz.prog 158 = some (2, 1) := by kernel_rfl
@[go_sem] theorem qVsT_arrP_159 : arrP Tryz.prog 159 = some (2, 1) := by kernel_rfl
@[go_sem] theorem qVsT_blP_4 : blP Tryz.prog 4 = true := by kernel_rfl
@[go_sem] theorem qVsT_bldP_25 : bldP Tryz.prog 25 = some ([CV.b false, CV.nl], [(0, 1), (1, 1)]) := by kernel_rfl
@[go_sem] theorem qVsT_bldP_28 : bldP Tryz.prog 28 = some ([CV.i .i64 0, CV.s ByteArray.empty, CV.nl, CV.b false, CV.nl, CV.nl], [(0, 1), (1, 1), (2, 1), (3, 2), (5, 1)]) := by kernel_rfl
@[go_sem] theorem qVsT_bldP_36 : bldP Tryz.prog 36 = some ([CV.nl, CV.b false, CV.nl], [(0, 1), (1, 2)]) := by kernel_rfl
@[go_sem] theorem qVsT_bldP_62 : bldP Tryz.prog 62 = some ([CV.i .i64 0, CV.b false, CV.nl, CV.nl, CV.b false, CV.nl, CV.i .i64 0, CV.nl], [(0, 1), (1, 2), (3, 3), (6, 1), (7, 1)]) := by kernel_rfl
@[go_sem] theorem qVsT_bldP_68 : bldP Tryz.prog 68 = some ([CV.np, CV.nm, CV.i .i64 0], [(0, 1), (1, 1), (2, 1)]) := by kernel_rfl
@[go_sem] theorem qVsT_bldP_91 : bldP Tryz.prog 91 = some ([CV.nl, CV.nl, CV.nl, CV.nm, CV.np], [(0, 1), (1, 1), (2, 1), (3, 1), (4, 1)]) := by kernel_rfl
@[go_sem] theorem qVsT_bldP_114 : bldP Tryz.prog 114 = some ([CV.b false, CV.b false, CV.b false, CV.i .i64 0, CV.i .i64 0, CV.b false, CV.b false], [(0, 1), (1, 1), (2, 1), (3, 1), (4, 1), (5, 1), (6, 1)]) := by kernel_rfl
@[go_sem] theorem qVsT_bldP_119 : bldP Tryz.prog 119 = some ([], []) := by kernel_rfl
@[go_sem] theorem qVsT_bldP_129 : bldP Tryz.prog 129 = some ([CV.i .i64 0, CV.i .i64 0, CV.np], [(0, 1), (1, 1), (2, 1)]) := by kernel_rfl
@[go_sem] theorem qVsT_bldP_132 : bldP Tryz.prog 132 = some ([CV.i .i64 0, CV.i .i64 0], [(0, 1), (1, 1)]) := by kernel_rfl
@[go_sem] theorem qVsT_cvsP_215_9 : cvsP Tryz.prog 215 9 = true := by kernel_rfl
@[go_sem] theorem qVsT_cvtP_2_92 : cvtP Tryz.prog 2 92 = some .u64 := by kernel_rfl
@[go_sem] theorem qVsT_cvtP_9_215 : cvtP Tryz.prog 9 215 = none := by kernel_rfl
@[go_sem] theorem qVsT_cvtP_43_92 : cvtP Tryz.prog 43 92 = some .u64 := by kernel_rfl
@[go_sem] theorem qVsT_cvtP_92_43 : cvtP Tryz.prog 92 43 = some .u32 := by kernel_rfl
@[go_sem] theorem qVsT_cvtP_122_125 : cvtP Tryz.prog 122 125 = none := by kernel_rfl
@[go_sem] theorem qVsT_cvtP_125_122 : cvtP Tryz.prog 125 122 = none := by kernel_rfl
@[go_sem] theorem qVsT_cvtP_215_9 : cvtP Tryz.prog 215 9 = none := by kernel_rfl
@[go_sem] theorem qVsT_eltP_22 : eltP Tryz.prog 22 = some (9, 1, 16) := by kernel_rfl
@[go_sem] theorem qVsT_eltP_23 : eltP Tryz.prog 23 = some (43, 1, 4) := by kernel_rfl
@[go_sem] theorem qVsT_eltP_26 : eltP Tryz.prog 26 = some (28, 6, 104) := by kernel_rfl
@[go_sem] theorem qVsT_eltP_34 : eltP Tryz.prog 34 = some (42, 3, 40) := by kernel_rfl
@[go_sem] theorem qVsT_eltP_60 : eltP Tryz.prog 60 = some (3, 1, 8) := by kernel_rfl
@[go_sem] theorem qVsT_eltP_88 : eltP Tryz.prog 88 = some (62, 8, 128) := by kernel_rfl
@[go_sem] theorem qVsT_eltP_89 : eltP Tryz.prog 89 = some (60, 1, 24) := by kernel_rfl
@[go_sem] theorem qVsT_eltP_100 : eltP Tryz.prog 100 = some (36, 3, 56) := by kernel_rfl
@[go_sem] theorem qVsT_eltP_134 : eltP Tryz.prog 134 = some (94, 1, 8) := by kernel_rfl
@[go_sem] theorem qVsT_eltP_180 : eltP Tryz.prog 180 = some (4, 1, 1) := by kernel_rfl
@[go_sem] theorem qVsT_eltP_184 : eltP Tryz.prog 184 = some (25, 2, 32) := by kernel_rfl
@[go_sem] theorem qVsT_eltP_215 : eltP Tryz.prog 215 = some (5, 1, 1) := by kernel_rfl
@[go_sem] theorem qVsT_enterP_6 : enterP Tryz.prog 6 = true := by kernel_rfl
@[go_sem] theorem qVsT_enterP_7 : enterP Tryz.prog 7 = true := by kernel_rfl
@[go_sem] theorem qVsT_enterP_8 : enterP Tryz.prog 8 = true := by kernel_rfl
@[go_sem] theorem qVsT_enterP_9 : enterP Tryz.prog 9 = true := by kernel_rfl
@[go_sem] theorem qVsT_enterP_10 : enterP Tryz.prog 10 = true := by kernel_rfl
@[go_sem] theorem qVsT_enterP_11 : enterP Tryz.prog 11 = true := by kernel_rfl
@[go_sem] theorem qVsT_enterP_12 : enterP Tryz.prog 12 = true := by kernel_rfl
@[go_sem] theorem qVsT_enterP_13 : enterP Tryz.prog 13 = true := by kernel_rfl
@[go_sem] theorem qVsT_enterP_14 : enterP Tryz.prog 14 = true := by kernel_rfl
@[go_sem] theorem qVsT_enterP_15 : enterP Tryz.prog 15 = true := by kernel_rfl
@[go_sem] theorem qVsT_enterP_16 : enterP Tryz.prog 16 = true := by kernel_rfl
@[go_sem] theorem qVsT_enterP_17 : enterP Tryz.prog 17 = true := by kernel_rfl
@[go_sem] theorem qVsT_enterP_18 : enterP Tryz.prog 18 = true := by kernel_rfl
@[go_sem] theorem qVsT_enterP_19 : enterP Tryz.prog 19 = true := by kernel_rfl
@[go_sem] theorem qVsT_enterP_20 : enterP Tryz.prog 20 = true := by kernel_rfl
@[go_sem] theorem qVsT_enterP_21 : enterP Tryz.prog 21 = true := by kernel_rfl
@[go_sem] theorem qVsT_enterP_22 : enterP Tryz.prog 22 = true := by kernel_rfl
@[go_sem] theorem qVsT_enterP_23 : enterP Tryz.prog 23 = true := by kernel_rfl
@[go_sem] theorem qVsT_enterP_24 : enterP Tryz.prog 24 = true := by kernel_rfl
@[go_sem] theorem qVsT_enterP_25 : enterP Tryz.prog 25 = true := by kernel_rfl
@[go_sem] theorem qVsT_enterP_26 : enterP Tryz.prog 26 = true := by kernel_rfl
@[go_sem] theorem qVsT_enterP_27 : enterP Tryz.prog 27 = true := by kernel_rfl
@[go_sem] theorem qVsT_enterP_28 : enterP Tryz.prog 28 = true := by kernel_rfl
@[go_sem] theorem qVsT_enterP_29 : enterP Tryz.prog 29 = true := by kernel_rfl
@[go_sem] theorem qVsT_enterP_30 : enterP Tryz.prog 30 = true := by kernel_rfl
@[go_sem] theorem qVsT_enterP_31 : enterP Tryz.prog 31 = true := by kernel_rfl
@[go_sem] theorem qVsT_enterP_32 : enterP Tryz.prog 32 = true := by kernel_rfl
@[go_sem] theorem qVsT_enterP_36 : enterP Tryz.prog 36 = true := by kernel_rfl
@[go_sem] theorem qVsT_enterP_37 : enterP Tryz.prog 37 = true := by kernel_rfl
@[go_sem] theorem qVsT_enterP_38 : enterP Tryz.prog 38 = true := by kernel_rfl
@[go_sem] theorem qVsT_enterP_39 : enterP Tryz.prog 39 = true := by kernel_rfl
@[go_sem] theorem qVsT_enterP_40 : enterP Tryz.prog 40 = true := by kernel_rfl
@[go_sem] theorem qVsT_enterP_41 : enterP Tryz.prog 41 = true := by kernel_rfl
@[go_sem] theorem qVsT_enterP_42 : enterP Tryz.prog 42 = true := by kernel_rfl
@[go_sem] theorem qVsT_enterP_43 : enterP Tryz.prog 43 = true := by kernel_rfl
@[go_sem] theorem qVsT_enterP_44 : enterP Tryz.prog 44 = true := by kernel_rfl
@[go_sem] theorem qVsT_enterP_45 : enterP Tryz.prog 45 = true := by kernel_rfl
@[go_sem] theorem qVsT_enterP_46 : enterP Tryz.prog 46 = true := by kernel_rfl
@[go_sem] theorem qVsT_enterP_47 : enterP Tryz.prog 47 = true := by kernel_rfl
@[go_sem] theorem qVsT_enterP_48 : enterP Tryz.prog 48 = true := by kernel_rfl
@[go_sem] theorem qVsT_enterP_49 : enterP Tryz.prog 49 = true := by kernel_rfl
@[go_sem] theorem qVsT_enterP_50 : enterP Tryz.prog 50 = true := by kernel_rfl
@[go_sem] theorem qVsT_enterP_51 : enterP Tryz.prog 51 = true := by kernel_rfl
@[go_sem] theorem qVsT_enterP_52 : enterP Tryz.prog 52 = true := by kernel_rfl
@[go_sem] theorem qVsT_enterP_53 : enterP Tryz.prog 53 = true := by kernel_rfl
@[go_sem] theorem qVsT_enterP_54 : enterP Tryz.prog 54 = true := by kernel_rfl
@[go_sem] theorem qVsT_enterP_55 : enterP Tryz.prog 55 = true := by kernel_rfl
@[go_sem] theorem qVsT_enterP_56 : enterP Tryz.prog 56 = true := by kernel_rfl
@[go_sem] theorem qVsT_enterP_57 : enterP Tryz.prog 57 = true := by kernel_rfl
@[go_sem] theorem qVsT_enterP_58 : enterP Tryz.prog 58 = true := by kernel_rfl
@[go_sem] theorem qVsT_enterP_59 : enterP Tryz.prog 59 = true := by kernel_rfl
@[go_sem] theorem qVsT_enterP_60 : enterP Tryz.prog 60 = true := by kernel_rfl
@[go_sem] theorem qVsT_enterP_61 : enterP Tryz.prog 61 = true := by kernel_rfl
@[go_sem] theorem qVsT_enterP_69 : enterP Tryz.prog 69 = true := by kernel_rfl
@[go_sem] theorem qVsT_enterP_70 : enterP Tryz.prog 70 = true := by kernel_rfl
@[go_sem] theorem qVsT_enterP_71 : enterP Tryz.prog 71 = true := by kernel_rfl
@[go_sem] theorem qVsT_enterP_72 : enterP Tryz.prog 72 = true := by kernel_rfl
@[go_sem] theorem qVsT_enterP_73 : enterP Tryz.prog 73 = true := by kernel_rfl
@[go_sem] theorem qVsT_enterP_74 : enterP Tryz.prog 74 = true := by kernel_rfl
@[go_sem] theorem qVsT_enterP_75 : enterP Tryz.prog 75 = true := by kernel_rfl
@[go_sem] theorem qVsT_enterP_76 : enterP Tryz.prog 76 = true := by kernel_rfl
@[go_sem] theorem qVsT_enterP_77 : enterP Tryz.prog 77 = true := by kernel_rfl
@[go_sem] theorem qVsT_enterP_79 : enterP Tryz.prog 79 = true := by kernel_rfl
@[go_sem] theorem qVsT_enterP_80 : enterP Tryz.prog 80 = true := by kernel_rfl
@[go_sem] theorem qVsT_enterP_81 : enterP Tryz.prog 81 = true := by kernel_rfl
@[go_sem] theorem qVsT_enterP_84 : enterP Tryz.prog 84 = true := by kernel_rfl
@[go_sem] theorem qVsT_enterP_85 : enterP Tryz.prog 85 = true := by kernel_rfl
@[go_sem] theorem qVsT_enterP_86 : enterP Tryz.prog 86 = true := by kernel_rfl
@[go_sem] theorem qVsT_enterP_87 : enterP Tryz.prog 87 = true := by kernel_rfl
@[go_sem] theorem qVsT_enterP_88 : enterP Tryz.prog 88 = true := by kernel_rfl
@[go_sem] theorem qVsT_enterP_89 : enterP Tryz.prog 89 = true := by kernel_rfl
@[go_sem] theorem qVsT_enterP_90 : enterP Tryz.prog 90 = true := by kernel_rfl
@[go_sem] theorem qVsT_enterP_97 : enterP Tryz.prog 97 = true := by kernel_rfl
@[go_sem] theorem qVsT_enterP_98 : enterP Tryz.prog 98 = true := by kernel_rfl
@[go_sem] theorem qVsT_enterP_99 : enterP Tryz.prog 99 = true := by kernel_rfl
@[go_sem] theorem qVsT_enterP_100 : enterP Tryz.prog 100 = true := by kernel_rfl
@[go_sem] theorem qVsT_enterP_101 : enterP Tryz.prog 101 = true := by kernel_rfl
@[go_sem] theorem qVsT_enterP_102 : enterP Tryz.prog 102 = true := by kernel_rfl
@[go_sem] theorem qVsT_enterP_103 : enterP Tryz.prog 103 = true := by kernel_rfl
@[go_sem] theorem qVsT_enterP_104 : enterP Tryz.prog 104 = true := by kernel_rfl
@[go_sem] theorem qVsT_enterP_117 : enterP Tryz.prog 117 = true := by kernel_rfl
@[go_sem] theorem qVsT_enterP_118 : enterP Tryz.prog 118 = true := by kernel_rfl
@[go_sem] theorem qVsT_enterP_119 : enterP Tryz.prog 119 = true := by kernel_rfl
@[go_sem] theorem qVsT_enterP_120 : enterP Tryz.prog 120 = true := by kernel_rfl
@[go_sem] theorem qVsT_enterP_121 : enterP Tryz.prog 121 = true := by kernel_rfl
@[go_sem] theorem qVsT_enterP_122 : enterP Tryz.prog 122 = true := by kernel_rfl
@[go_sem] theorem qVsT_enterP_123 : enterP Tryz.prog 123 = true := by kernel_rfl
@[go_sem] theorem qVsT_enterP_124 : enterP Tryz.prog 124 = true := by kernel_rfl
@[go_sem] theorem qVsT_enterP_127 : enterP Tryz.prog 127 = true := by kernel_rfl
@[go_sem] theorem qVsT_enterP_128 : enterP Tryz.prog 128 = true := by kernel_rfl
@[go_sem] theorem qVsT_enterP_129 : enterP Tryz.prog 129 = true := by kernel_rfl
@[go_sem] theorem qVsT_enterP_130 : enterP Tryz.prog 130 = true := by kernel_rfl
@[go_sem] theorem qVsT_enterP_131 : enterP Tryz.prog 131 = true := by kernel_rfl
@[go_sem] theorem qVsT_enterP_132 : enterP Tryz.prog 132 = true := by kernel_rfl
@[go_sem] theorem qVsT_enterP_138 : enterP Tryz.prog 138 = true := by kernel_rfl
@[go_sem] theorem qVsT_enterP_139 : enterP Tryz.prog 139 = true := by kernel_rfl
@[go_sem] theorem qVsT_enterP_146 : enterP Tryz.prog 146 = true := by kernel_rfl
@[go_sem] theorem qVsT_enterP_147 : enterP Tryz.prog 147 = true := by kernel_rfl
@[go_sem] theorem qVsT_enterP_150 : enterP Tryz.prog 150 = true := by kernel_rfl
@[go_sem] theorem qVsT_enterP_151 : enterP Tryz.prog 151 = true := by kernel_rfl
@[go_sem] theorem qVsT_enterP_161 : enterP Tryz.prog 161 = true := by kernel_rfl
@[go_sem] theorem qVsT_enterP_162 : enterP Tryz.prog 162 = true := by kernel_rfl
@[go_sem] theorem qVsT_enterP_163 : enterP Tryz.prog 163 = true := by kernel_rfl
@[go_sem] theorem qVsT_enterP_164 : enterP Tryz.prog 164 = true := by kernel_rfl
@[go_sem] theorem qVsT_enterP_165 : enterP Tryz.prog 165 = true := by kernel_rfl
@[go_sem] theorem qVsT_enterP_166 : enterP Tryz.prog 166 = true := by kernel_rfl
@[go_sem] theorem qVsT_enterP_167 : enterP Tryz.prog 167 = true := by kernel_rfl
@[go_sem] theorem qVsT_enterP_192 : enterP Tryz.prog 192 = true := by kernel_rfl
@[go_sem] theorem qVsT_enterP_193 : enterP Tryz.prog 193 = true := by kernel_rfl
@[go_sem] theorem qVsT_enterP_194 : enterP Tryz.prog 194 = true := by kernel_rfl
@[go_sem] theorem qVsT_enterP_195 : enterP Tryz.prog 195 = true := by kernel_rfl
@[go_sem] theorem qVsT_enterP_196 : enterP Tryz.prog 196 = true := by kernel_rfl
@[go_sem] theorem qVsT_enterP_197 : enterP Tryz.prog 197 = true := by kernel_rfl
@[go_sem] theorem qVsT_enterP_198 : enterP Tryz.prog 198 = true := by kernel_rfl
@[go_sem] theorem qVsT_enterP_200 : enterP Tryz.prog 200 = true := by kernel_rfl
@[go_sem] theorem qVsT_enterP_224 : enterP Tryz.prog 224 = true := by kernel_rfl
@[go_sem] theorem qVsT_enterP_226 : enterP Tryz.prog 226 = true := by kernel_rfl
@[go_sem] theorem qVsT_enterP_227 : enterP Tryz.prog 227 = true := by kernel_rfl
@[go_sem] theorem qVsT_eqP_132 : eqP Tryz.prog 132 = some (.i64, .i64) := by kernel_rfl
@[go_sem] theorem qVsT_fldP_25_0 : fldP Tryz.prog 25 0 = some (0, 1) := by kernel_rfl
@[go_sem] theorem qVsT_fldP_25_1 : fldP Tryz.prog 25 1 = some (1, 1) := by kernel_rfl
@[go_sem] theorem qVsT_fldP_28_0 : fldP Tryz.prog 28 0 = some (0, 1) := by kernel_rfl
@[go_sem] theorem qVsT_fldP_28_1 : fldP Tryz.prog 28 1 = some (1, 1) := by kernel_rfl
@[go_sem] theorem qVsT_fldP_28_2 : fldP Tryz.prog 28 2 = some (2, 1) := by kernel_rfl
@[go_sem] theorem qVsT_fldP_28_3 : fldP Tryz.prog 28 3 = some (3, 2) := by kernel_rfl
@[go_sem] theorem qVsT_fldP_28_4 : fldP Tryz.prog 28 4 = some (5, 1) := by kernel_rfl
@[go_sem] theorem qVsT_fldP_36_0 : fldP Tryz.prog 36 0 = some (0, 1) := by kernel_rfl
@[go_sem] theorem qVsT_fldP_36_1 : fldP Tryz.prog 36 1 = some (1, 2) := by kernel_rfl
@[go_sem] theorem qVsT_fldP_42_0 : fldP Tryz.prog 42 0 = some (0, 1) := by kernel_rfl
@[go_sem] theorem qVsT_fldP_42_1 : fldP Tryz.prog 42 1 = some (1, 2) := by kernel_rfl
@[go_sem] theorem qVsT_fldP_46_0 : fldP Tryz.prog 46 0 = some (0, 6) := by kernel_rfl
@[go_sem] theorem qVsT_fldP_46_1 : fldP Tryz.prog 46 1 = some (6, 6) := by kernel_rfl
@[go_sem] theorem qVsT_fldP_46_2 : fldP Tryz.prog 46 2 = some (12, 2) := by kernel_rfl
@[go_sem] theorem qVsT_fldP_46_3 : fldP Tryz.prog 46 3 = some (14, 1) := by kernel_rfl
@[go_sem] theorem qVsT_fldP_62_0 : fldP Tryz.prog 62 0 = some (0, 1) := by kernel_rfl
@[go_sem] theorem qVsT_fldP_62_1 : fldP Tryz.prog 62 1 = some (1, 2) := by kernel_rfl
@[go_sem] theorem qVsT_fldP_62_2 : fldP Tryz.prog 62 2 = some (3, 3) := by kernel_rfl
@[go_sem] theorem qVsT_fldP_62_3 : fldP Tryz.prog 62 3 = some (6, 1) := by kernel_rfl
@[go_sem] theorem qVsT_fldP_62_4 : fldP Tryz.prog 62 4 = some (7, 1) := by kernel_rfl
@[go_sem] theorem qVsT_fldP_68_0 : fldP Tryz.prog 68 0 = some (0, 1) := by kernel_rfl
@[go_sem] theorem qVsT_fldP_68_1 : fldP Tryz.prog 68 1 = some (1, 1) := by kernel_rfl
@[go_sem] theorem qVsT_fldP_68_2 : fldP Tryz.prog 68 2 = some (2, 1) := by kernel_rfl
@[go_sem] theorem qVsT_fldP_72_0 : fldP Tryz.prog 72 0 = some (0, 1) := by kernel_rfl
@[go_sem] theorem qVsT_fldP_72_1 : fldP Tryz.prog 72 1 = some (1, 1) := by kernel_rfl
@[go_sem] theorem qVsT_fldP_91_0 : fldP Tryz.prog 91 0 = some (0, 1) := by kernel_rfl
@[go_sem] theorem qVsT_fldP_91_1 : fldP Tryz.prog 91 1 = some (1, 1) := by kernel_rfl
@[go_sem] theorem qVsT_fldP_91_2 : fldP Tryz.prog 91 2 = some (2, 1) := by kernel_rfl
@[go_sem] theorem qVsT_fldP_91_3 : fldP Tryz.prog 91 3 = some (3, 1) := by kernel_rfl
@[go_sem] theorem qVsT_fldP_91_4 : fldP Tryz.prog 91 4 = some (4, 1) := by kernel_rfl
@[go_sem] theorem qVsT_fldP_114_0 : fldP Tryz.prog 114 0 = some (0, 1) := by kernel_rfl
@[go_sem] theorem qVsT_fldP_114_1 : fldP Tryz.prog 114 1 = some (1, 1) := by kernel_rfl
@[go_sem] theorem qVsT_fldP_114_2 : fldP Tryz.prog 114 2 = some (2, 1) := by kernel_rfl
@[go_sem] theorem qVsT_fldP_114_3 : fldP Tryz.prog 114 3 = some (3, 1) := by kernel_rfl
@[go_sem] theorem qVsT_fldP_114_4 : fldP Tryz.prog 114 4 = some (4, 1) := by kernel_rfl
@[go_sem] theorem qVsT_fldP_114_5 : fldP Tryz.prog 114 5 = some (5, 1) := by kernel_rfl
@[go_sem] theorem qVsT_fldP_114_6 : fldP Tryz.prog 114 6 = some (6, 1) := by kernel_rfl
@[go_sem] theorem qVsT_fldP_127_2 : fldP Tryz.prog 127 2 = some (0, 1) := by kernel_rfl
@[go_sem] theorem qVsT_fldP_129_0 : fldP Tryz.prog 129 0 = some (0, 1) := by kernel_rfl
@[go_sem] theorem qVsT_fldP_129_1 : fldP Tryz.prog 129 1 = some (1, 1) := by kernel_rfl
@[go_sem] theorem qVsT_fldP_129_2 : fldP Tryz.prog 129 2 = some (2, 1) := by kernel_rfl
@[go_sem] theorem qVsT_fldP_132_0 : fldP Tryz.prog 132 0 = some (0, 1) := by kernel_rfl
@[go_sem] theorem qVsT_fldP_132_1 : fldP Tryz.prog 132 1 = some (1, 1) := by kernel_rfl
@[go_sem] theorem qVsT_fldP_166_0 : fldP Tryz.prog 166 0 = some (0, 1) := by kernel_rfl
@[go_sem] theorem qVsT_fldP_166_1 : fldP Tryz.prog 166 1 = some (1, 2) := by kernel_rfl
@[go_sem] theorem qVsT_fldP_166_2 : fldP Tryz.prog 166 2 = some (3, 3) := by kernel_rfl
@[go_sem] theorem qVsT_loudP_6 : loudP Tryz.prog 6 = false := by kernel_rfl
@[go_sem] theorem qVsT_loudP_7 : loudP Tryz.prog 7 = false := by kernel_rfl
@[go_sem] theorem qVsT_loudP_8 : loudP Tryz.prog 8 = false := by kernel_rfl
@[go_sem] theorem qVsT_loudP_9 : loudP Tryz.prog 9 = false := by kernel_rfl
@[go_sem] theorem qVsT_loudP_10 : loudP Tryz.prog 10 = false := by kernel_rfl
@[go_sem] theorem qVsT_loudP_11 : loudP Tryz.prog 11 = false := by kernel_rfl
@[go_sem] theorem qVsT_loudP_12 : loudP Tryz.prog 12 = false := by kernel_rfl
@[go_sem] theorem qVsT_loudP_13 : loudP Tryz.prog 13 = false := by kernel_rfl
@[go_sem] theorem qVsT_loudP_14 : loudP Tryz.prog 14 = false := by kernel_rfl
@[go_sem] theorem qVsT_loudP_15 : loudP Tryz.prog 15 = false := by kernel_rfl
@[go_sem] theorem qVsT_loudP_16 : loudP Tryz.prog 16 = false := by kernel_rfl
@[go_sem] theorem qVsT_loudP_17 : loudP Tryz.prog 17 = false := by kernel_rfl
@[go_sem] theorem qVsT_loudP_18 : loudP Tryz.prog 18 = false := by kernel_rfl
@[go_sem] theorem qVsT_loudP_19 : loudP Tryz.prog 19 = true := by kernel_rfl
@[go_sem] theorem qVsT_loudP_20 : loudP Tryz.prog 20 = true := by kernel_rfl
@[go_sem] theorem qVsT_loudP_21 : loudP Tryz.prog 21 = false := by kernel_rfl
@[go_sem] theorem qVsT_loudP_22 : loudP Tryz.prog 22 = false := by kernel_rfl
@[go_sem] theorem qVsT_loudP_23 : loudP Tryz.prog 23 = true := by kernel_rfl
@[go_sem] theorem qVsT_loudP_24 : loudP Tryz.prog 24 = false := by kernel_rfl
@[go_sem] theorem qVsT_loudP_25 : loudP Tryz.prog 25 = true := by kernel_rfl
@[go_sem] theorem qVsT_loudP_26 : loudP Tryz.prog 26 = false := by kernel_rfl
@[go_sem] theorem qVsT_loudP_27 : loudP Tryz.prog 27 = true := by kernel_rfl
@[go_sem] theorem qVsT_loudP_28 : loudP Tryz.prog 28 = true := by kernel_rfl
@[go_sem] theorem qVsT_loudP_29 : loudP Tryz.prog 29 = true := by kernel_rfl
@[go_sem] theorem qVsT_loudP_30 : loudP Tryz.prog 30 = false := by kernel_rfl
@[go_sem] theorem qVsT_loudP_31 : loudP Tryz.prog 31 = false := by kernel_rfl
@[go_sem] theorem qVsT_loudP_32 : loudP Tryz.prog 32 = false := by kernel_rfl
@[go_sem] theorem qVsT_loudP_36 : loudP Tryz.prog 36 = false := by kernel_rfl
@[go_sem] theorem qVsT_loudP_37 : loudP Tryz.prog 37 = false := by kernel_rfl
@[go_sem] theorem qVsT_loudP_38 : loudP Tryz.prog 38 = false := by kernel_rfl
@[go_sem] theorem qVsT_loudP_39 : loudP Tryz.prog 39 = false := by kernel_rfl
@[go_sem] theorem qVsT_loudP_40 : loudP Tryz.prog 40 = false := by kernel_rfl
@[go_sem] theorem qVsT_loudP_41 : loudP Tryz.prog 41 = true := by kernel_rfl
@[go_sem] theorem qVsT_loudP_42 : loudP Tryz.prog 42 = false := by kernel_rfl
@[go_sem] theorem qVsT_loudP_43 : loudP Tryz.prog 43 = false := by kernel_rfl
@[go_sem] theorem qVsT_loudP_44 : loudP Tryz.prog 44 = false := by kernel_rfl
@[go_sem] theorem qVsT_loudP_45 : loudP Tryz.prog 45 = true := by kernel_rfl
@[go_sem] theorem qVsT_loudP_46 : loudP Tryz.prog 46 = true := by kernel_rfl
@[go_sem] theorem qVsT_loudP_47 : loudP Tryz.prog 47 = true := by kernel_rfl
@[go_sem] theorem qVsT_loudP_48 : loudP Tryz.prog 48 = true := by kernel_rfl
@[go_sem] theorem qVsT_loudP_49 : loudP Tryz.prog 49 = true := by kernel_rfl
@[go_sem] theorem qVsT_loudP_50 : loudP Tryz.prog 50 = false := by kernel_rfl
@[go_sem] theorem qVsT_loudP_51 : loudP Tryz.prog 51 = false := by kernel_rfl
@[go_sem] theorem qVsT_loudP_52 : loudP Tryz.prog 52 = false := by kernel_rfl
@[go_sem] theorem qVsT_loudP_53 : loudP Tryz.prog 53 = false := by kernel_rfl
@[go_sem] theorem qVsT_loudP_54 : loudP Tryz.prog 54 = false := by kernel_rfl
@[go_sem] theorem qVsT_loudP_55 : loudP Tryz.prog 55 = false := by kernel_rfl
@[go_sem] theorem qVsT_loudP_56 : loudP Tryz.prog 56 = false := by kernel_rfl
@[go_sem] theorem qVsT_loudP_57 : loudP Tryz.prog 57 = false := by kernel_rfl
@[go_sem] theorem qVsT_loudP_58 : loudP Tryz.prog 58 = false := by kernel_rfl
@[go_sem] theorem qVsT_loudP_59 : loudP Tryz.prog 59 = false := by kernel_rfl
@[go_sem] theorem qVsT_loudP_60 : loudP Tryz.prog 60 = false := by kernel_rfl
@[go_sem] theorem qVsT_loudP_61 : loudP Tryz.prog 61 = false := by kernel_rfl
@[go_sem] theorem qVsT_loudP_69 : loudP Tryz.prog 69 = false := by kernel_rfl
@[go_sem] theorem qVsT_loudP_70 : loudP Tryz.prog 70 = false := by kernel_rfl
@[go_sem] theorem qVsT_loudP_71 : loudP Tryz.prog 71 = false := by kernel_rfl
@[go_sem] theorem qVsT_loudP_72 : loudP Tryz.prog 72 = false := by kernel_rfl
@[go_sem] theorem qVsT_loudP_73 : loudP Tryz.prog 73 = false := by kernel_rfl
@[go_sem] theorem qVsT_loudP_74 : loudP Tryz.prog 74 = false := by kernel_rfl
@[go_sem] theorem qVsT_loudP_75 : loudP Tryz.prog 75 = false := by kernel_rfl
@[go_sem] theorem qVsT_loudP_76 : loudP Tryz.prog 76 = false := by kernel_rfl
@[go_sem] theorem qVsT_loudP_77 : loudP Tryz.prog 77 = true := by kernel_rfl
@[go_sem] theorem qVsT_loudP_79 : loudP Tryz.prog 79 = false := by kernel_rfl
@[go_sem] theorem qVsT_loudP_80 : loudP Tryz.prog 80 = false := by kernel_rfl
@[go_sem] theorem qVsT_loudP_81 : loudP Tryz.prog 81 = true := by kernel_rfl
@[go_sem] theorem qVsT_loudP_84 : loudP Tryz.prog 84 = true := by kernel_rfl
@[go_sem] theorem qVsT_loudP_85 : loudP Tryz.prog 85 = true := by kernel_rfl
@[go_sem] theorem qVsT_loudP_86 : loudP Tryz.prog 86 = true := by kernel_rfl
@[go_sem] theorem qVsT_loudP_87 : loudP Tryz.prog 87 = true := by kernel_rfl
@[go_sem] theorem qVsT_loudP_88 : loudP Tryz.prog 88 = true := by kernel_rfl
@[go_sem] theorem qVsT_loudP_89 : loudP Tryz.prog 89 = true := by kernel_rfl
@[go_sem] theorem qVsT_loudP_90 : loudP Tryz.prog 90 = false := by kernel_rfl
@[go_sem] theorem qVsT_loudP_97 : loudP Tryz.prog 97 = false := by kernel_rfl
@[go_sem] theorem qVsT_loudP_98 : loudP Tryz.prog 98 = false := by kernel_rfl
@[go_sem] theorem qVsT_loudP_99 : loudP Tryz.prog 99 = false := by kernel_rfl
@[go_sem] theorem qVsT_loudP_100 : loudP Tryz.prog 100 = false := by kernel_rfl
@[go_sem] theorem qVsT_loudP_101 : loudP Tryz.prog 101 = false := by kernel_rfl
@[go_sem] theorem qVsT_loudP_102 : loudP Tryz.prog 102 = false := by kernel_rfl
@[go_sem] theorem qVsT_loudP_103 : loudP Tryz.prog 103 = true := by kernel_rfl
@[go_sem] theorem qVsT_loudP_104 : loudP Tryz.prog 104 = true := by kernel_rfl
@[go_sem] theorem qVsT_loudP_116 : loudP Tryz.prog 116 = true := by kernel_rfl
@[go_sem] theorem qVsT_loudP_117 : loudP Tryz.prog 117 = true := by kernel_rfl
@[go_sem] theorem qVsT_loudP_118 : loudP Tryz.prog 118 = true := by kernel_rfl
@[go_sem] theorem qVsT_loudP_119 : loudP Tryz.prog 119 = true := by kernel_rfl
@[go_sem] theorem qVsT_loudP_120 : loudP Tryz.prog 120 = true := by kernel_rfl
@[go_sem] theorem qVsT_loudP_121 : loudP Tryz.prog 121 = true := by kernel_rfl
@[go_sem] theorem qVsT_loudP_122 : loudP Tryz.prog 122 = true := by kernel_rfl
@[go_sem] theorem qVsT_loudP_123 : loudP Tryz.prog 123 = true := by kernel_rfl
@[go_sem] theorem qVsT_loudP_124 : loudP Tryz.prog 124 = true := by kernel_rfl
@[go_sem] theorem qVsT_loudP_127 : loudP Tryz.prog 127 = true := by kernel_rfl
@[go_sem] theorem qVsT_loudP_128 : loudP Tryz.prog 128 = true := by kernel_rfl
@[go_sem] theorem qVsT_loudP_129 : loudP Tryz.prog 129 = true := by kernel_rfl
@[go_sem] theorem qVsT_loudP_130 : loudP Tryz.prog 130 = true := by kernel_rfl
@[go_sem] theorem qVsT_loudP_131 : loudP Tryz.prog 131 = true := by kernel_rfl
@[go_sem] theorem qVsT_loudP_132 : loudP Tryz.prog 132 = true := by kernel_rfl
@[go_sem] theorem qVsT_loudP_138 : loudP Tryz.prog 138 = false := by kernel_rfl
@[go_sem] theorem qVsT_loudP_139 : loudP Tryz.prog 139 = false := by kernel_rfl
@[go_sem] theorem qVsT_loudP_146 : loudP Tryz.prog 146 = true := by kernel_rfl
@[go_sem] theorem qVsT_loudP_147 : loudP Tryz.prog 147 = true := by kernel_rfl
@[go_sem] theorem qVsT_loudP_150 : loudP Tryz.prog 150 = false := by kernel_rfl
@[go_sem] theorem qVsT_loudP_151 : loudP Tryz.prog 151 = false := by kernel_rfl
@[go_sem] theorem qVsT_loudP_161 : loudP Tryz.prog 161 = false := by kernel_rfl
@[go_sem] theorem qVsT_loudP_162 : loudP Tryz.prog 162 = true := by kernel_rfl
@[go_sem] theorem qVsT_loudP_163 : loudP Tryz.prog 163 = false := by kernel_rfl
@[go_sem] theorem qVsT_loudP_164 : loudP Tryz.prog 164 = true := by kernel_rfl
@[go_sem] theorem qVsT_loudP_165 : loudP Tryz.prog 165 = true := by kernel_rfl
@[go_sem] theorem qVsT_loudP_166 : loudP Tryz.prog 166 = true := by kernel_rfl
@[go_sem] theorem qVsT_loudP_167 : loudP Tryz.prog 167 = true := by kernel_rfl
@[go_sem] theorem qVsT_loudP_192 : loudP Tryz.prog 192 = false := by kernel_rfl
@[go_sem] theorem qVsT_loudP_193 : loudP Tryz.prog 193 = false := by kernel_rfl
@[go_sem] theorem qVsT_loudP_194 : loudP Tryz.prog 194 = false := by kernel_rfl
@[go_sem] theorem qVsT_loudP_195 : loudP Tryz.prog 195 = true := by kernel_rfl
@[go_sem] theorem qVsT_loudP_196 : loudP Tryz.prog 196 = true := by kernel_rfl
@[go_sem] theorem qVsT_loudP_197 : loudP Tryz.prog 197 = false := by kernel_rfl
@[go_sem] theorem qVsT_loudP_198 : loudP Tryz.prog 198 = false := by kernel_rfl
@[go_sem] theorem qVsT_loudP_200 : loudP Tryz.prog 200 = true := by kernel_rfl
@[go_sem] theorem qVsT_loudP_224 : loudP Tryz.prog 224 = false := by kernel_rfl
@[go_sem] theorem qVsT_loudP_226 : loudP Tryz.prog 226 = true := by kernel_rfl
@[go_sem] theorem qVsT_loudP_227 : loudP Tryz.prog 227 = true := by kernel_rfl
@[go_sem] theorem qVsT_loudP_250 : loudP Tryz.prog 250 = true := by kernel_rfl
@[go_sem] theorem qVsT_loudP_251 : loudP Tryz.prog 251 = true := by kernel_rfl
@[go_sem] theorem qVsT_lyt_2 : lyt Tryz.prog 2 = some (false, 1) := by kernel_rfl
@[go_sem] theorem qVsT_lyt_3 : lyt Tryz.prog 3 = some (false, 1) := by kernel_rfl
@[go_sem] theorem qVsT_lyt_4 : lyt Tryz.prog 4 = some (false, 1) := by kernel_rfl
@[go_sem] theorem qVsT_lyt_9 : lyt Tryz.prog 9 = some (false, 1) := by kernel_rfl
@[go_sem] theorem qVsT_lyt_22 : lyt Tryz.prog 22 = some (false, 1) := by kernel_rfl
@[go_sem] theorem qVsT_lyt_23 : lyt Tryz.prog 23 = some (false, 1) := by kernel_rfl
@[go_sem] theorem qVsT_lyt_25 : lyt Tryz.prog 25 = some (true, 2) := by kernel_rfl
@[go_sem] theorem qVsT_lyt_26 : lyt Tryz.prog 26 = some (false, 1) := by kernel_rfl
@[go_sem] theorem qVsT_lyt_28 : lyt Tryz.prog 28 = some (true, 6) := by kernel_rfl
@[go_sem] theorem qVsT_lyt_34 : lyt Tryz.prog 34 = some (false, 1) := by kernel_rfl
@[go_sem] theorem qVsT_lyt_36 : lyt Tryz.prog 36 = some (true, 3) := by kernel_rfl
@[go_sem] theorem qVsT_lyt_37 : lyt Tryz.prog 37 = some (false, 1) := by kernel_rfl
@[go_sem] theorem qVsT_lyt_42 : lyt Tryz.prog 42 = some (true, 3) := by kernel_rfl
@[go_sem] theorem qVsT_lyt_43 : lyt Tryz.prog 43 = some (false, 1) := by kernel_rfl
@[go_sem] theorem qVsT_lyt_53 : lyt Tryz.prog 53 = some (false, 1) := by kernel_rfl
@[go_sem] theorem qVsT_lyt_55 : lyt Tryz.prog 55 = some (false, 1) := by kernel_rfl
@[go_sem] theorem qVsT_lyt_60 : lyt Tryz.prog 60 = some (false, 1) := by kernel_rfl
@[go_sem] theorem qVsT_lyt_62 : lyt Tryz.prog 62 = some (true, 8) := by kernel_rfl
@[go_sem] theorem qVsT_lyt_65 : lyt Tryz.prog 65 = some (false, 1) := by kernel_rfl
@[go_sem] theorem qVsT_lyt_66 : lyt Tryz.prog 66 = some (false, 1) := by kernel_rfl
@[go_sem] theorem qVsT_lyt_72 : lyt Tryz.prog 72 = some (true, 2) := by kernel_rfl
@[go_sem] theorem qVsT_lyt_82 : lyt Tryz.prog 82 = some (false, 1) := by kernel_rfl
@[go_sem] theorem qVsT_lyt_85 : lyt Tryz.prog 85 = some (false, 1) := by kernel_rfl
@[go_sem] theorem qVsT_lyt_88 : lyt Tryz.prog 88 = some (false, 1) := by kernel_rfl
@[go_sem] theorem qVsT_lyt_89 : lyt Tryz.prog 89 = some (false, 1) := by kernel_rfl
@[go_sem] theorem qVsT_lyt_94 : lyt Tryz.prog 94 = some (false, 1) := by kernel_rfl
@[go_sem] theorem qVsT_lyt_114 : lyt Tryz.prog 114 = some (true, 7) := by kernel_rfl
@[go_sem] theorem qVsT_lyt_132 : lyt Tryz.prog 132 = some (true, 2) := by kernel_rfl
@[go_sem] theorem qVsT_lyt_134 : lyt Tryz.prog 134 = some (false, 1) := by kernel_rfl
@[go_sem] theorem qVsT_lyt_166 : lyt Tryz.prog 166 = some (true, 6) := by kernel_rfl
@[go_sem] theorem qVsT_lyt_184 : lyt Tryz.prog 184 = some (false, 1) := by kernel_rfl
@[go_sem] theorem qVsT_mapP_66 : mapP Tryz.prog 66 = some (none, AD.c (D.l [])) := by kernel_rfl
@[go_sem] theorem qVsT_mapP_81 : mapP Tryz.prog 81 = some (none, AD.g []) := by kernel_rfl
@[go_sem] theorem qVsT_mapP_82 : mapP Tryz.prog 82 = some (none, AD.c (D.i .i64 0)) := by kernel_rfl
@[go_sem] theorem qVsT_nlP_23 : nlP Tryz.prog 23 = some 3 := by kernel_rfl
@[go_sem] theorem qVsT_nlP_34 : nlP Tryz.prog 34 = some 3 := by kernel_rfl
@[go_sem] theorem qVsT_nlP_55 : nlP Tryz.prog 55 = some 0 := by kernel_rfl
@[go_sem] theorem qVsT_nlP_60 : nlP Tryz.prog 60 = some 3 := by kernel_rfl
@[go_sem] theorem qVsT_nlP_85 : nlP Tryz.prog 85 = some 0 := by kernel_rfl
@[go_sem] theorem qVsT_nlP_122 : nlP Tryz.prog 122 = some 0 := by kernel_rfl
@[go_sem] theorem qVsT_slP_9 : slP Tryz.prog 9 = some false := by kernel_rfl
@[go_sem] theorem qVsT_slP_22 : slP Tryz.prog 22 = some true := by kernel_rfl
@[go_sem] theorem qVsT_slP_23 : slP Tryz.prog 23 = some true := by kernel_rfl
@[go_sem] theorem qVsT_slP_26 : slP Tryz.prog 26 = some true := by kernel_rfl
@[go_sem] theorem qVsT_slP_34 : slP Tryz.prog 34 = some true := by kernel_rfl
@[go_sem] theorem qVsT_slP_60 : slP Tryz.prog 60 = some true := by kernel_rfl
@[go_sem] theorem qVsT_slP_88 : slP Tryz.prog 88 = some true := by kernel_rfl
@[go_sem] theorem qVsT_slP_134 : slP Tryz.prog 134 = some true := by kernel_rfl
@[go_sem] theorem qVsT_slP_180 : slP Tryz.prog 180 = some true := by kernel_rfl
@[go_sem] theorem qVsT_slP_184 : slP Tryz.prog 184 = some true := by kernel_rfl
@[go_sem] theorem qVsT_stP_9 : stP Tryz.prog 9 = true := by kernel_rfl
@[go_sem] theorem qVsT_zeroC_2 : zeroC Tryz.prog 2 = some [CV.i .i64 0] := by kernel_rfl
@[go_sem] theorem qVsT_zeroC_22 : zeroC Tryz.prog 22 = some [CV.nl] := by kernel_rfl
@[go_sem] theorem qVsT_zeroC_25 : zeroC Tryz.prog 25 = some [CV.b false, CV.nl] := by kernel_rfl
@[go_sem] theorem qVsT_zeroC_28 : zeroC Tryz.prog 28 = some [CV.i .i64 0, CV.s ByteArray.empty, CV.nl, CV.b false, CV.nl, CV.nl] := by kernel_rfl
@[go_sem] theorem qVsT_zeroC_36 : zeroC Tryz.prog 36 = some [CV.nl, CV.b false, CV.nl] := by kernel_rfl
@[go_sem] theorem qVsT_zeroC_42 : zeroC Tryz.prog 42 = some [CV.i .i64 0, CV.b false, CV.nl] := by kernel_rfl
@[go_sem] theorem qVsT_zeroC_53 : zeroC Tryz.prog 53 = some [CV.nf] := by kernel_rfl
@[go_sem] theorem qVsT_zeroC_60 : zeroC Tryz.prog 60 = some [CV.nl] := by kernel_rfl
@[go_sem] theorem qVsT_zeroC_62 : zeroC Tryz.prog 62 = some [CV.i .i64 0, CV.b false, CV.nl, CV.nl, CV.b false, CV.nl, CV.i .i64 0, CV.nl] := by kernel_rfl
@[go_sem] theorem qVsT_zeroC_72 : zeroC Tryz.prog 72 = some [CV.nl, CV.nl] := by kernel_rfl
@[go_sem] theorem qVsT_zeroC_94 : zeroC Tryz.prog 94 = some [CV.nf] := by kernel_rfl
@[go_sem] theorem qVsT_zeroC_114 : zeroC Tryz.prog 114 = some [CV.b false, CV.b false, CV.b false, CV.i .i64 0, CV.i .i64 0, CV.b false, CV.b false] := by kernel_rfl
@[go_sem] theorem qVsT_zeroC_132 : zeroC Tryz.prog 132 = some [CV.i .i64 0, CV.i .i64 0] := by kernel_rfl
@[go_sem] theorem qVsT_zeroC_158 : zeroC Tryz.prog 158 = some [CV.i .i64 0, CV.i .i64 0] := by kernel_rfl
@[go_sem] theorem qVsT_zeroC_159 : zeroC Tryz.prog 159 = some [CV.b false, CV.b false] := by kernel_rfl
@[go_sem] theorem qVsT_zeroC_166 : zeroC Tryz.prog 166 = some [CV.i .i64 0, CV.b false, CV.nl, CV.nl, CV.b false, CV.nl] := by kernel_rfl
@[go_sem] theorem qVsT_zeroC_3 : zeroC Tryz.prog 3 = some [CV.i .i64 0] := by kernel_rfl
@[go_sem] theorem qVsT_zeroC_43 : zeroC Tryz.prog 43 = some [CV.i .u32 0] := by kernel_rfl
end Go.Proofs.YtbgifiijjjoebaaGreatDoor
