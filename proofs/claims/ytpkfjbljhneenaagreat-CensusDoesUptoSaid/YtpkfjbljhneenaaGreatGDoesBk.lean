/- What the table says of the types and functions that this text's code names (written by gentypes.py). -/
import Derived.Test.YtpkfjbljhneenaaGreatGDoesBe
namespace Go.Proofs.YtpkfjbljhneenaaGreat
open Go.RowKit
@[go_sem] theorem qVsT_blP_4 : blP Tryz.prog 4 = true := by kernel_rfl
@[go_sem] theorem qVsT_bldP_25 : bldP Tryz.prog 25 = some ([CV.b false, CV.nl], [(0, 1), (1, 1)]) := by kernel_rfl
@[go_sem] theorem qVsT_bldP_38 : bldP Tryz.prog 38 = some ([CV.i .i64 0, CV.nl, CV.nl], [(0, 1), (1, 1), (2, 1)]) := by kernel_rfl
@[go_sem] theorem qVsT_cvtP_47_113 : cvtP Tryz.prog 47 113 = some .u64 := by kernel_rfl
@[go_sem] theorem qVsT_cvtP_113_2 : cvtP Tryz.prog 113 2 = some .i64 := by kernel_rfl
@[go_sem] theorem qVsT_eltP_22 : eltP Tryz.prog 22 = some (58, 7, 88) := by kernel_rfl
@[go_sem] theorem qVsT_eltP_23 : eltP Tryz.prog 23 = some (47, 1, 4) := by kernel_rfl
@[go_sem] theorem qVsT_eltP_28 : eltP Tryz.prog 28 = some (33, 1, 8) := by kernel_rfl
@[go_sem] theorem qVsT_eltP_30 : eltP Tryz.prog 30 = some (38, 3, 56) := by kernel_rfl
@[go_sem] theorem qVsT_eltP_35 : eltP Tryz.prog 35 = some (25, 2, 32) := by kernel_rfl
@[go_sem] theorem qVsT_eltP_36 : eltP Tryz.prog 36 = some (75, 1, 24) := by kernel_rfl
@[go_sem] theorem qVsT_eltP_75 : eltP Tryz.prog 75 = some (4, 1, 1) := by kernel_rfl
@[go_sem] theorem qVsT_enterP_4 : enterP Tryz.prog 4 = true := by kernel_rfl
@[go_sem] theorem qVsT_enterP_5 : enterP Tryz.prog 5 = true := by kernel_rfl
@[go_sem] theorem qVsT_enterP_6 : enterP Tryz.prog 6 = true := by kernel_rfl
@[go_sem] theorem qVsT_enterP_7 : enterP Tryz.prog 7 = true := by kernel_rfl
@[go_sem] theorem qVsT_enterP_8 : enterP Tryz.prog 8 = true := by kernel_rfl
@[go_sem] theorem qVsT_enterP_9 : enterP Tryz.prog 9 = true := by kernel_rfl
@[go_sem] theorem qVsT_enterP_10 : enterP Tryz.prog 10 = true := by kernel_rfl
@[go_sem] theorem qVsT_enterP_11 : enterP Tryz.prog 11 = true := by kernel_rfl
@[go_sem] theorem qVsT_enterP_12 : enterP Tryz.prog 12 = true := by kernel_rfl
@[go_sem] theorem qVsT_enterP_13 : enterP Tryz.prog 13 = true := by kernel_rfl
@[go_sem] theorem qVsT_enterP_14 : enterP Tryz.prog 14 = true := by kernel_rfl
@[go_sem] theorem qVsT_enterP_15 : enterP Tryz.prog 15 = true := by kernel_rfl
@[go_sem] theorem qVsT_enterP_16 : enterP Tryz.prog 16 = true := by kernel_rfl
@[go_sem] theorem qVsT_enterP_17 : enterP Tryz.prog 17 = true := by kernel_rfl
@[go_sem] theorem qVsT_enterP_18 : enterP Tryz.prog 18 = true := by kernel_rfl
@[go_sem] theorem qVsT_enterP_19 : enterP Tryz.prog 19 = true := by kernel_rfl
@[go_sem] theorem qVsT_enterP_20 : enterP Tryz.prog 20 = true := by kernel_rfl
@[go_sem] theorem qVsT_enterP_23 : enterP Tryz.prog 23 = true := by kernel_rfl
@[go_sem] theorem qVsT_enterP_24 : enterP Tryz.prog 24 = true := by kernel_rfl
@[go_sem] theorem qVsT_enterP_29 : enterP Tryz.prog 29 = true := by kernel_rfl
@[go_sem] theorem qVsT_enterP_37 : enterP Tryz.prog 37 = true := by kernel_rfl
@[go_sem] theorem qVsT_enterP_38 : enterP Tryz.prog 38 = true := by kernel_rfl
@[go_sem] theorem qVsT_enterP_39 : enterP Tryz.prog 39 = true := by kernel_rfl
@[go_sem] theorem qVsT_enterP_40 : enterP Tryz.prog 40 = true := by kernel_rfl
@[go_sem] theorem qVsT_enterP_41 : enterP Tryz.prog 41 = true := by kernel_rfl
@[go_sem] theorem qVsT_enterP_42 : enterP Tryz.prog 42 = true := by kernel_rfl
@[go_sem] theorem qVsT_enterP_43 : enterP Tryz.prog 43 = true := by kernel_rfl
@[go_sem] theorem qVsT_enterP_46 : enterP Tryz.prog 46 = true := by kernel_rfl
@[go_sem] theorem qVsT_enterP_49 : enterP Tryz.prog 49 = true := by kernel_rfl
@[go_sem] theorem qVsT_enterP_53 : enterP Tryz.prog 53 = true := by kernel_rfl
@[go_sem] theorem qVsT_enterP_54 : enterP Tryz.prog 54 = true := by kernel_rfl
@[go_sem] theorem qVsT_enterP_55 : enterP Tryz.prog 55 = true := by kernel_rfl
@[go_sem] theorem qVsT_enterP_56 : enterP Tryz.prog 56 = true := by kernel_rfl
@[go_sem] theorem qVsT_enterP_57 : enterP Tryz.prog 57 = true := by kernel_rfl
@[go_sem] theorem qVsT_enterP_58 : enterP Tryz.prog 58 = true := by kernel_rfl
@[go_sem] theorem qVsT_enterP_62 : enterP Tryz.prog 62 = true := by kernel_rfl
@[go_sem] theorem qVsT_enterP_80 : enterP Tryz.prog 80 = true := by kernel_rfl
@[go_sem] theorem qVsT_enterP_81 : enterP Tryz.prog 81 = true := by kernel_rfl
@[go_sem] theorem qVsT_enterP_82 : enterP Tryz.prog 82 = true := by kernel_rfl
@[go_sem] theorem qVsT_enterP_83 : enterP Tryz.prog 83 = true := by kernel_rfl
@[go_sem] theorem qVsT_enterP_84 : enterP Tryz.prog 84 = true := by kernel_rfl
@[go_sem] theorem qVsT_enterP_85 : enterP Tryz.prog 85 = true := by kernel_rfl
@[go_sem] theorem qVsT_enterP_86 : enterP Tryz.prog 86 = true := by kernel_rfl
@[go_sem] theorem qVsT_enterP_91 : enterP Tryz.prog 91 = true := by kernel_rfl
@[go_sem] theorem qVsT_enterP_92 : enterP Tryz.prog 92 = true := by kernel_rfl
@[go_sem] theorem qVsT_enterP_93 : enterP Tryz.prog 93 = true := by kernel_rfl
@[go_sem] theorem qVsT_enterP_94 : enterP Tryz.prog 94 = true := by kernel_rfl
@[go_sem] theorem qVsT_enterP_110 : enterP Tryz.prog 110 = true := by kernel_rfl
@[go_sem] theorem qVsT_enterP_112 : enterP Tryz.prog 112 = true := by kernel_rfl
@[go_sem] theorem qVsT_enterP_113 : enterP Tryz.prog 113 = true := by kernel_rfl
@[go_sem] theorem qVsT_enterP_114 : enterP Tryz.prog 114 = true := by kernel_rfl
@[go_sem] theorem qVsT_enterP_115 : enterP Tryz.prog 115 = true := by kernel_rfl
@[go_sem] theorem qVsT_enterP_116 : enterP Tryz.prog 116 = true := by kernel_rfl
@[go_sem] theorem qVsT_enterP_117 : enterP Tryz.prog 117 = true := by kernel_rfl
@[go_sem] theorem qVsT_enterP_129 : enterP Tryz.prog 129 = true := by kernel_rfl
@[go_sem] theorem qVsT_fldP_25_0 : fldP Tryz.prog 25 0 = some (0, 1) := by kernel_rfl
@[go_sem] theorem qVsT_fldP_25_1 : fldP Tryz.prog 25 1 = some (1, 1) := by kernel_rfl
@[go_sem] theorem qVsT_fldP_27_0 : fldP Tryz.prog 27 0 = some (0, 1) := by kernel_rfl
@[go_sem] theorem qVsT_fldP_27_1 : fldP Tryz.prog 27 1 = some (1, 2) := by kernel_rfl
@[go_sem] theorem qVsT_fldP_27_2 : fldP Tryz.prog 27 2 = some (3, 2) := by kernel_rfl
@[go_sem] theorem qVsT_fldP_38_0 : fldP Tryz.prog 38 0 = some (0, 1) := by kernel_rfl
@[go_sem] theorem qVsT_fldP_38_1 : fldP Tryz.prog 38 1 = some (1, 1) := by kernel_rfl
@[go_sem] theorem qVsT_fldP_38_2 : fldP Tryz.prog 38 2 = some (2, 1) := by kernel_rfl
@[go_sem] theorem qVsT_fldP_58_0 : fldP Tryz.prog 58 0 = some (0, 1) := by kernel_rfl
@[go_sem] theorem qVsT_fldP_58_1 : fldP Tryz.prog 58 1 = some (1, 1) := by kernel_rfl
@[go_sem] theorem qVsT_fldP_58_2 : fldP Tryz.prog 58 2 = some (2, 1) := by kernel_rfl
@[go_sem] theorem qVsT_fldP_58_3 : fldP Tryz.prog 58 3 = some (3, 2) := by kernel_rfl
@[go_sem] theorem qVsT_fldP_58_4 : fldP Tryz.prog 58 4 = some (5, 2) := by kernel_rfl
@[go_sem] theorem qVsT_loudP_4 : loudP Tryz.prog 4 = false := by kernel_rfl
@[go_sem] theorem qVsT_loudP_5 : loudP Tryz.prog 5 = false := by kernel_rfl
@[go_sem] theorem qVsT_loudP_6 : loudP Tryz.prog 6 = false := by kernel_rfl
@[go_sem] theorem qVsT_loudP_7 : loudP Tryz.prog 7 = false := by kernel_rfl
@[go_sem] theorem qVsT_loudP_8 : loudP Tryz.prog 8 = false := by kernel_rfl
@[go_sem] theorem qVsT_loudP_9 : loudP Tryz.prog 9 = false := by kernel_rfl
@[go_sem] theorem qVsT_loudP_10 : loudP Tryz.prog 10 = false := by kernel_rfl
@[go_sem] theorem qVsT_loudP_11 : loudP Tryz.prog 11 = false := by kernel_rfl
@[go_sem] theorem qVsT_loudP_12 : loudP Tryz.prog 12 = false := by kernel_rfl
@[go_sem] theorem qVsT_loudP_13 : loudP Tryz.prog 13 = false := by kernel_rfl
@[go_sem] theorem qVsT_loudP_14 : loudP Tryz.prog 14 = false := by kernel_rfl
@[go_sem] theorem qVsT_loudP_15 : loudP Tryz.prog 15 = false := by kernel_rfl
@[go_sem] theorem qVsT_loudP_16 : loudP Tryz.prog 16 = false := by kernel_rfl
@[go_sem] theorem qVsT_loudP_17 : loudP Tryz.prog 17 = false := by kernel_rfl
@[go_sem] theorem qVsT_loudP_18 : loudP Tryz.prog 18 = false := by kernel_rfl
@[go_sem] theorem qVsT_loudP_19 : loudP Tryz.prog 19 = false := by kernel_rfl
@[go_sem] theorem qVsT_loudP_20 : loudP Tryz.prog 20 = false := by kernel_rfl
@[go_sem] theorem qVsT_loudP_23 : loudP Tryz.prog 23 = false := by kernel_rfl
@[go_sem] theorem qVsT_loudP_24 : loudP Tryz.prog 24 = true := by kernel_rfl
@[go_sem] theorem qVsT_loudP_29 : loudP Tryz.prog 29 = false := by kernel_rfl
@[go_sem] theorem qVsT_loudP_37 : loudP Tryz.prog 37 = false := by kernel_rfl
@[go_sem] theorem qVsT_loudP_38 : loudP Tryz.prog 38 = false := by kernel_rfl
@[go_sem] theorem qVsT_loudP_39 : loudP Tryz.prog 39 = false := by kernel_rfl
@[go_sem] theorem qVsT_loudP_40 : loudP Tryz.prog 40 = false := by kernel_rfl
@[go_sem] theorem qVsT_loudP_41 : loudP Tryz.prog 41 = false := by kernel_rfl
@[go_sem] theorem qVsT_loudP_42 : loudP Tryz.prog 42 = false := by kernel_rfl
@[go_sem] theorem qVsT_loudP_43 : loudP Tryz.prog 43 = false := by kernel_rfl
@[go_sem] theorem qVsT_loudP_46 : loudP Tryz.prog 46 = false := by kernel_rfl
@[go_sem] theorem qVsT_loudP_49 : loudP Tryz.prog 49 = false := by kernel_rfl
@[go_sem] theorem qVsT_loudP_53 : loudP Tryz.prog 53 = false := by kernel_rfl
@[go_sem] theorem qVsT_loudP_54 : loudP Tryz.prog 54 = false := by kernel_rfl
@[go_sem] theorem qVsT_loudP_55 : loudP Tryz.prog 55 = false := by kernel_rfl
@[go_sem] theorem qVsT_loudP_56 : loudP Tryz.prog 56 = false := by kernel_rfl
@[go_sem] theorem qVsT_loudP_57 : loudP Tryz.prog 57 = false := by kernel_rfl
@[go_sem] theorem qVsT_loudP_58 : loudP Tryz.prog 58 = false := by kernel_rfl
@[go_sem] theorem qVsT_loudP_62 : loudP Tryz.prog 62 = false := by kernel_rfl
@[go_sem] theorem qVsT_loudP_80 : loudP Tryz.prog 80 = false := by kernel_rfl
@[go_sem] theorem qVsT_loudP_81 : loudP Tryz.prog 81 = false := by kernel_rfl
@[go_sem] theorem qVsT_loudP_82 : loudP Tryz.prog 82 = false := by kernel_rfl
@[go_sem] theorem qVsT_loudP_83 : loudP Tryz.prog 83 = false := by kernel_rfl
@[go_sem] theorem qVsT_loudP_84 : loudP Tryz.prog 84 = false := by kernel_rfl
@[go_sem] theorem qVsT_loudP_85 : loudP Tryz.prog 85 = false := by kernel_rfl
@[go_sem] theorem qVsT_loudP_86 : loudP Tryz.prog 86 = false := by kernel_rfl
@[go_sem] theorem qVsT_loudP_91 : loudP Tryz.prog 91 = false := by kernel_rfl
@[go_sem] theorem qVsT_loudP_92 : loudP Tryz.prog 92 = false := by kernel_rfl
@[go_sem] theorem qVsT_loudP_93 : loudP Tryz.prog 93 = false := by kernel_rfl
@[go_sem] theorem qVsT_loudP_94 : loudP Tryz.prog 94 = false := by kernel_rfl
@[go_sem] theorem qVsT_loudP_110 : loudP Tryz.prog 110 = false := by kernel_rfl
@[go_sem] theorem qVsT_loudP_112 : loudP Tryz.prog 112 = false := by kernel_rfl
@[go_sem] theorem qVsT_loudP_113 : loudP Tryz.prog 113 = false := by kernel_rfl
@[go_sem] theorem qVsT_loudP_114 : loudP Tryz.prog 114 = false := by kernel_rfl
@[go_sem] theorem qVsT_loudP_115 : loudP Tryz.prog 115 = false := by kernel_rfl
@[go_sem] theorem qVsT_loudP_116 : loudP Tryz.prog 116 = false := by kernel_rfl
@[go_sem] theorem qVsT_loudP_117 : loudP Tryz.prog 117 = false := by kernel_rfl
@[go_sem] theorem qVsT_loudP_129 : loudP Tryz.prog 129 = false := by kernel_rfl
@[go_sem] theorem qVsT_lyt_3 : lyt Tryz.prog 3 = some (false, 1) := by kernel_rfl
@[go_sem] theorem qVsT_lyt_4 : lyt Tryz.prog 4 = some (false, 1) := by kernel_rfl
@[go_sem] theorem qVsT_lyt_23 : lyt Tryz.prog 23 = some (false, 1) := by kernel_rfl
@[go_sem] theorem qVsT_lyt_25 : lyt Tryz.prog 25 = some (true, 2) := by kernel_rfl
@[go_sem] theorem qVsT_lyt_33 : lyt Tryz.prog 33 = some (false, 1) := by kernel_rfl
@[go_sem] theorem qVsT_lyt_35 : lyt Tryz.prog 35 = some (false, 1) := by kernel_rfl
@[go_sem] theorem qVsT_lyt_36 : lyt Tryz.prog 36 = some (false, 1) := by kernel_rfl
@[go_sem] theorem qVsT_lyt_38 : lyt Tryz.prog 38 = some (true, 3) := by kernel_rfl
@[go_sem] theorem qVsT_lyt_47 : lyt Tryz.prog 47 = some (false, 1) := by kernel_rfl
@[go_sem] theorem qVsT_lyt_58 : lyt Tryz.prog 58 = some (true, 7) := by kernel_rfl
@[go_sem] theorem qVsT_lyt_75 : lyt Tryz.prog 75 = some (false, 1) := by kernel_rfl
@[go_sem] theorem qVsT_nlP_28 : nlP Tryz.prog 28 = some 3 := by kernel_rfl
@[go_sem] theorem qVsT_slP_22 : slP Tryz.prog 22 = some true := by kernel_rfl
@[go_sem] theorem qVsT_slP_23 : slP Tryz.prog 23 = some true := by kernel_rfl
@[go_sem] theorem qVsT_slP_28 : slP Tryz.prog 28 = some true := by kernel_rfl
@[go_sem] theorem qVsT_slP_30 : slP Tryz.prog 30 = some true := by kernel_rfl
@[go_sem] theorem qVsT_slP_35 : slP Tryz.prog 35 = some true := by kernel_rfl
@[go_sem] theorem qVsT_slP_36 : slP Tryz.prog 36 = some true := by kernel_rfl
@[go_sem] theorem qVsT_slP_75 : slP Tryz.prog 75 = some true := by kernel_rfl
@[go_sem] theorem qVsT_zeroC_25 : zeroC Tryz.prog 25 = some [CV.b false, CV.nl] := by kernel_rfl
@[go_sem] theorem qVsT_zeroC_38 : zeroC Tryz.prog 38 = some [CV.i .i64 0, CV.nl, CV.nl] := by kernel_rfl
@[go_sem] theorem qVsT_zeroC_4 : zeroC Tryz.prog 4 = some [CV.b false] := by kernel_rfl
end Go.Proofs.YtpkfjbljhneenaaGreat
