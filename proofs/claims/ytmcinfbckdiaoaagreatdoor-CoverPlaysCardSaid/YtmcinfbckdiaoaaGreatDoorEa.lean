/- The program's types. Rows of bytes; single bits. The abstract machine: what a function made and left to its caller may be taken as memory that stays. The abstract machine: a region in each of its orders; what only looks at variables may come ahead of appending. -/
import Derived.Test.YtmcinfbckdiaoaaGreatDoorLc
set_option linter.unusedVariables false
set_option maxRecDepth 100000
namespace Go.Proofs.YtmcinfbckdiaoaaGreatDoor.Lv
open Go Go.RowKit
theorem look_cons {α : Type} (d : α) (b : Nat) (x : α) (r : List (Nat × α)) (t : Nat) : look d ((b, x) :: r) t = if t = b then x else look d r t := Eq.trans rfl rfl
theorem look_nil {α : Type} (d : α) (t : Nat) : look d [] t = d := Eq.trans rfl rfl
def gvS (d : Nat → D) : Nat → D := d
/-- The library's table for how often 2 goes into a word. -/
def deBr : List Int := [0, 1, 28, 2, 29, 14, 24, 3, 30, 22, 20, 15, 25, 17, 4, 8, 31, 27, 13, 23, 21, 19, 16, 7, 26, 12, 18, 6, 11, 5, 10, 9]
def deBrD : D := .agg (deBr.map fun n => .int .u8 n)
def gvB (d : Nat → D) : Nat → D := fun g => if g = 0 then .ra true 32 deBrD 0 else d g
def gv0 : Nat → D := gvS (gvB fun g => .gl g)
noncomputable def E : Ctx := ⟨Tryz.prog, fun t => tiOf Tryz.prog t, gv0, fun _ => rfl, by kernel_rfl, fun _ => true⟩
theorem E_P : E.P = Tryz.prog := rfl
theorem tt_0 : E.tt 0 = ⟨false, 1, 0, .oth, true, .unk, false⟩ := by kernel_rfl
theorem tt_1 : E.tt 1 = ⟨false, 1, 8, .fn, true, .nilf, false⟩ := by kernel_rfl
theorem tt_2 : E.tt 2 = ⟨false, 1, 8, .int .i64, true, .int .i64 0, false⟩ := by kernel_rfl
theorem tt_3 : E.tt 3 = ⟨false, 1, 8, .int .i64, true, .int .i64 0, false⟩ := by kernel_rfl
theorem tt_4 : E.tt 4 = ⟨false, 1, 1, .bool, true, .bool false, false⟩ := by kernel_rfl
theorem tt_5 : E.tt 5 = ⟨false, 1, 1, .int .u8, true, .int .u8 0, false⟩ := by kernel_rfl
theorem tt_6 : E.tt 6 = ⟨false, 1, 1, .int .u8, true, .int .u8 0, false⟩ := by kernel_rfl
theorem tt_7 : E.tt 7 = ⟨true, 4, 24, .strct [(0, 2), (1, 3), (2, 4), (3, 6)], true, .agg [.int .i64 0, .int .i64 0, .bool false, .int .u8 0], true⟩ := by kernel_rfl
theorem tt_8 : E.tt 8 = ⟨true, 4, 24, .strct [(0, 2), (1, 3), (2, 4), (3, 6)], true, .agg [.int .i64 0, .int .i64 0, .bool false, .int .u8 0], true⟩ := by kernel_rfl
theorem tt_9 : E.tt 9 = ⟨false, 1, 16, .string, true, .str [], false⟩ := by kernel_rfl
theorem tt_10 : E.tt 10 = ⟨false, 1, 16, .string, true, .str [], false⟩ := by kernel_rfl
theorem tt_11 : E.tt 11 = ⟨false, 1, 16, .string, true, .str [], false⟩ := by kernel_rfl
theorem tt_12 : E.tt 12 = ⟨false, 1, 8, .int .u64, true, .int .u64 0, false⟩ := by kernel_rfl
theorem tt_13 : E.tt 13 = ⟨true, 2, 24, .strct [(0, 9), (1, 12)], true, .agg [.str [], .int .u64 0], false⟩ := by kernel_rfl
theorem tt_14 : E.tt 14 = ⟨true, 2, 24, .strct [(0, 9), (1, 12)], true, .agg [.str [], .int .u64 0], false⟩ := by kernel_rfl
theorem tt_15 : E.tt 15 = ⟨false, 1, 8, .ptr 246, true, .nilp, false⟩ := by kernel_rfl
theorem tt_16 : E.tt 16 = ⟨false, 1, 8, .ptr 249, true, .nilp, false⟩ := by kernel_rfl
theorem tt_17 : E.tt 17 = ⟨false, 1, 8, .ptr 257, true, .nilp, false⟩ := by kernel_rfl
theorem tt_18 : E.tt 18 = ⟨true, 1, 8, .strct [(0, 17)], true, .agg [.nilp], false⟩ := by kernel_rfl
theorem tt_19 : E.tt 19 = ⟨true, 1, 8, .strct [(0, 17)], true, .agg [.nilp], false⟩ := by kernel_rfl
theorem tt_20 : E.tt 20 = ⟨false, 1, 16, .oth, true, .unk, false⟩ := by kernel_rfl
theorem tt_21 : E.tt 21 = ⟨false, 1, 4, .int .i32, true, .int .i32 0, false⟩ := by kernel_rfl
theorem tt_22 : E.tt 22 = ⟨false, 1, 24, .slc 104, true, .nils, false⟩ := by kernel_rfl
theorem tt_23 : E.tt 23 = ⟨false, 1, 24, .slc 42, true, .nils, false⟩ := by kernel_rfl
theorem tt_24 : E.tt 24 = ⟨false, 1, 24, .slc 42, true, .nils, false⟩ := by kernel_rfl
theorem tt_25 : E.tt 25 = ⟨false, 1, 24, .slc 79, true, .nils, false⟩ := by kernel_rfl
theorem tt_26 : E.tt 26 = ⟨false, 1, 0, .oth, true, .unk, false⟩ := by kernel_rfl
theorem tt_27 : E.tt 27 = ⟨false, 1, 8, .fn, true, .nilf, false⟩ := by kernel_rfl
theorem tt_28 : E.tt 28 = ⟨false, 1, 8, .fn, true, .nilf, false⟩ := by kernel_rfl
theorem tt_29 : E.tt 29 = ⟨false, 1, 8, .fn, true, .nilf, false⟩ := by kernel_rfl
theorem tt_30 : E.tt 30 = ⟨false, 1, 0, .oth, true, .unk, false⟩ := by kernel_rfl
theorem tt_31 : E.tt 31 = ⟨false, 1, 8, .fn, true, .nilf, false⟩ := by kernel_rfl
theorem tt_32 : E.tt 32 = ⟨false, 1, 8, .fn, true, .nilf, false⟩ := by kernel_rfl
theorem tt_33 : E.tt 33 = ⟨false, 1, 24, .slc 154, true, .nils, false⟩ := by kernel_rfl
theorem tt_34 : E.tt 34 = ⟨true, 1, 24, .strct [(0, 33)], true, .agg [.nils], true⟩ := by kernel_rfl
theorem tt_35 : E.tt 35 = ⟨true, 1, 24, .strct [(0, 33)], true, .agg [.nils], true⟩ := by kernel_rfl
theorem tt_36 : E.tt 36 = ⟨true, 2, 32, .strct [(0, 35), (1, 4)], true, .agg [.nils, .bool false], true⟩ := by kernel_rfl
theorem tt_37 : E.tt 37 = ⟨true, 2, 32, .strct [(0, 35), (1, 4)], true, .agg [.nils, .bool false], true⟩ := by kernel_rfl
theorem tt_38 : E.tt 38 = ⟨true, 3, 56, .strct [(0, 37), (2, 35)], true, .agg [.nils, .bool false, .nils], true⟩ := by kernel_rfl
theorem tt_39 : E.tt 39 = ⟨true, 3, 56, .strct [(0, 37), (2, 35)], true, .agg [.nils, .bool false, .nils], true⟩ := by kernel_rfl
theorem tt_40 : E.tt 40 = ⟨false, 1, 8, .fn, true, .nilf, false⟩ := by kernel_rfl
theorem tt_41 : E.tt 41 = ⟨true, 6, 112, .strct [(0, 39), (3, 39)], true, .agg [.nils, .bool false, .nils, .nils, .bool false, .nils], true⟩ := by kernel_rfl
theorem tt_42 : E.tt 42 = ⟨true, 6, 112, .strct [(0, 39), (3, 39)], true, .agg [.nils, .bool false, .nils, .nils, .bool false, .nils], true⟩ := by kernel_rfl
theorem tt_43 : E.tt 43 = ⟨false, 1, 8, .fn, true, .nilf, false⟩ := by kernel_rfl
theorem tt_44 : E.tt 44 = ⟨false, 1, 8, .fn, true, .nilf, false⟩ := by kernel_rfl
theorem tt_45 : E.tt 45 = ⟨false, 1, 8, .fn, true, .nilf, false⟩ := by kernel_rfl
theorem tt_46 : E.tt 46 = ⟨false, 1, 8, .int .i64, true, .int .i64 0, false⟩ := by kernel_rfl
theorem tt_47 : E.tt 47 = ⟨false, 1, 0, .oth, true, .unk, false⟩ := by kernel_rfl
theorem tt_48 : E.tt 48 = ⟨false, 1, 8, .fn, true, .nilf, false⟩ := by kernel_rfl
theorem tt_49 : E.tt 49 = ⟨false, 1, 0, .oth, true, .unk, false⟩ := by kernel_rfl
theorem tt_50 : E.tt 50 = ⟨false, 1, 8, .fn, true, .nilf, false⟩ := by kernel_rfl
theorem tt_51 : E.tt 51 = ⟨false, 1, 8, .fn, true, .nilf, false⟩ := by kernel_rfl
theorem tt_52 : E.tt 52 = ⟨false, 1, 8, .fn, true, .nilf, false⟩ := by kernel_rfl
theorem tt_53 : E.tt 53 = ⟨false, 1, 8, .fn, true, .nilf, false⟩ := by kernel_rfl
theorem tt_54 : E.tt 54 = ⟨false, 1, 8, .fn, true, .nilf, false⟩ := by kernel_rfl
theorem tt_55 : E.tt 55 = ⟨false, 1, 24, .slc 3, true, .nils, false⟩ := by kernel_rfl
theorem tt_56 : E.tt 56 = ⟨false, 1, 8, .fn, true, .nilf, false⟩ := by kernel_rfl
theorem tt_57 : E.tt 57 = ⟨false, 1, 8, .ptr 125, true, .nilp, false⟩ := by kernel_rfl
theorem tt_58 : E.tt 58 = ⟨false, 1, 8, .fn, true, .nilf, false⟩ := by kernel_rfl
theorem tt_59 : E.tt 59 = ⟨false, 1, 8, .fn, true, .nilf, false⟩ := by kernel_rfl
theorem tt_60 : E.tt 60 = ⟨false, 1, 8, .fn, true, .nilf, false⟩ := by kernel_rfl
theorem tt_61 : E.tt 61 = ⟨false, 1, 0, .oth, true, .unk, false⟩ := by kernel_rfl
theorem tt_62 : E.tt 62 = ⟨false, 1, 8, .fn, true, .nilf, false⟩ := by kernel_rfl
theorem tt_63 : E.tt 63 = ⟨false, 1, 8, .fn, true, .nilf, false⟩ := by kernel_rfl
theorem tt_64 : E.tt 64 = ⟨false, 1, 8, .fn, true, .nilf, false⟩ := by kernel_rfl
theorem tt_65 : E.tt 65 = ⟨false, 1, 0, .oth, true, .unk, false⟩ := by kernel_rfl
theorem tt_66 : E.tt 66 = ⟨false, 1, 8, .fn, true, .nilf, false⟩ := by kernel_rfl
theorem tt_67 : E.tt 67 = ⟨false, 1, 8, .fn, true, .nilf, false⟩ := by kernel_rfl
theorem tt_68 : E.tt 68 = ⟨false, 1, 24, .slc 39, true, .nils, false⟩ := by kernel_rfl
theorem tt_69 : E.tt 69 = ⟨false, 1, 8, .fn, true, .nilf, false⟩ := by kernel_rfl
theorem tt_70 : E.tt 70 = ⟨false, 1, 8, .fn, true, .nilf, false⟩ := by kernel_rfl
theorem tt_71 : E.tt 71 = ⟨false, 1, 8, .fn, true, .nilf, false⟩ := by kernel_rfl
theorem tt_72 : E.tt 72 = ⟨false, 1, 24, .slc 154, true, .nils, false⟩ := by kernel_rfl
theorem tt_73 : E.tt 73 = ⟨true, 2, 32, .strct [(0, 4), (1, 72)], true, .agg [.bool false, .nils], true⟩ := by kernel_rfl
theorem tt_74 : E.tt 74 = ⟨true, 2, 32, .strct [(0, 4), (1, 72)], true, .agg [.bool false, .nils], true⟩ := by kernel_rfl
theorem tt_75 : E.tt 75 = ⟨true, 3, 56, .strct [(0, 74), (2, 72)], true, .agg [.bool false, .nils, .nils], true⟩ := by kernel_rfl
theorem tt_76 : E.tt 76 = ⟨true, 3, 56, .strct [(0, 74), (2, 72)], true, .agg [.bool false, .nils, .nils], true⟩ := by kernel_rfl
theorem tt_77 : E.tt 77 = ⟨false, 1, 8, .fn, true, .nilf, false⟩ := by kernel_rfl
theorem tt_78 : E.tt 78 = ⟨true, 6, 112, .strct [(0, 76), (3, 76)], true, .agg [.bool false, .nils, .nils, .bool false, .nils, .nils], true⟩ := by kernel_rfl
theorem tt_79 : E.tt 79 = ⟨true, 6, 112, .strct [(0, 76), (3, 76)], true, .agg [.bool false, .nils, .nils, .bool false, .nils, .nils], true⟩ := by kernel_rfl
theorem tt_80 : E.tt 80 = ⟨false, 1, 0, .oth, true, .unk, false⟩ := by kernel_rfl
theorem tt_81 : E.tt 81 = ⟨false, 1, 8, .fn, true, .nilf, false⟩ := by kernel_rfl
theorem tt_82 : E.tt 82 = ⟨false, 1, 24, .slc 9, true, .nils, false⟩ := by kernel_rfl
theorem tt_83 : E.tt 83 = ⟨false, 1, 0, .oth, true, .unk, false⟩ := by kernel_rfl
theorem tt_84 : E.tt 84 = ⟨false, 1, 8, .fn, true, .nilf, false⟩ := by kernel_rfl
theorem tt_85 : E.tt 85 = ⟨false, 1, 8, .fn, true, .nilf, false⟩ := by kernel_rfl
theorem tt_86 : E.tt 86 = ⟨false, 1, 8, .fn, true, .nilf, false⟩ := by kernel_rfl
theorem tt_87 : E.tt 87 = ⟨false, 1, 24, .slc 76, true, .nils, false⟩ := by kernel_rfl
theorem tt_88 : E.tt 88 = ⟨false, 1, 0, .oth, true, .unk, false⟩ := by kernel_rfl
theorem tt_89 : E.tt 89 = ⟨false, 1, 8, .fn, true, .nilf, false⟩ := by kernel_rfl
theorem tt_90 : E.tt 90 = ⟨false, 1, 8, .fn, true, .nilf, false⟩ := by kernel_rfl
theorem tt_91 : E.tt 91 = ⟨false, 1, 8, .fn, true, .nilf, false⟩ := by kernel_rfl
theorem tt_92 : E.tt 92 = ⟨false, 1, 8, .fn, true, .nilf, false⟩ := by kernel_rfl
theorem tt_93 : E.tt 93 = ⟨false, 1, 8, .fn, true, .nilf, false⟩ := by kernel_rfl
theorem tt_94 : E.tt 94 = ⟨false, 1, 24, .slc 25, true, .nils, false⟩ := by kernel_rfl
theorem tt_95 : E.tt 95 = ⟨false, 1, 24, .slc 22, true, .nils, false⟩ := by kernel_rfl
theorem tt_96 : E.tt 96 = ⟨false, 1, 24, .slc 24, true, .nils, false⟩ := by kernel_rfl
theorem tt_97 : E.tt 97 = ⟨false, 1, 8, .fn, true, .nilf, false⟩ := by kernel_rfl
theorem tt_98 : E.tt 98 = ⟨false, 1, 8, .fn, true, .nilf, false⟩ := by kernel_rfl
theorem tt_99 : E.tt 99 = ⟨false, 1, 8, .fn, true, .nilf, false⟩ := by kernel_rfl
theorem tt_100 : E.tt 100 = ⟨false, 1, 8, .fn, true, .nilf, false⟩ := by kernel_rfl
theorem tt_101 : E.tt 101 = ⟨false, 1, 8, .fn, true, .nilf, false⟩ := by kernel_rfl
theorem tt_102 : E.tt 102 = ⟨false, 1, 8, .fn, true, .nilf, false⟩ := by kernel_rfl
theorem tt_103 : E.tt 103 = ⟨true, 2, 32, .strct [(0, 9), (1, 9)], true, .agg [.str [], .str []], true⟩ := by kernel_rfl
theorem tt_104 : E.tt 104 = ⟨true, 2, 32, .strct [(0, 9), (1, 9)], true, .agg [.str [], .str []], true⟩ := by kernel_rfl
theorem tt_105 : E.tt 105 = ⟨false, 1, 8, .fn, true, .nilf, false⟩ := by kernel_rfl
theorem tt_106 : E.tt 106 = ⟨false, 1, 8, .fn, true, .nilf, false⟩ := by kernel_rfl
theorem tt_107 : E.tt 107 = ⟨false, 1, 8, .fn, true, .nilf, false⟩ := by kernel_rfl
theorem tt_108 : E.tt 108 = ⟨false, 1, 8, .fn, true, .nilf, false⟩ := by kernel_rfl
theorem tt_109 : E.tt 109 = ⟨false, 1, 8, .fn, true, .nilf, false⟩ := by kernel_rfl
theorem tt_110 : E.tt 110 = ⟨false, 1, 8, .fn, true, .nilf, false⟩ := by kernel_rfl
theorem tt_111 : E.tt 111 = ⟨false, 1, 8, .fn, true, .nilf, false⟩ := by kernel_rfl
theorem tt_112 : E.tt 112 = ⟨false, 1, 8, .fn, true, .nilf, false⟩ := by kernel_rfl
theorem tt_113 : E.tt 113 = ⟨false, 1, 0, .oth, true, .unk, false⟩ := by kernel_rfl
theorem tt_114 : E.tt 114 = ⟨false, 1, 8, .fn, true, .nilf, false⟩ := by kernel_rfl
theorem tt_115 : E.tt 115 = ⟨false, 1, 0, .oth, true, .unk, false⟩ := by kernel_rfl
theorem tt_116 : E.tt 116 = ⟨false, 1, 8, .fn, true, .nilf, false⟩ := by kernel_rfl
theorem tt_117 : E.tt 117 = ⟨false, 1, 8, .fn, true, .nilf, false⟩ := by kernel_rfl
theorem tt_118 : E.tt 118 = ⟨false, 1, 8, .fn, true, .nilf, false⟩ := by kernel_rfl
theorem tt_119 : E.tt 119 = ⟨false, 1, 8, .fn, true, .nilf, false⟩ := by kernel_rfl
theorem tt_120 : E.tt 120 = ⟨false, 1, 8, .fn, true, .nilf, false⟩ := by kernel_rfl
theorem tt_121 : E.tt 121 = ⟨true, 2, 32, .strct [(0, 24), (1, 3)], true, .agg [.nils, .int .i64 0], true⟩ := by kernel_rfl
theorem tt_122 : E.tt 122 = ⟨true, 2, 32, .strct [(0, 24), (1, 3)], true, .agg [.nils, .int .i64 0], true⟩ := by kernel_rfl
theorem tt_123 : E.tt 123 = ⟨false, 1, 24, .slc 122, true, .nils, false⟩ := by kernel_rfl
theorem tt_124 : E.tt 124 = ⟨true, 2, 32, .strct [(0, 123), (1, 3)], true, .agg [.nils, .int .i64 0], true⟩ := by kernel_rfl
theorem tt_125 : E.tt 125 = ⟨true, 2, 32, .strct [(0, 123), (1, 3)], true, .agg [.nils, .int .i64 0], true⟩ := by kernel_rfl
theorem tt_126 : E.tt 126 = ⟨false, 1, 0, .oth, true, .unk, false⟩ := by kernel_rfl
theorem tt_127 : E.tt 127 = ⟨false, 1, 8, .fn, true, .nilf, false⟩ := by kernel_rfl
theorem tt_128 : E.tt 128 = ⟨false, 1, 8, .fn, true, .nilf, false⟩ := by kernel_rfl
theorem tt_129 : E.tt 129 = ⟨false, 1, 8, .fn, true, .nilf, false⟩ := by kernel_rfl
theorem tt_130 : E.tt 130 = ⟨false, 1, 8, .fn, true, .nilf, false⟩ := by kernel_rfl
theorem tt_131 : E.tt 131 = ⟨false, 1, 8, .fn, true, .nilf, false⟩ := by kernel_rfl
theorem tt_132 : E.tt 132 = ⟨false, 1, 8, .fn, true, .nilf, false⟩ := by kernel_rfl
theorem tt_133 : E.tt 133 = ⟨false, 1, 8, .fn, true, .nilf, false⟩ := by kernel_rfl
theorem tt_134 : E.tt 134 = ⟨false, 1, 8, .fn, true, .nilf, false⟩ := by kernel_rfl
theorem tt_135 : E.tt 135 = ⟨false, 1, 0, .oth, true, .unk, false⟩ := by kernel_rfl
theorem tt_136 : E.tt 136 = ⟨false, 1, 8, .fn, true, .nilf, false⟩ := by kernel_rfl
theorem tt_137 : E.tt 137 = ⟨false, 1, 0, .oth, true, .unk, false⟩ := by kernel_rfl
theorem tt_138 : E.tt 138 = ⟨false, 1, 8, .fn, true, .nilf, false⟩ := by kernel_rfl
theorem tt_139 : E.tt 139 = ⟨false, 1, 8, .fn, true, .nilf, false⟩ := by kernel_rfl
theorem tt_140 : E.tt 140 = ⟨false, 1, 8, .fn, true, .nilf, false⟩ := by kernel_rfl
theorem tt_141 : E.tt 141 = ⟨true, 3, 72, .arr 3 68, true, .agg [.nils, .nils, .nils], true⟩ := by kernel_rfl
theorem tt_142 : E.tt 142 = ⟨false, 1, 8, .fn, true, .nilf, false⟩ := by kernel_rfl
theorem tt_143 : E.tt 143 = ⟨false, 1, 8, .map 144 3, true, .nilm, false⟩ := by kernel_rfl
theorem tt_144 : E.tt 144 = ⟨true, 3, 24, .arr 3 3, true, .agg [.int .i64 0, .int .i64 0, .int .i64 0], true⟩ := by kernel_rfl
theorem tt_145 : E.tt 145 = ⟨false, 1, 0, .oth, true, .unk, false⟩ := by kernel_rfl
theorem tt_146 : E.tt 146 = ⟨false, 1, 8, .fn, true, .nilf, false⟩ := by kernel_rfl
theorem tt_147 : E.tt 147 = ⟨false, 1, 24, .slc 87, true, .nils, false⟩ := by kernel_rfl
theorem tt_148 : E.tt 148 = ⟨false, 1, 8, .fn, true, .nilf, false⟩ := by kernel_rfl
theorem tt_149 : E.tt 149 = ⟨false, 1, 8, .fn, true, .nilf, false⟩ := by kernel_rfl
theorem tt_150 : E.tt 150 = ⟨false, 1, 8, .fn, true, .nilf, false⟩ := by kernel_rfl
theorem tt_151 : E.tt 151 = ⟨false, 1, 8, .fn, true, .nilf, false⟩ := by kernel_rfl
theorem tt_152 : E.tt 152 = ⟨false, 1, 8, .fn, true, .nilf, false⟩ := by kernel_rfl
theorem tt_153 : E.tt 153 = ⟨false, 1, 8, .fn, true, .nilf, false⟩ := by kernel_rfl
theorem tt_154 : E.tt 154 = ⟨false, 1, 4, .int .u32, true, .int .u32 0, false⟩ := by kernel_rfl
theorem tt_155 : E.tt 155 = ⟨false, 1, 0, .oth, true, .unk, false⟩ := by kernel_rfl
theorem tt_156 : E.tt 156 = ⟨false, 1, 8, .fn, true, .nilf, false⟩ := by kernel_rfl
theorem tt_157 : E.tt 157 = ⟨false, 1, 8, .fn, true, .nilf, false⟩ := by kernel_rfl
theorem tt_158 : E.tt 158 = ⟨false, 1, 0, .oth, true, .unk, false⟩ := by kernel_rfl
theorem tt_159 : E.tt 159 = ⟨false, 1, 8, .fn, true, .nilf, false⟩ := by kernel_rfl
theorem tt_160 : E.tt 160 = ⟨false, 1, 8, .int .u64, true, .int .u64 0, false⟩ := by kernel_rfl
theorem tt_161 : E.tt 161 = ⟨false, 1, 8, .int .u64, true, .int .u64 0, false⟩ := by kernel_rfl
theorem tt_162 : E.tt 162 = ⟨false, 1, 8, .fn, true, .nilf, false⟩ := by kernel_rfl
theorem tt_163 : E.tt 163 = ⟨false, 1, 8, .fn, true, .nilf, false⟩ := by kernel_rfl
theorem tt_164 : E.tt 164 = ⟨true, 3, 40, .strct [(0, 37), (2, 3)], true, .agg [.nils, .bool false, .int .i64 0], true⟩ := by kernel_rfl
theorem tt_165 : E.tt 165 = ⟨true, 3, 40, .strct [(0, 37), (2, 3)], true, .agg [.nils, .bool false, .int .i64 0], true⟩ := by kernel_rfl
theorem tt_166 : E.tt 166 = ⟨false, 1, 0, .oth, true, .unk, false⟩ := by kernel_rfl
theorem tt_167 : E.tt 167 = ⟨false, 1, 8, .fn, true, .nilf, false⟩ := by kernel_rfl
theorem tt_168 : E.tt 168 = ⟨false, 1, 8, .fn, true, .nilf, false⟩ := by kernel_rfl
theorem tt_169 : E.tt 169 = ⟨false, 1, 8, .fn, true, .nilf, false⟩ := by kernel_rfl
theorem tt_170 : E.tt 170 = ⟨false, 1, 8, .fn, true, .nilf, false⟩ := by kernel_rfl
theorem tt_171 : E.tt 171 = ⟨false, 1, 8, .fn, true, .nilf, false⟩ := by kernel_rfl
theorem tt_172 : E.tt 172 = ⟨false, 1, 8, .fn, true, .nilf, false⟩ := by kernel_rfl
theorem tt_173 : E.tt 173 = ⟨false, 1, 8, .fn, true, .nilf, false⟩ := by kernel_rfl
theorem tt_174 : E.tt 174 = ⟨false, 1, 8, .fn, true, .nilf, false⟩ := by kernel_rfl
theorem tt_175 : E.tt 175 = ⟨false, 1, 8, .fn, true, .nilf, false⟩ := by kernel_rfl
theorem tt_176 : E.tt 176 = ⟨false, 1, 8, .fn, true, .nilf, false⟩ := by kernel_rfl
theorem tt_177 : E.tt 177 = ⟨false, 1, 8, .fn, true, .nilf, false⟩ := by kernel_rfl
theorem tt_178 : E.tt 178 = ⟨false, 1, 8, .fn, true, .nilf, false⟩ := by kernel_rfl
theorem tt_179 : E.tt 179 = ⟨false, 1, 8, .fn, true, .nilf, false⟩ := by kernel_rfl
theorem tt_180 : E.tt 180 = ⟨false, 1, 0, .oth, true, .unk, false⟩ := by kernel_rfl
theorem tt_181 : E.tt 181 = ⟨false, 1, 8, .fn, true, .nilf, false⟩ := by kernel_rfl
theorem tt_182 : E.tt 182 = ⟨false, 1, 0, .oth, true, .unk, false⟩ := by kernel_rfl
theorem tt_183 : E.tt 183 = ⟨false, 1, 8, .fn, true, .nilf, false⟩ := by kernel_rfl
theorem tt_184 : E.tt 184 = ⟨false, 1, 0, .oth, true, .unk, false⟩ := by kernel_rfl
theorem tt_185 : E.tt 185 = ⟨false, 1, 8, .fn, true, .nilf, false⟩ := by kernel_rfl
theorem tt_186 : E.tt 186 = ⟨false, 1, 0, .oth, true, .unk, false⟩ := by kernel_rfl
theorem tt_187 : E.tt 187 = ⟨false, 1, 8, .fn, true, .nilf, false⟩ := by kernel_rfl
theorem tt_188 : E.tt 188 = ⟨false, 1, 0, .oth, true, .unk, false⟩ := by kernel_rfl
theorem tt_189 : E.tt 189 = ⟨false, 1, 8, .fn, true, .nilf, false⟩ := by kernel_rfl
theorem tt_190 : E.tt 190 = ⟨false, 1, 8, .fn, true, .nilf, false⟩ := by kernel_rfl
theorem tt_191 : E.tt 191 = ⟨false, 1, 8, .fn, true, .nilf, false⟩ := by kernel_rfl
theorem tt_192 : E.tt 192 = ⟨false, 1, 8, .fn, true, .nilf, false⟩ := by kernel_rfl
theorem tt_193 : E.tt 193 = ⟨false, 1, 0, .oth, true, .unk, false⟩ := by kernel_rfl
theorem tt_194 : E.tt 194 = ⟨false, 1, 8, .fn, true, .nilf, false⟩ := by kernel_rfl
theorem tt_195 : E.tt 195 = ⟨false, 1, 8, .fn, true, .nilf, false⟩ := by kernel_rfl
theorem tt_196 : E.tt 196 = ⟨false, 1, 8, .fn, true, .nilf, false⟩ := by kernel_rfl
theorem tt_197 : E.tt 197 = ⟨false, 1, 8, .fn, true, .nilf, false⟩ := by kernel_rfl
theorem tt_198 : E.tt 198 = ⟨false, 1, 8, .fn, true, .nilf, false⟩ := by kernel_rfl
theorem tt_199 : E.tt 199 = ⟨false, 1, 8, .fn, true, .nilf, false⟩ := by kernel_rfl
theorem tt_200 : E.tt 200 = ⟨false, 1, 8, .fn, true, .nilf, false⟩ := by kernel_rfl
theorem tt_201 : E.tt 201 = ⟨false, 1, 8, .fn, true, .nilf, false⟩ := by kernel_rfl
theorem tt_202 : E.tt 202 = ⟨false, 1, 8, .fn, true, .nilf, false⟩ := by kernel_rfl
theorem tt_203 : E.tt 203 = ⟨false, 1, 8, .fn, true, .nilf, false⟩ := by kernel_rfl
theorem tt_204 : E.tt 204 = ⟨false, 1, 0, .oth, true, .unk, false⟩ := by kernel_rfl
theorem tt_205 : E.tt 205 = ⟨false, 1, 8, .fn, true, .nilf, false⟩ := by kernel_rfl
theorem tt_206 : E.tt 206 = ⟨false, 1, 8, .fn, true, .nilf, false⟩ := by kernel_rfl
theorem tt_207 : E.tt 207 = ⟨false, 1, 8, .fn, true, .nilf, false⟩ := by kernel_rfl
theorem tt_208 : E.tt 208 = ⟨false, 1, 8, .fn, true, .nilf, false⟩ := by kernel_rfl
theorem tt_209 : E.tt 209 = ⟨false, 1, 8, .fn, true, .nilf, false⟩ := by kernel_rfl
theorem tt_210 : E.tt 210 = ⟨false, 1, 24, .slc 5, true, .nils, false⟩ := by kernel_rfl
theorem tt_211 : E.tt 211 = ⟨false, 1, 8, .fn, true, .nilf, false⟩ := by kernel_rfl
theorem tt_212 : E.tt 212 = ⟨false, 1, 8, .fn, true, .nilf, false⟩ := by kernel_rfl
theorem tt_213 : E.tt 213 = ⟨false, 1, 8, .fn, true, .nilf, false⟩ := by kernel_rfl
theorem tt_214 : E.tt 214 = ⟨false, 1, 0, .oth, true, .unk, false⟩ := by kernel_rfl
theorem tt_215 : E.tt 215 = ⟨false, 1, 8, .fn, true, .nilf, false⟩ := by kernel_rfl
theorem tt_216 : E.tt 216 = ⟨false, 1, 8, .fn, true, .nilf, false⟩ := by kernel_rfl
theorem tt_217 : E.tt 217 = ⟨false, 1, 8, .fn, true, .nilf, false⟩ := by kernel_rfl
theorem tt_218 : E.tt 218 = ⟨false, 1, 8, .fn, true, .nilf, false⟩ := by kernel_rfl
theorem tt_219 : E.tt 219 = ⟨false, 1, 8, .fn, true, .nilf, false⟩ := by kernel_rfl
theorem tt_220 : E.tt 220 = ⟨false, 1, 8, .fn, true, .nilf, false⟩ := by kernel_rfl
theorem tt_221 : E.tt 221 = ⟨false, 1, 8, .fn, true, .nilf, false⟩ := by kernel_rfl
theorem tt_222 : E.tt 222 = ⟨false, 1, 8, .fn, true, .nilf, false⟩ := by kernel_rfl
theorem tt_223 : E.tt 223 = ⟨false, 1, 8, .fn, true, .nilf, false⟩ := by kernel_rfl
theorem tt_224 : E.tt 224 = ⟨false, 1, 8, .fn, true, .nilf, false⟩ := by kernel_rfl
theorem tt_225 : E.tt 225 = ⟨false, 1, 8, .int .i64, true, .int .i64 0, false⟩ := by kernel_rfl
theorem tt_226 : E.tt 226 = ⟨false, 1, 0, .oth, true, .unk, false⟩ := by kernel_rfl
theorem tt_227 : E.tt 227 = ⟨false, 1, 8, .fn, true, .nilf, false⟩ := by kernel_rfl
theorem tt_228 : E.tt 228 = ⟨false, 1, 8, .fn, true, .nilf, false⟩ := by kernel_rfl
theorem tt_229 : E.tt 229 = ⟨false, 1, 8, .fn, true, .nilf, false⟩ := by kernel_rfl
theorem tt_230 : E.tt 230 = ⟨false, 1, 0, .oth, true, .unk, false⟩ := by kernel_rfl
theorem tt_231 : E.tt 231 = ⟨false, 1, 8, .fn, true, .nilf, false⟩ := by kernel_rfl
theorem tt_232 : E.tt 232 = ⟨false, 1, 8, .fn, true, .nilf, false⟩ := by kernel_rfl
theorem tt_233 : E.tt 233 = ⟨true, 32, 32, .arr 32 5, true, .agg [.int .u8 0, .int .u8 0, .int .u8 0, .int .u8 0, .int .u8 0, .int .u8 0, .int .u8 0, .int .u8 0, .int .u8 0, .int .u8 0, .int .u8 0, .int .u8 0, .int .u8 0, .int .u8 0, .int .u8 0, .int .u8 0, .int .u8 0, .int .u8 0, .int .u8 0, .int .u8 0, .int .u8 0, .int .u8 0, .int .u8 0, .int .u8 0, .int .u8 0, .int .u8 0, .int .u8 0, .int .u8 0, .int .u8 0, .int .u8 0, .int .u8 0, .int .u8 0], true⟩ := by kernel_rfl
theorem tt_234 : E.tt 234 = ⟨false, 1, 8, .fn, true, .nilf, false⟩ := by kernel_rfl
theorem tt_235 : E.tt 235 = ⟨false, 1, 8, .fn, true, .nilf, false⟩ := by kernel_rfl
theorem tt_236 : E.tt 236 = ⟨false, 1, 8, .int .u64, true, .int .u64 0, false⟩ := by kernel_rfl
theorem tt_237 : E.tt 237 = ⟨false, 1, 8, .fn, true, .nilf, false⟩ := by kernel_rfl
theorem tt_238 : E.tt 238 = ⟨false, 1, 8, .fn, true, .nilf, false⟩ := by kernel_rfl
theorem tt_239 : E.tt 239 = ⟨false, 1, 8, .ptr 3, true, .nilp, false⟩ := by kernel_rfl
theorem tt_240 : E.tt 240 = ⟨false, 1, 8, .fn, true, .nilf, false⟩ := by kernel_rfl
theorem tt_241 : E.tt 241 = ⟨false, 1, 0, .oth, true, .unk, false⟩ := by kernel_rfl
theorem tt_242 : E.tt 242 = ⟨false, 1, 8, .fn, true, .nilf, false⟩ := by kernel_rfl
theorem tt_243 : E.tt 243 = ⟨false, 1, 8, .ptr 236, true, .nilp, false⟩ := by kernel_rfl
theorem tt_244 : E.tt 244 = ⟨false, 1, 8, .fn, true, .nilf, false⟩ := by kernel_rfl
theorem tt_245 : E.tt 245 = ⟨true, 4, 40, .strct [(0, 17), (1, 17), (2, 17), (3, 9)], true, .agg [.nilp, .nilp, .nilp, .str []], false⟩ := by kernel_rfl
theorem tt_246 : E.tt 246 = ⟨true, 4, 40, .strct [(0, 17), (1, 17), (2, 17), (3, 9)], true, .agg [.nilp, .nilp, .nilp, .str []], false⟩ := by kernel_rfl
theorem tt_247 : E.tt 247 = ⟨true, 0, 0, .arr 0 16, true, .agg [], true⟩ := by kernel_rfl
theorem tt_248 : E.tt 248 = ⟨true, 0, 0, .strct [(0, 247)], true, .agg [], false⟩ := by kernel_rfl
theorem tt_249 : E.tt 249 = ⟨true, 0, 0, .strct [(0, 247)], true, .agg [], false⟩ := by kernel_rfl
theorem tt_250 : E.tt 250 = ⟨false, 1, 1, .int .u8, true, .int .u8 0, false⟩ := by kernel_rfl
theorem tt_251 : E.tt 251 = ⟨false, 1, 1, .int .u8, true, .int .u8 0, false⟩ := by kernel_rfl
theorem tt_252 : E.tt 252 = ⟨false, 1, 8, .fn, true, .nilf, false⟩ := by kernel_rfl
theorem tt_253 : E.tt 253 = ⟨false, 1, 8, .ptr 5, true, .nilp, false⟩ := by kernel_rfl
theorem tt_254 : E.tt 254 = ⟨false, 1, 4, .int .i32, true, .int .i32 0, false⟩ := by kernel_rfl
theorem tt_255 : E.tt 255 = ⟨false, 1, 4, .int .i32, true, .int .i32 0, false⟩ := by kernel_rfl
theorem tt_256 : E.tt 256 = ⟨true, 11, 48, .strct [(0, 12), (1, 12), (2, 154), (3, 250), (4, 5), (5, 5), (6, 251), (7, 252), (8, 253), (9, 254), (10, 255)], true, .agg [.int .u64 0, .int .u64 0, .int .u32 0, .int .u8 0, .int .u8 0, .int .u8 0, .int .u8 0, .nilf, .nilp, .int .i32 0, .int .i32 0], false⟩ := by kernel_rfl
theorem tt_257 : E.tt 257 = ⟨true, 11, 48, .strct [(0, 12), (1, 12), (2, 154), (3, 250), (4, 5), (5, 5), (6, 251), (7, 252), (8, 253), (9, 254), (10, 255)], true, .agg [.int .u64 0, .int .u64 0, .int .u32 0, .int .u8 0, .int .u8 0, .int .u8 0, .int .u8 0, .nilf, .nilp, .int .i32 0, .int .i32 0], false⟩ := by kernel_rfl
theorem tt_258 : E.tt 258 = ⟨false, 1, 8, .oth, true, .nilp, false⟩ := by kernel_rfl
attribute [go_sem] AW_skip AW_seq AW_region AW_drawn AW_drawnC AW_drawnN AW_cond AW_block AW_loop AW_exit AW_ret thn_normal thn_exit thn_ret blk_normal blk_exit blk_ret AR_nil AR_cons AT_eq AX_eq ork_some ork_none_ef KP_eq KT_eq put_some put_none gd_tt gd_ff gd_tf gd_ft gd_tup cnd_t cnd_f retQ_normal retQ_ret init_eq ev_tmp ev_const ev_global ev_func upd_eq AW_rf bmid_eq rnd_normal rnd_ret rnd_exit pv ef_box ef_alloc ef_store ef_make ef_bslice ef_append ef_conv ef_eql KV_eq KR_eq resD one' imp imps impB kp_nil pos_nil nof_eq kp_eq HLe_nil HLe EnvLe look_cons look_nil BLe refs refss flat flats frz St.frz mx Option.isSome_some Option.isSome_none cl cls ofVal ofVals asAgg_agg cellsOf part rd ldd cur ork_grd grd_true bits_u64 bits_u32 bits_u8 bits_i64 bits_i32 min_pos fdiv_lit shr_lit wrap_i64 wrap_i32 wrap_u64 wrap_u32 wrap_u8 bin un lenD bds cutD conv mm one_int one_bool one_str one_nilp one_nils one_nilm one_nilf one_ro one_ra one_ad one_fn one_vs one_gl one_agg one_tup one_unk one_sl one_el chk wr lookB up srcOf fits over nbad isU8 u8Of List.getD_cons_zero List.getD_cons_succ List.getD_nil List.map_cons List.map_nil List.all_cons List.all_nil List.cons_append List.nil_append List.append_nil List.length_cons List.length_nil List.take_succ_cons List.take_zero List.take_nil List.drop_succ_cons List.drop_zero List.drop_nil List.getElem?_cons_zero List.getElem?_cons_succ List.getElem?_nil List.head?_cons List.getElem?_toArray Option.bind_some Option.bind_none Option.map_some Option.map_none Bool.and_true Bool.true_and Bool.false_and Bool.and_false Bool.or_true Bool.true_or Bool.false_or Bool.or_false Bool.not_true Bool.not_false beq_self_eq_true and_true true_and and_false false_and ne_eq not_true_eq_false not_false_eq_true if_true if_false Bool.false_eq_true Nat.add_eq_zero_iff Nat.zero_add Nat.add_zero Nat.one_ne_zero Nat.zero_ne_one List.range_succ List.range_zero decide_true decide_false decide_eq_true_eq decide_eq_false_iff_not Nat.sub_zero Int.toNat_zero Nat.zero_le Int.toNat_natCast Int.cast_ofNat_Int noFz Onw Frs kn elt slen eqOr eqD eqL Nat.max_eq_left Nat.max_eq_right givOk List.contains_nil List.contains_cons aft mrg ex exD exDs exB impH pos fsOf refB List.flatMap_cons List.flatMap_nil List.length_singleton List.isEmpty_cons List.isEmpty_nil LeV_self Le_self LesV_self lim_tt lim_gv ite_someD Nat.mul_one List.length_map List.length_append
attribute [go_sem] tt_0 tt_1 tt_2 tt_3 tt_4 tt_5 tt_6 tt_7 tt_8 tt_9 tt_10 tt_11 tt_12 tt_13 tt_14 tt_15 tt_16 tt_17 tt_18 tt_19 tt_20 tt_21 tt_22 tt_23 tt_24 tt_25 tt_26 tt_27 tt_28 tt_29 tt_30 tt_31 tt_32 tt_33 tt_34 tt_35 tt_36 tt_37 tt_38 tt_39 tt_40 tt_41 tt_42 tt_43 tt_44 tt_45 tt_46 tt_47 tt_48 tt_49 tt_50 tt_51 tt_52 tt_53 tt_54 tt_55 tt_56 tt_57 tt_58 tt_59 tt_60 tt_61 tt_62 tt_63 tt_64 tt_65 tt_66 tt_67 tt_68 tt_69 tt_70 tt_71 tt_72 tt_73 tt_74 tt_75 tt_76 tt_77 tt_78 tt_79 tt_80 tt_81 tt_82 tt_83 tt_84 tt_85 tt_86 tt_87 tt_88 tt_89 tt_90 tt_91 tt_92 tt_93 tt_94 tt_95 tt_96 tt_97 tt_98 tt_99 tt_100 tt_101 tt_102 tt_103 tt_104 tt_105 tt_106 tt_107 tt_108 tt_109 tt_110 tt_111 tt_112 tt_113 tt_114 tt_115 tt_116 tt_117 tt_118 tt_119 tt_120 tt_121 tt_122 tt_123 tt_124 tt_125 tt_126 tt_127 tt_128 tt_129 tt_130 tt_131 tt_132 tt_133 tt_134 tt_135 tt_136 tt_137 tt_138 tt_139 tt_140 tt_141 tt_142 tt_143 tt_144 tt_145 tt_146 tt_147 tt_148 tt_149 tt_150 tt_151 tt_152 tt_153 tt_154 tt_155 tt_156 tt_157 tt_158 tt_159 tt_160 tt_161 tt_162 tt_163 tt_164 tt_165 tt_166 tt_167 tt_168 tt_169 tt_170 tt_171 tt_172 tt_173 tt_174 tt_175 tt_176 tt_177 tt_178 tt_179 tt_180 tt_181 tt_182 tt_183 tt_184 tt_185 tt_186 tt_187 tt_188 tt_189 tt_190 tt_191 tt_192 tt_193 tt_194 tt_195 tt_196 tt_197 tt_198 tt_199 tt_200 tt_201 tt_202 tt_203 tt_204 tt_205 tt_206 tt_207 tt_208 tt_209 tt_210 tt_211 tt_212 tt_213 tt_214 tt_215 tt_216 tt_217 tt_218 tt_219 tt_220 tt_221 tt_222 tt_223 tt_224 tt_225 tt_226 tt_227 tt_228 tt_229 tt_230 tt_231 tt_232 tt_233 tt_234 tt_235 tt_236 tt_237 tt_238 tt_239 tt_240 tt_241 tt_242 tt_243 tt_244 tt_245 tt_246 tt_247 tt_248 tt_249 tt_250 tt_251 tt_252 tt_253 tt_254 tt_255 tt_256 tt_257 tt_258 
end Go.Proofs.YtmcinfbckdiaoaaGreatDoor.Lv

set_option linter.unusedVariables false
set_option linter.unusedSimpArgs false
set_option maxRecDepth 100000
set_option maxHeartbeats 4000000
namespace Go.Proofs.YtmcinfbckdiaoaaGreatDoor.Lv
open Go Go.RowKit

/-- A row of bytes. -/
def bR (l : List UInt8) : Nat → D := fun i => .int .u8 ((l.getD i 0).toNat : Int)
theorem bR_app (l xs : List UInt8) {i : Nat} (h : i < (l ++ xs).length) : (if i < l.length then bR l i else (xs.map fun c => D.int .u8 (c.toNat : Int)).getD (i - l.length) .unk) = bR (l ++ xs) i := by
  unfold bR
  by_cases hi : i < l.length
  · rw [if_pos hi]
    congr 2
    rw [List.getD_eq_getElem?_getD, List.getD_eq_getElem?_getD, List.getElem?_append_left hi]
  · rw [if_neg hi]
    rw [List.length_append] at h
    rw [List.getD_eq_getElem?_getD, List.getD_eq_getElem?_getD, List.getElem?_append_right (by omega), List.getElem?_map, List.getElem?_eq_getElem (by omega)]
    rfl
/-- A row of bytes, told as a string. -/
theorem bstr_bR {h : Hp} {b ver n : Nat} {z z' : Bool} {k m : Nat} {l : List UInt8} (e : lookB h b = some (.row z ver z' k m (bR l))) (hn : n = l.length) : bstr h (.sl b ver 0 n) = some (.str l) := by
  subst hn
  simp only [bstr, e, if_true, Nat.zero_add]
  have : ∀ i, i < l.length → isU8 (bR l i) = true := fun i _ => rfl
  rw [grd, if_pos this]
  congr 2
  refine List.ext_getElem (by simp) fun i h1 h2 => ?_
  simp only [List.getElem_map, List.getElem_range, bR, u8Of, List.getD_eq_getElem?_getD, List.getElem?_eq_getElem h2, Option.getD_some, Int.toNat_natCast, UInt8.ofNat_toNat]
/-- So it is where only what is read is told. -/
theorem bstr_of {h : Hp} {b ver n : Nat} {z z' : Bool} {k m : Nat} {f : Nat → D} {l : List UInt8} (e : lookB h b = some (.row z ver z' k m f)) (hn : n = l.length) (hf : ∀ i, i < n → f i = bR l i) : bstr h (.sl b ver 0 n) = some (.str l) := by
  subst hn
  simp only [bstr, e, if_true, Nat.zero_add]
  have : ∀ i, i < l.length → isU8 (f i) = true := fun i hi => by rw [hf i hi]; rfl
  rw [grd, if_pos this]
  congr 2
  refine List.ext_getElem (by simp) fun i h1 h2 => ?_
  simp only [List.getElem_map, List.getElem_range, hf i h2, bR, u8Of, List.getD_eq_getElem?_getD, List.getElem?_eq_getElem h2, Option.getD_some, Int.toNat_natCast, UInt8.ofNat_toNat]
theorem bits_or (a b : Nat) (ha : a < 18446744073709551616) (hb : b < 18446744073709551616) : bits .u64 .or (a : Int) (b : Int) = ((a ||| b : Nat) : Int) := by
  have e : ∀ v : Nat, v < 18446744073709551616 → (BitVec.ofInt IntKind.u64.bits (v : Int)).toNat = v := fun v hv => by
    show (BitVec.ofInt 64 (v : Int)).toNat = v
    simp; omega
  have hlt : a ||| b < 18446744073709551616 := Nat.or_lt_two_pow (n := 64) ha hb
  unfold bits
  simp only [BitVec.toNat_or, e a ha, e b hb]
  rw [wrap_u64 (by omega)]
theorem or_add (i a b : Nat) (h : b < 2 ^ i) : b ||| 2 ^ i * a = b + 2 ^ i * a := by
  rw [Nat.or_comm, ← Nat.two_pow_add_eq_or_of_lt h, Nat.add_comm]
theorem bits_and (a b : Nat) (ha : a < 18446744073709551616) (hb : b < 18446744073709551616) : bits .u64 .and (a : Int) (b : Int) = ((a &&& b : Nat) : Int) := by
  have e : ∀ v : Nat, v < 18446744073709551616 → (BitVec.ofInt IntKind.u64.bits (v : Int)).toNat = v := fun v hv => by
    show (BitVec.ofInt 64 (v : Int)).toNat = v
    simp; omega
  have hlt : a &&& b < 18446744073709551616 := Nat.and_lt_two_pow (n := 64) _ hb
  unfold bits
  simp only [BitVec.toNat_and, e a ha, e b hb]
  rw [wrap_u64 (by omega)]
theorem bits_and127 (a : Nat) (ha : a < 18446744073709551616) : bits .u64 .and (a : Int) 127 = ((a % 128 : Nat) : Int) := by
  have := bits_and a 127 ha (by omega)
  rw [show (127 : Nat) = 2 ^ 7 - 1 from rfl, Nat.and_two_pow_sub_one_eq_mod] at this
  exact this
theorem u8_lit {n : Nat} (h : n < 256) : ((n : Nat) : Int) = ((UInt8.ofNat n).toNat : Int) := by
  rw [UInt8.toNat_ofNat', Nat.mod_eq_of_lt (by omega)]
end Go.Proofs.YtmcinfbckdiaoaaGreatDoor.Lv

set_option linter.unusedVariables false
set_option linter.unusedSimpArgs false
namespace Go.Proofs.YtmcinfbckdiaoaaGreatDoor.Lv
open Go Go.RowKit
theorem CG.freeze {E : Ctx} {f : FuncId} {args : List D} {d d' : D} {h' : Hp} (hC : CG E f args [] d h') (hd : imp nof h' d = d') : C E f args d' := by
  refine ⟨hC.1, fun S w vs φ hS hG hA hB hv => ?_⟩
  refine (hC.2 S w vs φ hS hG hA hB hv).mono fun e w' hq => ?_
  obtain ⟨v, S', φ', rfl, r1, r2, r3, r4, r5, r6, r7, r8⟩ := hq
  have hi := imp_rep (h2 := []) (φ2 := φ') (ρ := nof) (fs := refs nof d) r2 (fun b i hb => by cases hb) d v r1 (fun b hb => hb)
  rw [hd] at hi
  refine ⟨v, _, φ', rfl, hi, ⟨fun b x hl => (by cases hl), fun b b' x x' c t t' hl => (by cases hl)⟩, fun b => ⟨fun ag sz d hl => (by cases hl), fun fz ver ag sz m g hl => (by cases hl)⟩, fun c hc => ?_, r5, fun b hb => .inl (r6 b hb), fun c hc => ?_, fun c hc hlt => ?_⟩
  · obtain ⟨b, x, t, hl, _⟩ := hc; cases hl
  · rcases hc with hc | ⟨b, _, fz, ver, ag, sz, n, g, t, hl, hp⟩
    · exact r7 c hc
    · exact (r4 c ⟨b, _, t, hl, hp⟩).1
  · rcases hc with hc | ⟨b, _, fz, ver, ag, sz, n, g, t, hl, hp⟩
    · exact r8 c hc hlt
    · rcases (r4 c ⟨b, _, t, hl, hp⟩).2 with h | h
      · omega
      · exact .inr h
/-- A contract of a walk of the kit's: it takes no blocks, and what it makes leads nowhere. -/
theorem C.of_walk {E : Ctx} {f : FuncId} {args : List D} {d : D} (hf : fnOk E.P f = true) (h : ∀ S w vs, (∀ b, S b → b < w.heap.size) → RepVs [] (fun _ => none) S w args vs → Calls E.P f ⟨vs⟩ w fun e w' => ∃ v, e = .returned v ∧ (∀ S w, Rep0 S w d v) ∧ Below w.heap.size w w')
    (hφ : ∀ φ S w vs, RepVs [] φ S w args vs → RepVs [] (fun _ => none) S w args vs) : C E f args d := by
  refine ⟨hf, fun S w vs φ hS _ _ _ hv => (h S w vs hS (hφ _ _ _ _ hv)).mono ?_⟩
  rintro e w' ⟨v, he, hr, hb⟩
  exact ⟨v, S, φ, he, Rep0.toV _ _ (hr S w'), ⟨fun b x h => by simp [lookB] at h, fun b b' x x' c t t' h => by simp [lookB] at h⟩, HpExt.refl _ _, fun c ⟨b, x, t, h, _⟩ => by simp [lookB] at h,
    ⟨hb.os, hb.tape, hb.output, hb.size, fun k hk _ => hb.block k hk⟩, fun _ h => h, fun b h => Nat.lt_of_lt_of_le (hS b h) hb.size, fun b h _ => .inl h⟩
end Go.Proofs.YtmcinfbckdiaoaaGreatDoor.Lv

set_option linter.unusedVariables false
set_option linter.unusedSimpArgs false
namespace Go.Proofs.YtmcinfbckdiaoaaGreatDoor.Lv
open Go Go.RowKit
def isVarB (h : Hp) (b : Nat) : Bool := match lookB h b with
  | some (.var _ _ _) => true
  | _ => false
theorem isVarB_spec {h : Hp} {b : Nat} (e : isVarB h b = true) : ∃ ag sz d, lookB h b = some (.var ag sz d) := by
  unfold isVarB at e
  split at e
  · rename_i ag sz d hl; exact ⟨ag, sz, d, hl⟩
  · cases e
/-- Does it look at variables alone? -/
def stab (E : Ctx) (s : St) (x : Oper) : Bool := x.guard.isNone && x.op.operands.toList.all fun z => (blks (ev E s z)).all fun b => isVarB s.h b
def tame (E : Ctx) (y : Op) : Bool := match kd E y with
  | .pure | .call | .new | .app => true
  | _ => false
section
variable {E : Ctx} {B : Base} {s : St} {ops : Array Oper}
theorem tame_var {k : Kd} (hk : (match k with | .pure | .call | .new | .app => true | _ => false) = true) {h h' : Hp} {nx : Nat} (hh : HRel k h nx h') {b : Nat} (hb : b < nx) {ag : Bool} {sz : Nat} {d : D} (hl : lookB h b = some (.var ag sz d)) : lookB h' b = some (.var ag sz d) := by
  cases k <;> simp only [HRel] at hh <;> try cases hk
  case pure => rw [hh]; exact hl
  case call =>
    rcases (hh b hb).cases with ⟨h1, _⟩ | ⟨ag', sz', d', h1, h2⟩ | ⟨fz, fz', ver, ag', sz', n, n', f, h1, h2⟩
    · rw [h1] at hl; cases hl
    · rw [h1] at hl; cases hl; exact h2
    · rw [h1] at hl; cases hl
  case new => rw [← hh b (by omega)]; exact hl
  case app => exact hh b ag sz d (by omega) hl
theorem stab_spec {x : Oper} (h : stab E s x = true) : x.guard = none ∧ ∀ z ∈ x.op.operands, ∀ b ∈ blks (ev E s z), ∃ ag sz d, lookB s.h b = some (.var ag sz d) := by
  unfold stab at h
  simp only [Bool.and_eq_true, Option.isNone_iff_eq_none] at h
  exact ⟨h.1, fun z hz b hb => isVarB_spec (List.all_eq_true.1 (List.all_eq_true.1 h.2 z (Array.mem_toList_iff.2 hz)) b hb)⟩
theorem stab_stays {x : Oper} {y : Op} (hy : tame E y = true) (hs : stab E s x = true) (hB : BOK E B) (hL : Live B s) {h : Hp} (hh : HRel (kd E y) s.h s.nx h) {e' : Nat → D} {nx : Nat}
    (ha : ∀ z ∈ x.op.operands, ev E s z = ev E ⟨e', h, nx⟩ z) : pv E ⟨e', h, nx⟩ x.op = pv E s x.op ∧ stab E ⟨e', h, nx⟩ x = true := by
  obtain ⟨hg, hv⟩ := stab_spec hs
  have hvar : ∀ z ∈ x.op.operands, ∀ b ∈ blks (ev E s z), ∃ ag sz d, lookB s.h b = some (.var ag sz d) ∧ lookB h b = some (.var ag sz d) := fun z hz b hb => by
    obtain ⟨ag, sz, d, hl⟩ := hv z hz b hb
    exact ⟨ag, sz, d, hl, tame_var hy hh (ev_blks hB hL z b hb) hl⟩
  refine ⟨(pv_congr ha fun z hz b hb => ?_).symm, ?_⟩
  · obtain ⟨ag, sz, d, h1, h2⟩ := hvar z hz b hb
    exact Same.of_eq (h1.trans h2.symm)
  · unfold stab
    simp only [Bool.and_eq_true, Option.isNone_iff_eq_none]
    refine ⟨hg, List.all_eq_true.2 fun z hz => List.all_eq_true.2 fun b hb => ?_⟩
    rw [Array.mem_toList_iff] at hz
    rw [← ha z hz] at hb
    obtain ⟨ag, sz, d, h1, h2⟩ := hvar z hz b hb
    simp only [isVarB, h2]
theorem pvG_none {x : Oper} (h : x.guard = none) (s : St) : pvG E ops x s = pv E s x.op := by unfold pvG; rw [h]
/-- What looks at variables alone is ahead of y: y may come ahead of it, and it still does. -/
theorem commS {x y : Oper} (hap : x.apart ops y = true) (hp : isP E x.op = true) (hy : tame E y.op = true) (hst : stab E s x = true) (hB : BOK E B) (hL : Live B s) {K : St → Prop} (h : AT E ops x (AT E ops y K) s) : AT E ops y (fun s' => stab E s' x = true ∧ AT E ops x K s') s := by
  obtain ⟨a1, a2, a3⟩ := Oper.apart_spec hap
  have hgn := (stab_spec hst).1
  obtain ⟨dx, hpx, hyy⟩ := (AT_pure hp _).1 h
  have hs : ∀ (h1 : Hp) (nx : Nat) (dy : D), HRel (kd E y.op) s.h s.nx h1 → pvG E ops x ((⟨s.e, h1, nx⟩ : St).put y.dst dy) = some dx ∧ stab E ((⟨s.e, h1, nx⟩ : St).put y.dst dy) x = true := fun h1 nx dy hh => by
    rw [← hpx, pvG_none hgn, pvG_none hgn]
    have : ((⟨s.e, h1, nx⟩ : St).put y.dst dy) = ⟨((⟨s.e, h1, nx⟩ : St).put y.dst dy).e, h1, nx⟩ := by cases y.dst <;> rfl
    rw [this]
    have ag := agreeT_put (E := E) (o := x) (ops := ops) (dst := y.dst) a3 dy (h := s.h) (h' := h1) (nx := s.nx) (nx' := nx) (e := s.e)
    exact stab_stays hy hst hB hL hh fun z hz => by
      have := ag.1 z hz
      cases z <;> exact this
  have hb : (s.put x.dst dx).h = s.h ∧ (s.put x.dst dx).nx = s.nx := ⟨St.put_h .., St.put_nx ..⟩
  have ag : AgreeT E ops y (s.put x.dst dx) s.e := by
    have := agreeT_put (E := E) (o := y) (ops := ops) (dst := x.dst) a1 dx (h := s.h) (h' := s.h) (nx := s.nx) (nx' := s.nx) (e := s.e)
    refine ⟨fun z hz => ?_, fun g want t hg ht => (this.2 g want t hg ht).symm⟩
    have := this.1 z hz
    cases z <;> exact this.symm
  rcases AT_det hyy with ⟨dy, h1, nx, h2, h3, h4⟩ | ⟨p, h1, h2, h3⟩
  · rw [hb.1, hb.2] at h2
    have := h4 s.e (fun s' => stab E s' x = true ∧ AT E ops x K s') ag ⟨(hs h1 nx dy h2).2, (AT_pure hp _).2 ⟨dx, (hs h1 nx dy h2).1, by
      rw [← put_swap (h' := s.h) (nx' := s.nx) (hne := a2)]
      exact h3⟩⟩
    rw [hb.1, hb.2] at this
    exact this
  · have := h3 s.e (fun s' => stab E s' x = true ∧ AT E ops x K s') ag fun b hbp => ⟨by
        rw [hb.1, hb.2]; exact (hs s.h s.nx (.bool b) (HRel.refl _ _ _)).2, (AT_pure hp _).2 ⟨dx, by
      rw [hb.1, hb.2]
      exact (hs s.h s.nx (.bool b) (HRel.refl _ _ _)).1, by
      rw [hb.1, hb.2]
      rw [← put_swap (h' := s.h) (nx' := s.nx) (hne := a2)]
      have := h2 b hbp
      rw [show (s.put x.dst dx) = ⟨(s.put x.dst dx).e, s.h, s.nx⟩ by cases x.dst <;> rfl] at this
      exact this⟩⟩
    rw [hb.1, hb.2] at this
    exact this
def freeS (E : Ctx) (ops : Array Oper) (ms : Array Nat) (U : List Nat) (i : Nat) : Bool := match ops[i]? with
  | none => false
  | some oi => isP E oi.op && U.all fun j => j == i || (ms.getD j 0).testBit i || match ops[j]? with
    | some oj => oi.apart ops oj && tame E oj.op
    | none => true
theorem AAny_takeS (hB : BOK E B) (hd : ops.all (dstOk B.N) = true) {ms : Array Nat} (hm : maskOk ops ms = true) {i : Nat} {oi : Oper} (hoi : ops[i]? = some oi) {K : St → Prop} : ∀ (n : Nat) (U : List Nat) (s : St),
    i ∈ readyA ops U → freeS E ops ms U i = true → stab E s oi = true → (∀ j k, j ∉ U → (ms.getD j 0).testBit k = true → k ∉ U) → Live B s → AI E ops i (AAny E ops n (without U i) K) s → AAny E ops (n + 1) U K s
  | 0, U, s, hi, hf, hst, hdn, hL, h => by
    refine ⟨fun e => (by rw [e] at hi; cases hi), fun j hj => ?_⟩
    by_cases hji : j = i
    · subst hji; exact h
    · rw [AI_some hoi] at h
      obtain ⟨s', _, h1, _⟩ := AT_live hB hL (dst_of hd hoi) h
      have := mem_without.2 ⟨(mem_readyA.1 hj).1, hji⟩
      rw [h1] at this
      cases this
  | n + 1, U, s, hi, hf, hst, hdn, hL, h => by
    refine ⟨fun e => (by rw [e] at hi; cases hi), fun j hj => ?_⟩
    by_cases hji : j = i
    · subst hji; exact h
    · obtain ⟨hiU, oi', hoi', _⟩ := mem_readyA.1 hi
      obtain ⟨hjU, oj, hoj, _⟩ := mem_readyA.1 hj
      have h1 : AI E ops i (AI E ops j (AAny E ops n (without (without U i) j) K)) s :=
        AI_mono hB hd hL (fun s' _ hx => hx.2 j (readyA_mono hj hji)) h
      have hok : isP E oi.op = true ∧ oi.apart ops oj = true ∧ tame E oj.op = true := by
        have := hf
        unfold freeS at this
        rw [hoi] at this
        simp only [Bool.and_eq_true] at this
        refine ⟨this.1, ?_⟩
        have := List.all_eq_true.1 this.2 j hjU
        rw [hoj] at this
        simp only [Bool.or_eq_true, beq_iff_eq, Bool.and_eq_true] at this
        rcases this with (h2 | h2) | h2
        · exact (hji h2).elim
        · exact (mask_down hm hdn hj h2 hiU).elim
        · exact h2
      have h2 : AI E ops j (fun s' => stab E s' oi = true ∧ AI E ops i (AAny E ops n (without (without U i) j) K) s') s := by
        rw [AI_some hoi] at h1
        rw [AI_some hoj]
        have e1 : ∀ s', AI E ops j (AAny E ops n (without (without U i) j) K) s' = AT E ops oj (AAny E ops n (without (without U i) j) K) s' := fun s' => AI_some hoj _ _
        have e2 : (AI E ops i (AAny E ops n (without (without U i) j) K)) = AT E ops oi (AAny E ops n (without (without U i) j) K) := funext fun s' => AI_some hoi _ _
        rw [show (AI E ops j (AAny E ops n (without (without U i) j) K)) = AT E ops oj (AAny E ops n (without (without U i) j) K) from funext e1] at h1
        rw [e2]
        exact commS hok.2.1 hok.1 hok.2.2 hst hB hL h1
      refine AI_mono hB hd hL (fun s' hL' hx => ?_) h2
      obtain ⟨hst', hx⟩ := hx
      rw [without_comm] at hx
      refine AAny_takeS hB hd hm hoi n (without U j) s' (readyA_mono hi (Ne.symm hji)) ?_ hst' (fun j' k hj' hk hkU => ?_) hL' hx
      · unfold freeS at hf ⊢
        rw [hoi] at hf ⊢
        simp only [Bool.and_eq_true] at hf ⊢
        refine ⟨hf.1, ?_⟩
        have hf := hf.2
        rw [List.all_eq_true] at hf ⊢
        exact fun x hx => hf x (mem_without.1 hx).1
      · have hkU' := (mem_without.1 hkU).1
        by_cases hjj : j' = j
        · subst hjj; exact mask_down hm hdn hj hk hkU'
        · exact hdn j' k (fun hm => hj' (mem_without.2 ⟨hm, hjj⟩)) hk hkU'
end
/-- A region's orders, those that do not matter left out: an operation that no other one minds is taken first. -/
def AAnyS (E : Ctx) (ops : Array Oper) (ms : Array Nat) : Nat → List Nat → (St → Prop) → St → Prop
  | 0, U, K, s => U = [] ∧ K s
  | n + 1, U, K, s => (readyA ops U ≠ [] ∧ ∀ i ∈ readyA ops U, AI E ops i (AAnyS E ops ms n (without U i) K) s) ∨
      ∃ i oi, ops[i]? = some oi ∧ i ∈ readyA ops U ∧ (freeOk E ops ms U i = true ∨ freeS E ops ms U i = true ∧ stab E s oi = true) ∧ AI E ops i (AAnyS E ops ms n (without U i) K) s
theorem AAnyS_sound {E : Ctx} {B : Base} {ops : Array Oper} (hB : BOK E B) (hd : ops.all (dstOk B.N) = true) {ms : Array Nat} (hm : maskOk ops ms = true) {K : St → Prop} : ∀ (n : Nat) (U : List Nat) (s : St),
    (∀ j k, j ∉ U → (ms.getD j 0).testBit k = true → k ∉ U) → Live B s → AAnyS E ops ms n U K s → AAny E ops n U K s
  | 0, U, s, _, _, h => h
  | n + 1, U, s, hdn, hL, h => by
    have hdn' : ∀ i ∈ readyA ops U, ∀ j k, j ∉ without U i → (ms.getD j 0).testBit k = true → k ∉ without U i := fun i hi j k hj hk hkU => by
      have hkU' := (mem_without.1 hkU).1
      by_cases hjj : j = i
      · subst hjj; exact mask_down hm hdn hi hk hkU'
      · exact hdn j k (fun hm => hj (mem_without.2 ⟨hm, hjj⟩)) hk hkU'
    rcases h with ⟨h0, h⟩ | ⟨i, oi, ho, hi, hf, h⟩
    · exact ⟨fun e => (h0 e).elim, fun i hi => AI_mono hB hd hL (fun s' hL' hx => AAnyS_sound hB hd hm n _ s' (hdn' i hi) hL' hx) (h i hi)⟩
    · have h' := AI_mono hB hd hL (fun s' hL' hx => AAnyS_sound hB hd hm n _ s' (hdn' i hi) hL' hx) h
      rcases hf with hf | ⟨hf, hst⟩
      · exact AAny_take hB hd hm n U s hi hf hdn hL h'
      · exact AAny_takeS hB hd hm ho n U s hi hf hst hdn hL h'
theorem AReg_any (n : Nat) (U : List Nat) {E : Ctx} {ops : Array Oper} {K : St → Prop} {s : St} (hn : ops.size = n) (hU : List.range n = U) (hm : maskOk ops (masks ops) = true) (h : AAnyS E ops (masks ops) n U K s) : AReg E ops true K s := by
  unfold AReg
  rw [if_pos rfl]
  intro B hB hd hb hL
  rw [hn, hU]
  refine AAnyS_sound hB hd hm n U s (fun j k hj hk hkU => ?_) hL h
  subst hU hn
  rw [List.mem_range] at hj
  rw [Array.getD_eq_getD_getElem?, Array.getElem?_eq_none (Nat.le_trans (masks_size ops) (by omega))] at hk
  simp at hk
/-- The same: calls are given no blocks. -/
theorem AReg_anyL (n : Nat) (U : List Nat) {E : Ctx} {ops : Array Oper} {K : St → Prop} {s : St} (hn : ops.size = n) (hU : List.range n = U) (hm : maskOk ops (masks ops) = true) (h : AAnyS (E.lim noG) ops (masks ops) n U K s) : AReg E ops true K s := by
  unfold AReg
  rw [if_pos rfl]
  intro B hB hd hb hL
  rw [hn, hU]
  refine shut_AAny (gs := noG) (fun g hg => by cases hg) hB hd n U s hL (AAnyS_sound (E := E.lim noG) hB hd hm n U s (fun j k hj hk hkU => ?_) hL h)
  subst hU hn
  rw [List.mem_range] at hj
  rw [Array.getD_eq_getD_getElem?, Array.getElem?_eq_none (Nat.le_trans (masks_size ops) (by omega))] at hk
  simp at hk
theorem AAny_step (R : List (Nat × List Nat)) {E : Ctx} {ops : Array Oper} {ms : Array Nat} {n : Nat} {U : List Nat} {K : St → Prop} {s : St} (h : ((readyA ops U).map fun i => (i, without U i)) = R) (hne : R.isEmpty = false) (hs : ∀ p, p ∈ R → AI E ops p.1 (AAnyS E ops ms n p.2 K) s) : AAnyS E ops ms (n + 1) U K s := by
  refine .inl ⟨fun e => ?_, fun i hi => ?_⟩
  · rw [e] at h; subst h; simp at hne
  · exact hs (i, without U i) (by rw [← h]; exact List.mem_map_of_mem hi)
theorem AAny_free (i : Nat) (V : List Nat) {E : Ctx} {ops : Array Oper} {ms : Array Nat} {n : Nat} {U : List Nat} {K : St → Prop} {s : St} (h : ((readyA ops U).contains i && freeOk E ops ms U i && decide (without U i = V)) = true) {oi : Oper} (ho : ops[i]? = some oi) (hs : AI E ops i (AAnyS E ops ms n V K) s) : AAnyS E ops ms (n + 1) U K s := by
  simp only [Bool.and_eq_true, decide_eq_true_eq] at h
  obtain ⟨⟨h1, h2⟩, rfl⟩ := h
  exact .inr ⟨i, oi, ho, by simpa using h1, .inl h2, hs⟩
theorem AAny_stab (i : Nat) (V : List Nat) {E : Ctx} {ops : Array Oper} {ms : Array Nat} {n : Nat} {U : List Nat} {K : St → Prop} {s : St} (h : ((readyA ops U).contains i && freeS E ops ms U i && decide (without U i = V)) = true) {oi : Oper} (ho : ops[i]? = some oi) (hst : stab E s oi = true) (hs : AI E ops i (AAnyS E ops ms n V K) s) : AAnyS E ops ms (n + 1) U K s := by
  simp only [Bool.and_eq_true, decide_eq_true_eq] at h
  obtain ⟨⟨h1, h2⟩, rfl⟩ := h
  exact .inr ⟨i, oi, ho, by simpa using h1, .inr ⟨h2, hst⟩, hs⟩
theorem AAny_end {E : Ctx} {ops : Array Oper} {ms : Array Nat} {K : St → Prop} {s : St} (h : K s) : AAnyS E ops ms 0 [] K s := ⟨rfl, h⟩
theorem forall_one {α : Type} {P : α → Prop} {a : α} (h : P a) : ∀ p, p ∈ [a] → P p := fun p hp => by
  rw [List.mem_singleton] at hp; rw [hp]; exact h
theorem forall_more {α : Type} {P : α → Prop} {a b : α} {r : List α} (h : P a) (h' : ∀ p, p ∈ b :: r → P p) : ∀ p, p ∈ a :: b :: r → P p := fun p hp => by
  rcases List.mem_cons.1 hp with e | hp
  · rw [e]; exact h
  · exact h' p hp
/-- The operation at a place. -/
theorem AI_at {E : Ctx} {ops : Array Oper} {i : Nat} {K : St → Prop} {s : St} (o : Oper) (ho : ops[i]? = some o) (h : AT E ops o K s) : AI E ops i K s := by unfold AI; rw [ho]; exact h
/-- What follows a region, told once for all its orders. -/
theorem AReg_tail (L : List (Nat × D)) (H : Hp) (nx : Nat) {E : Ctx} {ops : Array Oper} {K : St → Prop} {s : St} (h : (∀ e', EnvEq e' L → K ⟨e', H, nx⟩) → AReg E ops true K s) (tail : ∀ e', EnvEq e' L → K ⟨e', H, nx⟩) : AReg E ops true K s := h tail
end Go.Proofs.YtmcinfbckdiaoaaGreatDoor.Lv
