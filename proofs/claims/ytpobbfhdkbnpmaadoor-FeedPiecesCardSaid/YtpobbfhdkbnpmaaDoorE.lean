/- The program's types. -/
import Derived.Test.YtpobbfhdkbnpmaaDoorLc
set_option linter.unusedVariables false
set_option maxRecDepth 100000
namespace Go.Proofs.YtpobbfhdkbnpmaaDoor.Lv
open Go Go.RowKit
abbrev W32 := BitVec 32
/-- A word. -/
def wD (x : W32) : D := .int .u32 (x.toNat : Int)
/-- The standard's constants. -/
def K256 : List W32 := [1116352408#32, 1899447441#32, 3049323471#32, 3921009573#32, 961987163#32, 1508970993#32, 2453635748#32, 2870763221#32, 3624381080#32, 310598401#32, 607225278#32, 1426881987#32, 1925078388#32, 2162078206#32, 2614888103#32, 3248222580#32, 3835390401#32, 4022224774#32, 264347078#32, 604807628#32, 770255983#32, 1249150122#32, 1555081692#32, 1996064986#32, 2554220882#32, 2821834349#32, 2952996808#32, 3210313671#32, 3336571891#32, 3584528711#32, 113926993#32, 338241895#32, 666307205#32, 773529912#32, 1294757372#32, 1396182291#32, 1695183700#32, 1986661051#32, 2177026350#32, 2456956037#32, 2730485921#32, 2820302411#32, 3259730800#32, 3345764771#32, 3516065817#32, 3600352804#32, 4094571909#32, 275423344#32, 430227734#32, 506948616#32, 659060556#32, 883997877#32, 958139571#32, 1322822218#32, 1537002063#32, 1747873779#32, 1955562222#32, 2024104815#32, 2227730452#32, 2361852424#32, 2428436474#32, 2756734187#32, 3204031479#32, 3329325298#32]
def roundsD : D := .agg (K256.map wD)
def gv0 : Nat → D := fun g => if g = 0 then .ra true 64 roundsD 0 else .gl g
noncomputable def E : Ctx := ⟨Tryd.prog, fun t => tiOf Tryd.prog t, gv0, fun _ => rfl, by kernel_rfl, fun _ => true⟩
theorem E_P : E.P = Tryd.prog := rfl
theorem tt_0 : E.tt 0 = ⟨false, 1, 0, .oth, true, .unk, false⟩ := by kernel_rfl
theorem tt_1 : E.tt 1 = ⟨false, 1, 8, .fn, true, .nilf, false⟩ := by kernel_rfl
theorem tt_2 : E.tt 2 = ⟨false, 1, 8, .int .i64, true, .int .i64 0, false⟩ := by kernel_rfl
theorem tt_3 : E.tt 3 = ⟨false, 1, 8, .int .i64, true, .int .i64 0, false⟩ := by kernel_rfl
theorem tt_4 : E.tt 4 = ⟨false, 1, 1, .bool, true, .bool false, false⟩ := by kernel_rfl
theorem tt_5 : E.tt 5 = ⟨false, 1, 1, .int .u8, true, .int .u8 0, false⟩ := by kernel_rfl
theorem tt_6 : E.tt 6 = ⟨false, 1, 1, .int .u8, true, .int .u8 0, false⟩ := by kernel_rfl
theorem tt_7 : E.tt 7 = ⟨true, 4, 24, .strct [(0, 2), (1, 3), (2, 4), (3, 6)], true, .agg [.int .i64 0, .int .i64 0, .bool false, .int .u8 0], true⟩ := by kernel_rfl
theorem tt_8 : E.tt 8 = ⟨true, 4, 24, .strct [(0, 2), (1, 3), (2, 4), (3, 6)], true, .agg [.int .i64 0, .int .i64 0, .bool false, .int .u8 0], true⟩ := by kernel_rfl
theorem tt_9 : E.tt 9 = ⟨false, 1, 16, .string, true, .str [], false⟩ := by kernel_rfl
theorem tt_10 : E.tt 10 = ⟨false, 1, 16, .string, true, .str [], false⟩ := by kernel_rfl
theorem tt_11 : E.tt 11 = ⟨false, 1, 16, .string, true, .str [], false⟩ := by kernel_rfl
theorem tt_12 : E.tt 12 = ⟨false, 1, 8, .int .u64, true, .int .u64 0, false⟩ := by kernel_rfl
theorem tt_13 : E.tt 13 = ⟨true, 2, 24, .strct [(0, 9), (1, 12)], true, .agg [.str [], .int .u64 0], false⟩ := by kernel_rfl
theorem tt_14 : E.tt 14 = ⟨true, 2, 24, .strct [(0, 9), (1, 12)], true, .agg [.str [], .int .u64 0], false⟩ := by kernel_rfl
theorem tt_15 : E.tt 15 = ⟨false, 1, 8, .ptr 108, true, .nilp, false⟩ := by kernel_rfl
theorem tt_16 : E.tt 16 = ⟨false, 1, 8, .ptr 111, true, .nilp, false⟩ := by kernel_rfl
theorem tt_17 : E.tt 17 = ⟨false, 1, 8, .ptr 118, true, .nilp, false⟩ := by kernel_rfl
theorem tt_18 : E.tt 18 = ⟨true, 1, 8, .strct [(0, 17)], true, .agg [.nilp], false⟩ := by kernel_rfl
theorem tt_19 : E.tt 19 = ⟨true, 1, 8, .strct [(0, 17)], true, .agg [.nilp], false⟩ := by kernel_rfl
theorem tt_20 : E.tt 20 = ⟨false, 1, 16, .oth, true, .unk, false⟩ := by kernel_rfl
theorem tt_21 : E.tt 21 = ⟨false, 1, 4, .int .i32, true, .int .i32 0, false⟩ := by kernel_rfl
theorem tt_22 : E.tt 22 = ⟨false, 1, 24, .slc 9, true, .nils, false⟩ := by kernel_rfl
theorem tt_23 : E.tt 23 = ⟨false, 1, 8, .fn, true, .nilf, false⟩ := by kernel_rfl
theorem tt_24 : E.tt 24 = ⟨false, 1, 8, .fn, true, .nilf, false⟩ := by kernel_rfl
theorem tt_25 : E.tt 25 = ⟨false, 1, 8, .fn, true, .nilf, false⟩ := by kernel_rfl
theorem tt_26 : E.tt 26 = ⟨false, 1, 8, .fn, true, .nilf, false⟩ := by kernel_rfl
theorem tt_27 : E.tt 27 = ⟨false, 1, 4, .int .u32, true, .int .u32 0, false⟩ := by kernel_rfl
theorem tt_28 : E.tt 28 = ⟨true, 8, 32, .arr 8 27, true, .agg [.int .u32 0, .int .u32 0, .int .u32 0, .int .u32 0, .int .u32 0, .int .u32 0, .int .u32 0, .int .u32 0], true⟩ := by kernel_rfl
theorem tt_29 : E.tt 29 = ⟨true, 64, 256, .arr 64 27, true, .agg [.int .u32 0, .int .u32 0, .int .u32 0, .int .u32 0, .int .u32 0, .int .u32 0, .int .u32 0, .int .u32 0, .int .u32 0, .int .u32 0, .int .u32 0, .int .u32 0, .int .u32 0, .int .u32 0, .int .u32 0, .int .u32 0, .int .u32 0, .int .u32 0, .int .u32 0, .int .u32 0, .int .u32 0, .int .u32 0, .int .u32 0, .int .u32 0, .int .u32 0, .int .u32 0, .int .u32 0, .int .u32 0, .int .u32 0, .int .u32 0, .int .u32 0, .int .u32 0, .int .u32 0, .int .u32 0, .int .u32 0, .int .u32 0, .int .u32 0, .int .u32 0, .int .u32 0, .int .u32 0, .int .u32 0, .int .u32 0, .int .u32 0, .int .u32 0, .int .u32 0, .int .u32 0, .int .u32 0, .int .u32 0, .int .u32 0, .int .u32 0, .int .u32 0, .int .u32 0, .int .u32 0, .int .u32 0, .int .u32 0, .int .u32 0, .int .u32 0, .int .u32 0, .int .u32 0, .int .u32 0, .int .u32 0, .int .u32 0, .int .u32 0, .int .u32 0], true⟩ := by kernel_rfl
theorem tt_30 : E.tt 30 = ⟨true, 72, 288, .strct [(0, 28), (8, 29)], true, .agg [.int .u32 0, .int .u32 0, .int .u32 0, .int .u32 0, .int .u32 0, .int .u32 0, .int .u32 0, .int .u32 0, .int .u32 0, .int .u32 0, .int .u32 0, .int .u32 0, .int .u32 0, .int .u32 0, .int .u32 0, .int .u32 0, .int .u32 0, .int .u32 0, .int .u32 0, .int .u32 0, .int .u32 0, .int .u32 0, .int .u32 0, .int .u32 0, .int .u32 0, .int .u32 0, .int .u32 0, .int .u32 0, .int .u32 0, .int .u32 0, .int .u32 0, .int .u32 0, .int .u32 0, .int .u32 0, .int .u32 0, .int .u32 0, .int .u32 0, .int .u32 0, .int .u32 0, .int .u32 0, .int .u32 0, .int .u32 0, .int .u32 0, .int .u32 0, .int .u32 0, .int .u32 0, .int .u32 0, .int .u32 0, .int .u32 0, .int .u32 0, .int .u32 0, .int .u32 0, .int .u32 0, .int .u32 0, .int .u32 0, .int .u32 0, .int .u32 0, .int .u32 0, .int .u32 0, .int .u32 0, .int .u32 0, .int .u32 0, .int .u32 0, .int .u32 0, .int .u32 0, .int .u32 0, .int .u32 0, .int .u32 0, .int .u32 0, .int .u32 0, .int .u32 0, .int .u32 0], true⟩ := by kernel_rfl
theorem tt_31 : E.tt 31 = ⟨true, 72, 288, .strct [(0, 28), (8, 29)], true, .agg [.int .u32 0, .int .u32 0, .int .u32 0, .int .u32 0, .int .u32 0, .int .u32 0, .int .u32 0, .int .u32 0, .int .u32 0, .int .u32 0, .int .u32 0, .int .u32 0, .int .u32 0, .int .u32 0, .int .u32 0, .int .u32 0, .int .u32 0, .int .u32 0, .int .u32 0, .int .u32 0, .int .u32 0, .int .u32 0, .int .u32 0, .int .u32 0, .int .u32 0, .int .u32 0, .int .u32 0, .int .u32 0, .int .u32 0, .int .u32 0, .int .u32 0, .int .u32 0, .int .u32 0, .int .u32 0, .int .u32 0, .int .u32 0, .int .u32 0, .int .u32 0, .int .u32 0, .int .u32 0, .int .u32 0, .int .u32 0, .int .u32 0, .int .u32 0, .int .u32 0, .int .u32 0, .int .u32 0, .int .u32 0, .int .u32 0, .int .u32 0, .int .u32 0, .int .u32 0, .int .u32 0, .int .u32 0, .int .u32 0, .int .u32 0, .int .u32 0, .int .u32 0, .int .u32 0, .int .u32 0, .int .u32 0, .int .u32 0, .int .u32 0, .int .u32 0, .int .u32 0, .int .u32 0, .int .u32 0, .int .u32 0, .int .u32 0, .int .u32 0, .int .u32 0, .int .u32 0], true⟩ := by kernel_rfl
theorem tt_32 : E.tt 32 = ⟨false, 1, 8, .fn, true, .nilf, false⟩ := by kernel_rfl
theorem tt_33 : E.tt 33 = ⟨false, 1, 8, .fn, true, .nilf, false⟩ := by kernel_rfl
theorem tt_34 : E.tt 34 = ⟨false, 1, 8, .fn, true, .nilf, false⟩ := by kernel_rfl
theorem tt_35 : E.tt 35 = ⟨false, 1, 8, .fn, true, .nilf, false⟩ := by kernel_rfl
theorem tt_36 : E.tt 36 = ⟨false, 1, 8, .fn, true, .nilf, false⟩ := by kernel_rfl
theorem tt_37 : E.tt 37 = ⟨false, 1, 8, .fn, true, .nilf, false⟩ := by kernel_rfl
theorem tt_38 : E.tt 38 = ⟨false, 1, 24, .slc 5, true, .nils, false⟩ := by kernel_rfl
theorem tt_39 : E.tt 39 = ⟨false, 1, 8, .fn, true, .nilf, false⟩ := by kernel_rfl
theorem tt_40 : E.tt 40 = ⟨false, 1, 8, .fn, true, .nilf, false⟩ := by kernel_rfl
theorem tt_41 : E.tt 41 = ⟨false, 1, 0, .oth, true, .unk, false⟩ := by kernel_rfl
theorem tt_42 : E.tt 42 = ⟨false, 1, 8, .fn, true, .nilf, false⟩ := by kernel_rfl
theorem tt_43 : E.tt 43 = ⟨false, 1, 8, .fn, true, .nilf, false⟩ := by kernel_rfl
theorem tt_44 : E.tt 44 = ⟨false, 1, 8, .int .i64, true, .int .i64 0, false⟩ := by kernel_rfl
theorem tt_45 : E.tt 45 = ⟨false, 1, 0, .oth, true, .unk, false⟩ := by kernel_rfl
theorem tt_46 : E.tt 46 = ⟨false, 1, 8, .fn, true, .nilf, false⟩ := by kernel_rfl
theorem tt_47 : E.tt 47 = ⟨false, 1, 8, .fn, true, .nilf, false⟩ := by kernel_rfl
theorem tt_48 : E.tt 48 = ⟨false, 1, 8, .fn, true, .nilf, false⟩ := by kernel_rfl
theorem tt_49 : E.tt 49 = ⟨false, 1, 24, .slc 3, true, .nils, false⟩ := by kernel_rfl
theorem tt_50 : E.tt 50 = ⟨false, 1, 8, .ptr 83, true, .nilp, false⟩ := by kernel_rfl
theorem tt_51 : E.tt 51 = ⟨false, 1, 8, .fn, true, .nilf, false⟩ := by kernel_rfl
theorem tt_52 : E.tt 52 = ⟨false, 1, 8, .fn, true, .nilf, false⟩ := by kernel_rfl
theorem tt_53 : E.tt 53 = ⟨true, 2, 24, .strct [(0, 3), (1, 9)], true, .agg [.int .i64 0, .str []], true⟩ := by kernel_rfl
theorem tt_54 : E.tt 54 = ⟨true, 2, 24, .strct [(0, 3), (1, 9)], true, .agg [.int .i64 0, .str []], true⟩ := by kernel_rfl
theorem tt_55 : E.tt 55 = ⟨false, 1, 0, .oth, true, .unk, false⟩ := by kernel_rfl
theorem tt_56 : E.tt 56 = ⟨false, 1, 8, .fn, true, .nilf, false⟩ := by kernel_rfl
theorem tt_57 : E.tt 57 = ⟨false, 1, 0, .oth, true, .unk, false⟩ := by kernel_rfl
theorem tt_58 : E.tt 58 = ⟨false, 1, 8, .fn, true, .nilf, false⟩ := by kernel_rfl
theorem tt_59 : E.tt 59 = ⟨false, 1, 8, .fn, true, .nilf, false⟩ := by kernel_rfl
theorem tt_60 : E.tt 60 = ⟨false, 1, 8, .fn, true, .nilf, false⟩ := by kernel_rfl
theorem tt_61 : E.tt 61 = ⟨false, 1, 24, .slc 66, true, .nils, false⟩ := by kernel_rfl
theorem tt_62 : E.tt 62 = ⟨false, 1, 8, .ptr 64, true, .nilp, false⟩ := by kernel_rfl
theorem tt_63 : E.tt 63 = ⟨true, 79, 360, .strct [(0, 31), (72, 9), (73, 9), (74, 3), (75, 3), (76, 44), (77, 3), (78, 4)], true, .agg [.int .u32 0, .int .u32 0, .int .u32 0, .int .u32 0, .int .u32 0, .int .u32 0, .int .u32 0, .int .u32 0, .int .u32 0, .int .u32 0, .int .u32 0, .int .u32 0, .int .u32 0, .int .u32 0, .int .u32 0, .int .u32 0, .int .u32 0, .int .u32 0, .int .u32 0, .int .u32 0, .int .u32 0, .int .u32 0, .int .u32 0, .int .u32 0, .int .u32 0, .int .u32 0, .int .u32 0, .int .u32 0, .int .u32 0, .int .u32 0, .int .u32 0, .int .u32 0, .int .u32 0, .int .u32 0, .int .u32 0, .int .u32 0, .int .u32 0, .int .u32 0, .int .u32 0, .int .u32 0, .int .u32 0, .int .u32 0, .int .u32 0, .int .u32 0, .int .u32 0, .int .u32 0, .int .u32 0, .int .u32 0, .int .u32 0, .int .u32 0, .int .u32 0, .int .u32 0, .int .u32 0, .int .u32 0, .int .u32 0, .int .u32 0, .int .u32 0, .int .u32 0, .int .u32 0, .int .u32 0, .int .u32 0, .int .u32 0, .int .u32 0, .int .u32 0, .int .u32 0, .int .u32 0, .int .u32 0, .int .u32 0, .int .u32 0, .int .u32 0, .int .u32 0, .int .u32 0, .str [], .str [], .int .i64 0, .int .i64 0, .int .i64 0, .int .i64 0, .bool false], true⟩ := by kernel_rfl
theorem tt_64 : E.tt 64 = ⟨true, 79, 360, .strct [(0, 31), (72, 9), (73, 9), (74, 3), (75, 3), (76, 44), (77, 3), (78, 4)], true, .agg [.int .u32 0, .int .u32 0, .int .u32 0, .int .u32 0, .int .u32 0, .int .u32 0, .int .u32 0, .int .u32 0, .int .u32 0, .int .u32 0, .int .u32 0, .int .u32 0, .int .u32 0, .int .u32 0, .int .u32 0, .int .u32 0, .int .u32 0, .int .u32 0, .int .u32 0, .int .u32 0, .int .u32 0, .int .u32 0, .int .u32 0, .int .u32 0, .int .u32 0, .int .u32 0, .int .u32 0, .int .u32 0, .int .u32 0, .int .u32 0, .int .u32 0, .int .u32 0, .int .u32 0, .int .u32 0, .int .u32 0, .int .u32 0, .int .u32 0, .int .u32 0, .int .u32 0, .int .u32 0, .int .u32 0, .int .u32 0, .int .u32 0, .int .u32 0, .int .u32 0, .int .u32 0, .int .u32 0, .int .u32 0, .int .u32 0, .int .u32 0, .int .u32 0, .int .u32 0, .int .u32 0, .int .u32 0, .int .u32 0, .int .u32 0, .int .u32 0, .int .u32 0, .int .u32 0, .int .u32 0, .int .u32 0, .int .u32 0, .int .u32 0, .int .u32 0, .int .u32 0, .int .u32 0, .int .u32 0, .int .u32 0, .int .u32 0, .int .u32 0, .int .u32 0, .int .u32 0, .str [], .str [], .int .i64 0, .int .i64 0, .int .i64 0, .int .i64 0, .bool false], true⟩ := by kernel_rfl
theorem tt_65 : E.tt 65 = ⟨true, 3, 32, .strct [(0, 3), (1, 3), (2, 9)], true, .agg [.int .i64 0, .int .i64 0, .str []], true⟩ := by kernel_rfl
theorem tt_66 : E.tt 66 = ⟨true, 3, 32, .strct [(0, 3), (1, 3), (2, 9)], true, .agg [.int .i64 0, .int .i64 0, .str []], true⟩ := by kernel_rfl
theorem tt_67 : E.tt 67 = ⟨false, 1, 0, .oth, true, .unk, false⟩ := by kernel_rfl
theorem tt_68 : E.tt 68 = ⟨false, 1, 8, .fn, true, .nilf, false⟩ := by kernel_rfl
theorem tt_69 : E.tt 69 = ⟨false, 1, 8, .fn, true, .nilf, false⟩ := by kernel_rfl
theorem tt_70 : E.tt 70 = ⟨false, 1, 8, .fn, true, .nilf, false⟩ := by kernel_rfl
theorem tt_71 : E.tt 71 = ⟨false, 1, 8, .fn, true, .nilf, false⟩ := by kernel_rfl
theorem tt_72 : E.tt 72 = ⟨false, 1, 8, .fn, true, .nilf, false⟩ := by kernel_rfl
theorem tt_73 : E.tt 73 = ⟨false, 1, 8, .int .u64, true, .int .u64 0, false⟩ := by kernel_rfl
theorem tt_74 : E.tt 74 = ⟨false, 1, 8, .int .u64, true, .int .u64 0, false⟩ := by kernel_rfl
theorem tt_75 : E.tt 75 = ⟨false, 1, 8, .fn, true, .nilf, false⟩ := by kernel_rfl
theorem tt_76 : E.tt 76 = ⟨false, 1, 8, .fn, true, .nilf, false⟩ := by kernel_rfl
theorem tt_77 : E.tt 77 = ⟨false, 1, 8, .fn, true, .nilf, false⟩ := by kernel_rfl
theorem tt_78 : E.tt 78 = ⟨false, 1, 8, .fn, true, .nilf, false⟩ := by kernel_rfl
theorem tt_79 : E.tt 79 = ⟨false, 1, 8, .fn, true, .nilf, false⟩ := by kernel_rfl
theorem tt_80 : E.tt 80 = ⟨false, 1, 0, .oth, true, .unk, false⟩ := by kernel_rfl
theorem tt_81 : E.tt 81 = ⟨false, 1, 8, .fn, true, .nilf, false⟩ := by kernel_rfl
theorem tt_82 : E.tt 82 = ⟨true, 8, 72, .strct [(0, 3), (1, 9), (2, 3), (3, 4), (4, 4), (5, 9), (6, 44), (7, 3)], true, .agg [.int .i64 0, .str [], .int .i64 0, .bool false, .bool false, .str [], .int .i64 0, .int .i64 0], true⟩ := by kernel_rfl
theorem tt_83 : E.tt 83 = ⟨true, 8, 72, .strct [(0, 3), (1, 9), (2, 3), (3, 4), (4, 4), (5, 9), (6, 44), (7, 3)], true, .agg [.int .i64 0, .str [], .int .i64 0, .bool false, .bool false, .str [], .int .i64 0, .int .i64 0], true⟩ := by kernel_rfl
theorem tt_84 : E.tt 84 = ⟨false, 1, 8, .fn, true, .nilf, false⟩ := by kernel_rfl
theorem tt_85 : E.tt 85 = ⟨false, 1, 8, .ptr 87, true, .nilp, false⟩ := by kernel_rfl
theorem tt_86 : E.tt 86 = ⟨true, 2, 32, .strct [(0, 85), (1, 38)], true, .agg [.nilp, .nils], true⟩ := by kernel_rfl
theorem tt_87 : E.tt 87 = ⟨true, 2, 32, .strct [(0, 85), (1, 38)], true, .agg [.nilp, .nils], true⟩ := by kernel_rfl
theorem tt_88 : E.tt 88 = ⟨false, 1, 8, .fn, true, .nilf, false⟩ := by kernel_rfl
theorem tt_89 : E.tt 89 = ⟨false, 1, 16, .oth, true, .unk, false⟩ := by kernel_rfl
theorem tt_90 : E.tt 90 = ⟨false, 1, 16, .oth, true, .unk, false⟩ := by kernel_rfl
theorem tt_91 : E.tt 91 = ⟨false, 1, 0, .oth, true, .unk, false⟩ := by kernel_rfl
theorem tt_92 : E.tt 92 = ⟨false, 1, 8, .fn, true, .nilf, false⟩ := by kernel_rfl
theorem tt_93 : E.tt 93 = ⟨false, 1, 8, .fn, true, .nilf, false⟩ := by kernel_rfl
theorem tt_94 : E.tt 94 = ⟨false, 1, 8, .fn, true, .nilf, false⟩ := by kernel_rfl
theorem tt_95 : E.tt 95 = ⟨false, 1, 24, .slc 27, true, .nils, false⟩ := by kernel_rfl
theorem tt_96 : E.tt 96 = ⟨false, 1, 24, .slc 27, true, .nils, false⟩ := by kernel_rfl
theorem tt_97 : E.tt 97 = ⟨false, 1, 8, .fn, true, .nilf, false⟩ := by kernel_rfl
theorem tt_98 : E.tt 98 = ⟨false, 1, 8, .fn, true, .nilf, false⟩ := by kernel_rfl
theorem tt_99 : E.tt 99 = ⟨false, 1, 8, .fn, true, .nilf, false⟩ := by kernel_rfl
theorem tt_100 : E.tt 100 = ⟨false, 1, 8, .fn, true, .nilf, false⟩ := by kernel_rfl
theorem tt_101 : E.tt 101 = ⟨false, 1, 8, .fn, true, .nilf, false⟩ := by kernel_rfl
theorem tt_102 : E.tt 102 = ⟨false, 1, 8, .ptr 5, true, .nilp, false⟩ := by kernel_rfl
theorem tt_103 : E.tt 103 = ⟨false, 1, 8, .fn, true, .nilf, false⟩ := by kernel_rfl
theorem tt_104 : E.tt 104 = ⟨false, 1, 8, .oth, true, .nilp, false⟩ := by kernel_rfl
theorem tt_105 : E.tt 105 = ⟨false, 1, 8, .fn, true, .nilf, false⟩ := by kernel_rfl
theorem tt_106 : E.tt 106 = ⟨false, 1, 8, .fn, true, .nilf, false⟩ := by kernel_rfl
theorem tt_107 : E.tt 107 = ⟨true, 4, 40, .strct [(0, 17), (1, 17), (2, 17), (3, 9)], true, .agg [.nilp, .nilp, .nilp, .str []], false⟩ := by kernel_rfl
theorem tt_108 : E.tt 108 = ⟨true, 4, 40, .strct [(0, 17), (1, 17), (2, 17), (3, 9)], true, .agg [.nilp, .nilp, .nilp, .str []], false⟩ := by kernel_rfl
theorem tt_109 : E.tt 109 = ⟨true, 0, 0, .arr 0 16, true, .agg [], true⟩ := by kernel_rfl
theorem tt_110 : E.tt 110 = ⟨true, 0, 0, .strct [(0, 109)], true, .agg [], false⟩ := by kernel_rfl
theorem tt_111 : E.tt 111 = ⟨true, 0, 0, .strct [(0, 109)], true, .agg [], false⟩ := by kernel_rfl
theorem tt_112 : E.tt 112 = ⟨false, 1, 1, .int .u8, true, .int .u8 0, false⟩ := by kernel_rfl
theorem tt_113 : E.tt 113 = ⟨false, 1, 1, .int .u8, true, .int .u8 0, false⟩ := by kernel_rfl
theorem tt_114 : E.tt 114 = ⟨false, 1, 8, .fn, true, .nilf, false⟩ := by kernel_rfl
theorem tt_115 : E.tt 115 = ⟨false, 1, 4, .int .i32, true, .int .i32 0, false⟩ := by kernel_rfl
theorem tt_116 : E.tt 116 = ⟨false, 1, 4, .int .i32, true, .int .i32 0, false⟩ := by kernel_rfl
theorem tt_117 : E.tt 117 = ⟨true, 11, 48, .strct [(0, 12), (1, 12), (2, 27), (3, 112), (4, 5), (5, 5), (6, 113), (7, 114), (8, 102), (9, 115), (10, 116)], true, .agg [.int .u64 0, .int .u64 0, .int .u32 0, .int .u8 0, .int .u8 0, .int .u8 0, .int .u8 0, .nilf, .nilp, .int .i32 0, .int .i32 0], false⟩ := by kernel_rfl
theorem tt_118 : E.tt 118 = ⟨true, 11, 48, .strct [(0, 12), (1, 12), (2, 27), (3, 112), (4, 5), (5, 5), (6, 113), (7, 114), (8, 102), (9, 115), (10, 116)], true, .agg [.int .u64 0, .int .u64 0, .int .u32 0, .int .u8 0, .int .u8 0, .int .u8 0, .int .u8 0, .nilf, .nilp, .int .i32 0, .int .i32 0], false⟩ := by kernel_rfl
attribute [go_sem] AW_skip AW_seq AW_region AW_drawn AW_drawnC AW_drawnN AW_cond AW_block AW_loop AW_exit AW_ret thn_normal thn_exit thn_ret blk_normal blk_exit blk_ret AR_nil AR_cons AT_eq AX_eq ork_some ork_none_ef KP_eq KT_eq put_some put_none gd_tt gd_ff gd_tf gd_ft gd_tup cnd_t cnd_f retQ_normal retQ_ret init_eq ev_tmp ev_const ev_global ev_func upd_eq AW_rf bmid_eq rnd_normal rnd_ret rnd_exit pv ef_box ef_alloc ef_store ef_make ef_bslice ef_append ef_conv ef_eql KV_eq KR_eq resD one' imp imps impB kp_nil pos_nil nof_eq kp_eq HLe_nil HLe EnvLe look BLe refs refss flat flats frz St.frz mx Option.isSome_some Option.isSome_none cl cls ofVal ofVals asAgg_agg cellsOf part rd ldd cur ork_grd grd_true bits_u64 bits_u32 bits_u8 bits_i64 bits_i32 min_pos fdiv_lit shr_lit wrap_i64 wrap_i32 wrap_u64 wrap_u32 wrap_u8 bin un lenD bds cutD conv mm one_int one_bool one_str one_nilp one_nils one_nilm one_nilf one_ro one_ra one_ad one_fn one_vs one_gl one_agg one_tup one_unk one_sl one_el chk wr lookB up srcOf fits over nbad isU8 u8Of List.getD_cons_zero List.getD_cons_succ List.getD_nil List.map_cons List.map_nil List.all_cons List.all_nil List.cons_append List.nil_append List.append_nil List.length_cons List.length_nil List.take_succ_cons List.take_zero List.take_nil List.drop_succ_cons List.drop_zero List.drop_nil List.getElem?_cons_zero List.getElem?_cons_succ List.getElem?_nil List.head?_cons List.getElem?_toArray Option.bind_some Option.bind_none Option.map_some Option.map_none Bool.and_true Bool.true_and Bool.false_and Bool.and_false Bool.or_true Bool.true_or Bool.false_or Bool.or_false Bool.not_true Bool.not_false beq_self_eq_true and_true true_and and_false false_and ne_eq not_true_eq_false not_false_eq_true if_true if_false Bool.false_eq_true Nat.add_eq_zero_iff Nat.zero_add Nat.add_zero Nat.one_ne_zero Nat.zero_ne_one List.range_succ List.range_zero decide_true decide_false decide_eq_true_eq decide_eq_false_iff_not Nat.sub_zero Int.toNat_zero Nat.zero_le Int.toNat_natCast Int.cast_ofNat_Int noFz Onw Frs kn elt slen eqOr eqD eqL Nat.max_eq_left Nat.max_eq_right givOk List.contains_nil List.contains_cons aft mrg ex exD exDs exB impH pos fsOf refB List.flatMap_cons List.flatMap_nil List.length_singleton List.isEmpty_cons List.isEmpty_nil LeV_self Le_self LesV_self lim_tt lim_gv ite_someD Nat.mul_one List.length_map List.length_append
attribute [go_sem] tt_0 tt_1 tt_2 tt_3 tt_4 tt_5 tt_6 tt_7 tt_8 tt_9 tt_10 tt_11 tt_12 tt_13 tt_14 tt_15 tt_16 tt_17 tt_18 tt_19 tt_20 tt_21 tt_22 tt_23 tt_24 tt_25 tt_26 tt_27 tt_28 tt_29 tt_30 tt_31 tt_32 tt_33 tt_34 tt_35 tt_36 tt_37 tt_38 tt_39 tt_40 tt_41 tt_42 tt_43 tt_44 tt_45 tt_46 tt_47 tt_48 tt_49 tt_50 tt_51 tt_52 tt_53 tt_54 tt_55 tt_56 tt_57 tt_58 tt_59 tt_60 tt_61 tt_62 tt_63 tt_64 tt_65 tt_66 tt_67 tt_68 tt_69 tt_70 tt_71 tt_72 tt_73 tt_74 tt_75 tt_76 tt_77 tt_78 tt_79 tt_80 tt_81 tt_82 tt_83 tt_84 tt_85 tt_86 tt_87 tt_88 tt_89 tt_90 tt_91 tt_92 tt_93 tt_94 tt_95 tt_96 tt_97 tt_98 tt_99 tt_100 tt_101 tt_102 tt_103 tt_104 tt_105 tt_106 tt_107 tt_108 tt_109 tt_110 tt_111 tt_112 tt_113 tt_114 tt_115 tt_116 tt_117 tt_118 
end Go.Proofs.YtpobbfhdkbnpmaaDoor.Lv
